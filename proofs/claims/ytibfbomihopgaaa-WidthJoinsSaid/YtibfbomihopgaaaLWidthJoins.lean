/-
  WidthJoins: for every input the law returns true; each argument reads behind the call as it read before. No condition. (Printed by wip/genJoins.py.)
-/
import Derived.Test.YtibfbomihopgaaaWidA
import Derived.Test.YtibfbomihopgaaaWidF
import Derived.Test.YtibfbomihopgaaaWidC
import Derived.ChangeOld
namespace Go.Cor
open Go
theorem owns_start {w : World} {B : Nat} {E : TypeId} {k : IntKind} {A : Option Addr} {n c : Nat} {xs : List Int} (h : w.ownsRow B E 1 (.slice A (0 + n) c) (0 + n) ([] ++ xs.map (.int k))) : Owns w B E k A n c xs := by rw [Nat.zero_add] at h; exact h
theorem arr3 (w : World) (t : TypeId) (Z : List Int) :
    Arr (((w.alloc (.cells (rowOf Z) t)).alloc (.cells (rowOf Z) t)).alloc (.cells (rowOf Z) t)) w.heap.size t Z ∧
    Arr (((w.alloc (.cells (rowOf Z) t)).alloc (.cells (rowOf Z) t)).alloc (.cells (rowOf Z) t)) (w.heap.size + 1) t Z ∧
    Arr (((w.alloc (.cells (rowOf Z) t)).alloc (.cells (rowOf Z) t)).alloc (.cells (rowOf Z) t)) (w.heap.size + 2) t Z := by
  refine ⟨((Arr.new _ _ _).alloc _).alloc _, ?_, ?_⟩
  · have := Arr.new (w.alloc (.cells (rowOf Z) t)) t Z
    rw [World.size_alloc] at this
    exact this.alloc _
  · have := Arr.new ((w.alloc (.cells (rowOf Z) t)).alloc (.cells (rowOf Z) t)) t Z
    rwa [World.size_alloc, World.size_alloc] at this
theorem most_app (l m : List Int) : most (l ++ m) = max (most l) (most m) := by
  have gen : ∀ (r : List Int) (a : Int), 0 ≤ a → r.foldl (fun m v => max m (bw v)) a = max a (most r) := by
    intro r
    induction r with
    | nil => intro a ha; show a = max a 0; omega
    | cons x r ih =>
      intro a ha
      have hb : 0 ≤ bw x := by unfold bw; omega
      have h1 := ih (max a (bw x)) (by omega)
      have h2 := ih (max 0 (bw x)) (by omega)
      unfold most
      rw [List.foldl_cons, List.foldl_cons, h1, h2]; omega
  have h0 : 0 ≤ most l := by have := gen l 0 (by omega); unfold most; rw [this]; omega
  unfold most
  rw [List.foldl_append]
  exact gen m _ h0
theorem minOf_app (a : Int) (l m : List Int) : minOf a (l ++ m) = minOf (minOf a l) m := by unfold minOf; rw [List.foldl_append]
theorem minOf_min (a : Int) (l : List Int) : l ≠ [] → ∀ b, b ∈ l → minOf b l = least l := fun hl b hb => by
  have h1 := minOf_le b l
  have h2 := minOf_mem b l
  have h3 := least_mem hl
  have h4 := least_le (l := l)
  have e1 := h1.2 _ h3
  have e2 : least l ≤ minOf b l := by rcases h2 with e | e
                                      · rw [e]; exact h4 b hb
                                      · exact h4 _ e
  omega
theorem least_app {l m : List Int} : (l ≠ [] → least (l ++ m) ≤ least l) ∧ (m ≠ [] → least (l ++ m) ≤ least m) ∧ ((l ≠ [] ∧ least (l ++ m) = least l) ∨ (m ≠ [] ∧ least (l ++ m) = least m) ∨ (l = [] ∧ m = [])) := by
  have hle := least_le (l := l ++ m)
  refine ⟨fun h => hle _ (List.mem_append.2 (.inl (least_mem h))), fun h => hle _ (List.mem_append.2 (.inr (least_mem h))), ?_⟩
  by_cases h1 : l ++ m = []
  · exact .inr (.inr (List.append_eq_nil_iff.1 h1))
  · rcases List.mem_append.1 (least_mem h1) with h | h
    · have hl : l ≠ [] := by rintro rfl; cases h
      exact .inl ⟨hl, Int.le_antisymm (hle _ (List.mem_append.2 (.inl (least_mem hl)))) (least_le _ h)⟩
    · have hm : m ≠ [] := by rintro rfl; cases h
      exact .inr (.inl ⟨hm, Int.le_antisymm (hle _ (List.mem_append.2 (.inr (least_mem hm)))) (least_le _ h)⟩)
theorem backs_app (f : Int) (l m : List Int) : backs f (l ++ m) = backs f l ++ backs f m := by simp [backs]
end Go.Cor
namespace Go.Proofs.Ytibfbomihopgaaa
open Go.RowKit Go.Cor Go.Free

theorem cnt_gen (l : List Int) (hf : ∀ x ∈ l, 0 ≤ x ∧ x ≤ 18446744073709551615) (k : Nat) (hk : k < 65) : ∀ c : List Int, c.length = 65 → (l.foldl cntUpd c)[k]?.getD 0 = c[k]?.getD 0 + (l.countP (fun x => (bw x).toNat == k) : Int) := by
  induction l with
  | nil => intro c _; simp
  | cons x r ih =>
    intro c hc
    have hx := bw_bound x (hf x (by simp)).2
    rw [List.foldl_cons, ih (fun y hy => hf y (by simp [hy])) (cntUpd c x) (by rw [cntUpd_len, hc]), List.countP_cons]
    unfold cntUpd
    by_cases e : (bw x).toNat = k
    · rw [e, List.getElem?_set_self (by omega)]
      simp [e]
      omega
    · rw [List.getElem?_set_ne e]
      simp [e]
theorem counts_app (l m : List Int) (hl : ∀ x ∈ l, 0 ≤ x ∧ x ≤ 18446744073709551615) (hm : ∀ x ∈ m, 0 ≤ x ∧ x ≤ 18446744073709551615) (k : Nat) (hk : k < 65) :
    (counts l)[k]?.getD 0 + (counts m)[k]?.getD 0 = (counts (l ++ m))[k]?.getD 0 := by
  have h0 : zero65[k]?.getD 0 = 0 := by unfold zero65; rw [List.getElem?_replicate]; split <;> rfl
  unfold counts
  rw [cnt_gen l hl k hk _ rfl, cnt_gen m hm k hk _ rfl, cnt_gen (l ++ m) (fun x hx => (List.mem_append.1 hx).elim (hl x) (hm x)) k hk _ rfl, List.countP_append, h0]
  omega

set_option maxRecDepth 100000 in
set_option maxHeartbeats 8000000 in
theorem WidthJoins_walk (W : World) (A1 : Option Addr) (n1 c1 : Nat) (xs : List Int) (h1 : Rd W .u64 A1 n1 c1 xs) (hi1 : In .u64 xs) (A2 : Option Addr) (n2 c2 : Nat) (ys : List Int) (h2 : Rd W .u64 A2 n2 c2 ys) (hi2 : In .u64 ys) :
    Calls Try.prog 14 #[.slice A1 n1 c1, .slice A2 n2 c2] W fun e w' => e = .returned (.bool true) ∧ Below W.heap.size W w' := by
  by_cases hn : 200 < n1 ∨ 200 < n2
  · clear h1 h2 hi1 hi2
    by_cases hn1 : 200 < n1
    · go_enter Try.func14, Try.ntmps14
      go_wp2
      go_ret
      exact ⟨rfl, Below.refl _ _⟩
    · have hn2 : 200 < n2 := by omega
      have hn3 : n1 ≤ 200 := by omega
      clear hn hn1
      go_enter Try.func14, Try.ntmps14
      go_wp2
      go_ret
      exact ⟨rfl, Below.refl _ _⟩
  have hn1 : n1 ≤ 200 := by omega
  have hn2 : n2 ≤ 200 := by omega
  clear hn
  have hf1 : ∀ x ∈ xs, 0 ≤ x ∧ x ≤ 18446744073709551615 := hi1
  have hf2 : ∀ x ∈ ys, 0 ≤ x ∧ x ≤ 18446744073709551615 := hi2
  have hf3 : ∀ x ∈ xs ++ ys, 0 ≤ x ∧ x ≤ 18446744073709551615 := fun x hx => (List.mem_append.1 hx).elim (hf1 x) (hf2 x)
  have hsum := counts_app xs ys hf1 hf2
  have hz := zero65_run
  have hc1 := fun w h => count_any A1 n1 c1 xs w h (by omega) hf1
  have hc2 := fun w h => count_any A2 n2 c2 ys w h (by omega) hf2
  have hc3 := fun A n c w h (hn : n ≤ 1000) => count_any A n c (xs ++ ys) w h hn hf3
  have hbd1 : ∀ k : Nat, k < 65 → (0 ≤ (counts xs)[k]?.getD 0 ∧ (counts xs)[k]?.getD 0 ≤ 200) := fun k hk => by
    have hl := counts_len xs
    have hb := counts_bd xs ((counts xs)[k]?.getD 0) (by rw [List.getElem?_eq_getElem (by omega)]; exact List.getElem_mem _)
    have := h1.len; omega
  have hbd2 : ∀ k : Nat, k < 65 → (0 ≤ (counts ys)[k]?.getD 0 ∧ (counts ys)[k]?.getD 0 ≤ 200) := fun k hk => by
    have hl := counts_len ys
    have hb := counts_bd ys ((counts ys)[k]?.getD 0) (by rw [List.getElem?_eq_getElem (by omega)]; exact List.getElem_mem _)
    have := h2.len; omega
  have hl1 := counts_len xs
  have hl2 := counts_len ys
  have hl3 := counts_len (xs ++ ys)
  obtain ⟨X, hX⟩ : ∃ X, counts xs = X := ⟨_, rfl⟩
  obtain ⟨Y, hY⟩ : ∃ X, counts ys = X := ⟨_, rfl⟩
  obtain ⟨V, hV⟩ : ∃ X, counts (xs ++ ys) = X := ⟨_, rfl⟩
  obtain ⟨Z, hZ⟩ : ∃ Z, zero65 = Z := ⟨_, rfl⟩
  have hzl : Z.length = 65 := by rw [← hZ]; rfl
  rw [hX] at hsum hc1 hbd1 hl1
  rw [hY] at hsum hc2 hbd2 hl2
  rw [hV] at hsum hc3 hl3
  rw [hZ] at hz
  have hm1 := fun w h => most_any A1 n1 c1 xs w h (by omega) hf1
  have hm2 := fun w h => most_any A2 n2 c2 ys w h (by omega) hf2
  have hm3 := fun A n c w h (hn : n ≤ 1000) => most_any A n c (xs ++ ys) w h hn hf3
  rw [most_app] at hm3
  obtain ⟨M1, hM1⟩ : ∃ X, most xs = X := ⟨_, rfl⟩
  obtain ⟨M2, hM2⟩ : ∃ X, most ys = X := ⟨_, rfl⟩
  rw [hM1] at hm1 hm3
  rw [hM2] at hm2 hm3
  have hla := least_app (l := backs 0 xs) (m := backs 0 ys)
  have hx0 : backs 0 xs ≠ [] ↔ 0 < n1 := by have := h1.len; rw [← List.length_pos_iff]; simp [backs, this]
  have hy0 : backs 0 ys ≠ [] ↔ 0 < n2 := by have := h2.len; rw [← List.length_pos_iff]; simp [backs, this]
  have hx1 : backs 0 xs = [] ↔ n1 = 0 := by have := h1.len; rw [← List.length_eq_zero_iff]; simp [backs, this]
  have hy1 : backs 0 ys = [] ↔ n2 = 0 := by have := h2.len; rw [← List.length_eq_zero_iff]; simp [backs, this]
  rw [hx0, hy0, hx1, hy1] at hla
  have hq1 := fun A c w h => least_any A n1 c (backs 0 xs) w h (by omega)
  have hq2 := fun A c w h => least_any A n2 c (backs 0 ys) w h (by omega)
  have hq3 := fun A c w h => least_any A (n1 + n2) c (backs 0 xs ++ backs 0 ys) w h (by omega)
  obtain ⟨a, ha⟩ : ∃ X, least (backs 0 xs) = X := ⟨_, rfl⟩
  obtain ⟨b, hb⟩ : ∃ X, least (backs 0 ys) = X := ⟨_, rfl⟩
  obtain ⟨c, hc⟩ : ∃ X, least (backs 0 xs ++ backs 0 ys) = X := ⟨_, rfl⟩
  rw [ha] at hla hq1
  rw [hb] at hla hq2
  rw [hc] at hla hq3
  obtain ⟨is, his⟩ : ∃ X, decide (0 < n1) = X := ⟨_, rfl⟩
  obtain ⟨so, hso⟩ : ∃ X, decide (0 < n2) = X := ⟨_, rfl⟩
  have hany : decide (0 < n1 + n2) = (is || so) := by
    rw [← his, ← hso, Bool.eq_iff_iff]; simp; omega
  rw [his] at hq1
  rw [hso] at hq2
  rw [hany] at hq3
  have hfacts : (is = true → c ≤ a) ∧ (so = true → c ≤ b) ∧ ((is = true ∧ c = a) ∨ (so = true ∧ c = b) ∨ (is = false ∧ so = false)) := by
    refine ⟨fun e => hla.1 (of_decide_eq_true (his.trans e)), fun e => hla.2.1 (of_decide_eq_true (hso.trans e)), ?_⟩
    rcases hla.2.2 with ⟨e1, e2⟩ | ⟨e1, e2⟩ | ⟨e1, e2⟩
    · exact .inl ⟨by rw [← his]; simpa using e1, e2⟩
    · exact .inr (.inl ⟨by rw [← hso]; simpa using e1, e2⟩)
    · exact .inr (.inr ⟨by rw [← his, e1]; rfl, by rw [← hso, e2]; rfl⟩)
  have H1 := Lib.hid h1
  have H2 := Lib.hid h2
  have HSUM := Lib.hid hsum
  have HC1 := Lib.hid hc1
  have HC2 := Lib.hid hc2
  have HC3 := Lib.hid hc3
  have HBD1 := Lib.hid hbd1
  have HBD2 := Lib.hid hbd2
  have HL1 := Lib.hid hl1
  have HL2 := Lib.hid hl2
  have HL3 := Lib.hid hl3
  have HZL := Lib.hid hzl
  have HMM1 := Lib.hid hm1
  have HMM2 := Lib.hid hm2
  have HMM3 := Lib.hid hm3
  have HQ1 := Lib.hid hq1
  have HQ2 := Lib.hid hq2
  have HQ3 := Lib.hid hq3
  have HFACT := Lib.hid hfacts
  clear h1 h2 hi1 hi2 hf1 hf2 hf3 hsum hc1 hc2 hc3 hbd1 hbd2 hl1 hl2 hl3 hzl hm1 hm2 hm3 hq1 hq2 hq3 hfacts hla hx0 hy0 hx1 hy1 ha hb hc his hso hany hX hY hV hZ hM1 hM2
  go_enter Try.func14, Try.ntmps14
  go_wp2_with (at_builtin; first | (refine wpList_append_r rfl rfl elemU64 (owns_lit0 (Nat.le_refl _)) rfl (Rd.toV (H1.out.alloc _)) rfl ints_one (by omega) (by omega) (by simp) ?_; intro A3 c3 w3 hown3 hg3 _; (have HO3 := Lib.hid (owns_start hown3); have HB3 := Lib.hid (below_grown ((Below.refl W.heap.size W).alloc (Nat.le_refl _) _) (owns_lit0 (E := 23) (size := 1) (Nat.le_refl _)) hg3 (by simp)); clear hown3 hg3)) | (refine wpList_append_r rfl rfl elemU64 HO3.out rfl (Rd.toV (H2.out.below HB3.out)) rfl ints_one (by omega) (by omega) HB3.out.size ?_; intro A4 c4 w4 hown4 hg4 _))
  have HO4 := Lib.hid (Rd.own (owns_app hown4))
  have HB4 := Lib.hid (below_grown HB3.out HO3.out hg4 HB3.out.size)
  clear hown4 hg4
  go_wp2_with fail
  refine (HC1.out w4 (H1.out.below HB4.out)).mono ?_
  rintro e w5 ⟨rfl, hb5⟩
  have HO5 := Lib.hid (HO4.out.below hb5)
  have HB5 := Lib.hid (HB4.out.trans (hb5.mono HB4.out.size))
  clear hb5
  go_wp2_with fail
  refine (HC2.out w5 (H2.out.below HB5.out)).mono ?_
  rintro e w6 ⟨rfl, hb6⟩
  have HO6 := Lib.hid (HO5.out.below hb6)
  have HB6 := Lib.hid (HB5.out.trans (hb6.mono HB5.out.size))
  clear hb6
  go_wp2_with fail
  refine (HC3.out _ _ _ w6 HO6.out (by omega)).mono ?_
  rintro e w7 ⟨rfl, hb7⟩
  have HO7 := Lib.hid (HO6.out.below hb7)
  have HB7 := Lib.hid (HB6.out.trans (hb7.mono HB6.out.size))
  clear hb7
  go_wp2_with (first | (refine wpList_store_row rfl 52 (.tmp 6) (.tmp 30) rfl w7.heap.size (rowOf X) rfl rfl 52 (rowOf Z) (arr3 w7 _ Z).1 (size65' _ HL1.out) (by rw [rowOf_size, rowOf_size, HZL.out, HL1.out]) (rowOf_one _) ?_) | (refine wpList_store_row rfl 52 (.tmp 7) (.tmp 32) rfl (w7.heap.size + 1) (rowOf Y) rfl rfl 52 (rowOf Z) ((arr3 w7 _ Z).2.1.row_other (by omega) _) (size65' _ HL2.out) (by rw [rowOf_size, rowOf_size, HZL.out, HL2.out]) (rowOf_one _) ?_) | (refine wpList_store_row rfl 52 (.tmp 8) (.tmp 34) rfl (w7.heap.size + 2) (rowOf V) rfl rfl 52 (rowOf Z) (((arr3 w7 _ Z).2.2.row_other (by omega) _).row_other (by omega) _) (size65' _ HL3.out) (by rw [rowOf_size, rowOf_size, HZL.out, HL3.out]) (rowOf_one _) ?_))
  clear hz
  go_loopw [9, 35, 36, 37, 38, 39, 40, 41, 42, 43, 44, 45, 46, 47, 48, 49] (fun v9 _ _ _ _ _ _ _ _ _ _ _ _ _ _ _ wr => ∃ k : Nat, v9 = .int .i64 k ∧ k ≤ 65 ∧ Hid (Arr wr w7.heap.size 52 X ∧ Arr wr (w7.heap.size + 1) 52 Y ∧ Arr wr (w7.heap.size + 2) 52 V ∧ Below w7.heap.size w7 wr)) (fun v9 _ _ _ _ _ _ _ _ _ _ _ _ _ _ _ _ => 65 - (intOf v9).toNat)
  case atStart =>
    refine ⟨0, rfl, by omega, Lib.hid ⟨?_, ?_, ?_, ?_⟩⟩
    · exact (((arr3 w7 _ Z).1.setRow X).row_other (by omega) _).row_other (by omega) _
    · exact (((arr3 w7 _ Z).2.1.row_other (by omega) _).setRow Y).row_other (by omega) _
    · exact (((arr3 w7 _ Z).2.2.row_other (by omega) _).row_other (by omega) _).setRow V
    · exact below_setRow (below_setRow (below_setRow ((((Below.refl _ _).alloc (Nat.le_refl _) _).alloc (by simp) _).alloc (by simp; omega) _) (Nat.le_refl _) _) (by omega) _) (by omega) _
  case round =>
    obtain ⟨k, rfl, hk, hI⟩ := hrel
    by_cases hlt : k < 65
    · have cx := hI.out.1.cell (k := k) (by rw [HL1.out]; exact hlt)
      have cy := hI.out.2.1.cell (k := k) (by rw [HL2.out]; exact hlt)
      have cv := hI.out.2.2.1.cell (k := k) (by rw [HL3.out]; exact hlt)
      have hs := HSUM.out k hlt
      obtain ⟨p1, p2⟩ := HBD1.out k hlt
      obtain ⟨p3, p4⟩ := HBD2.out k hlt
      rw [← hs] at cv
      obtain ⟨x, hx⟩ : ∃ x, X[k]?.getD 0 = x := ⟨_, rfl⟩
      obtain ⟨y, hy⟩ : ∃ x, Y[k]?.getD 0 = x := ⟨_, rfl⟩
      rw [hx] at cx cv p1 p2
      rw [hy] at cy cv p3 p4
      have CX := Lib.hid cx
      have CY := Lib.hid cy
      have CV := Lib.hid cv
      have hlx := lt_of_block hI.out.1
      have hly := lt_of_block hI.out.2.1
      have hlv := lt_of_block hI.out.2.2.1
      clear hs hx hy cx cy cv
      go_wp2_with fail
      refine wp_region_free 11 (by kernel_rfl) (by kernel_rfl) ?_
      refine chain_val (.int .i64 (k : Int)) (S := [9]) rfl ?_ ?_
      · intro ρ w' hE hB hs
        have h9 : ρ (.tmp 9) = .int .i64 (k : Int) := hs 9 (by decide)
        clear hs
        refine if_t (by rfl) ?_
        (go_simp <;> exact wrapi64_in _ (by omega) (by omega))
      refine chain_val (.pointer (some ⟨w7.heap.size, k, none⟩)) (S := [6, 39]) rfl ?_ ?_
      · intro ρ w' hE hB hs
        have h6 : ρ (.tmp 6) = .pointer (some ⟨w7.heap.size, 0, none⟩) := hs 6 (by decide)
        have h39 : ρ (.tmp 39) = .int .i64 (k : Int) := hs 39 (by decide)
        clear hs
        refine if_t (by rfl) ?_
        (go_simp <;> (intro hh; omega))
      refine chain_val (.int .i64 x) (S := [40]) rfl ?_ ?_
      · intro ρ w' hE hB hs
        have h40 : ρ (.tmp 40) = .pointer (some ⟨w7.heap.size, k, none⟩) := hs 40 (by decide)
        clear hs
        refine if_t (by rfl) ?_
        have hcl := (hB.cell (p := ⟨w7.heap.size, k, none⟩) hlx).trans CX.out
        go_simp
      refine chain_val (.int .i64 (k : Int)) (S := [9]) rfl ?_ ?_
      · intro ρ w' hE hB hs
        have h9 : ρ (.tmp 9) = .int .i64 (k : Int) := hs 9 (by decide)
        clear hs
        refine if_t (by rfl) ?_
        (go_simp <;> exact wrapi64_in _ (by omega) (by omega))
      refine chain_val (.pointer (some ⟨w7.heap.size + 1, k, none⟩)) (S := [7, 42]) rfl ?_ ?_
      · intro ρ w' hE hB hs
        have h7 : ρ (.tmp 7) = .pointer (some ⟨w7.heap.size + 1, 0, none⟩) := hs 7 (by decide)
        have h42 : ρ (.tmp 42) = .int .i64 (k : Int) := hs 42 (by decide)
        clear hs
        refine if_t (by rfl) ?_
        (go_simp <;> (intro hh; omega))
      refine chain_val (.int .i64 y) (S := [43]) rfl ?_ ?_
      · intro ρ w' hE hB hs
        have h43 : ρ (.tmp 43) = .pointer (some ⟨w7.heap.size + 1, k, none⟩) := hs 43 (by decide)
        clear hs
        refine if_t (by rfl) ?_
        have hcl := (hB.cell (p := ⟨w7.heap.size + 1, k, none⟩) hly).trans CY.out
        go_simp
      refine chain_val (.int .i64 (x + y)) (S := [41, 44]) rfl ?_ ?_
      · intro ρ w' hE hB hs
        have h41 : ρ (.tmp 41) = .int .i64 x := hs 41 (by decide)
        have h44 : ρ (.tmp 44) = .int .i64 y := hs 44 (by decide)
        clear hs
        refine if_t (by rfl) ?_
        (go_simp <;> exact wrapi64_in _ (by omega) (by omega))
      refine chain_val (.int .i64 (k : Int)) (S := [9]) rfl ?_ ?_
      · intro ρ w' hE hB hs
        have h9 : ρ (.tmp 9) = .int .i64 (k : Int) := hs 9 (by decide)
        clear hs
        refine if_t (by rfl) ?_
        (go_simp <;> exact wrapi64_in _ (by omega) (by omega))
      refine chain_val (.pointer (some ⟨w7.heap.size + 2, k, none⟩)) (S := [8, 46]) rfl ?_ ?_
      · intro ρ w' hE hB hs
        have h8 : ρ (.tmp 8) = .pointer (some ⟨w7.heap.size + 2, 0, none⟩) := hs 8 (by decide)
        have h46 : ρ (.tmp 46) = .int .i64 (k : Int) := hs 46 (by decide)
        clear hs
        refine if_t (by rfl) ?_
        (go_simp <;> (intro hh; omega))
      refine chain_val (.int .i64 (x + y)) (S := [47]) rfl ?_ ?_
      · intro ρ w' hE hB hs
        have h47 : ρ (.tmp 47) = .pointer (some ⟨w7.heap.size + 2, k, none⟩) := hs 47 (by decide)
        clear hs
        refine if_t (by rfl) ?_
        have hcl := (hB.cell (p := ⟨w7.heap.size + 2, k, none⟩) hlv).trans CV.out
        go_simp
      refine chain_val (.bool false) (S := [45, 48]) rfl ?_ ?_
      · intro ρ w' hE hB hs
        have h45 : ρ (.tmp 45) = .int .i64 (x + y) := hs 45 (by decide)
        have h48 : ρ (.tmp 48) = .int .i64 (x + y) := hs 48 (by decide)
        clear hs
        refine if_t (by rfl) ?_
        (go_simp <;> exact wrapi64_in _ (by omega) (by omega))
      intro w1 hB1
      simp only [List.reverse_cons, List.reverse_nil, List.nil_append, List.cons_append, Go.Free.Ends, forall_eq, Act.put, List.setIfInBounds_toArray, List.set_cons_zero, List.set_cons_succ]
      have HJ := Lib.hid (show Arr w1 w7.heap.size 52 X ∧ Arr w1 (w7.heap.size + 1) 52 Y ∧ Arr w1 (w7.heap.size + 2) 52 V ∧ Below w7.heap.size w7 w1 from ⟨hI.out.1.below hB1 hlx, hI.out.2.1.below hB1 hly, hI.out.2.2.1.below hB1 hlv, hI.out.2.2.2.trans (hB1.mono hI.out.2.2.2.size)⟩)
      clear hB1
      go_wp2
      go_roundw
      case rel => exact ⟨k + 1, by go_num, by omega, HJ⟩
      case measure => simp [intOf] <;> omega
    · obtain rfl : k = 65 := by omega
      have HO8 := Lib.hid (HO7.out.below hI.out.2.2.2)
      have HB8 := Lib.hid (HB7.out.trans (hI.out.2.2.2.mono HB7.out.size))
      go_wp2_with fail
      refine (back_any 0 A1 n1 c1 xs wr (H1.out.below HB8.out) (by omega)).mono ?_
      rintro e w9 ⟨A9, n9, c9, rfl, hown9, hb9⟩
      obtain rfl : n9 = n1 := by have := row_len hown9; have := H1.out.len; simp [backs] at *; omega
      have H9 := Lib.hid (Rd.own hown9)
      have HO9 := Lib.hid (HO8.out.below hb9)
      have HB9 := Lib.hid (HB8.out.trans (hb9.mono HB8.out.size))
      clear hown9 hb9
      go_wp2_with fail
      refine (HQ1.out A9 c9 w9 H9.out).mono ?_
      rintro e w' ⟨rfl, rfl⟩
      go_wp2_with fail
      refine (back_any 0 A2 n2 c2 ys w9 (H2.out.below HB9.out) (by omega)).mono ?_
      rintro e w11 ⟨A11, n11, c11, rfl, hown11, hb11⟩
      obtain rfl : n11 = n2 := by have := row_len hown11; have := H2.out.len; simp [backs] at *; omega
      have H11 := Lib.hid (Rd.own hown11)
      have HO11 := Lib.hid (HO9.out.below hb11)
      have HB11 := Lib.hid (HB9.out.trans (hb11.mono HB9.out.size))
      clear hown11 hb11
      go_wp2_with fail
      refine (HQ2.out A11 c11 w11 H11.out).mono ?_
      rintro e w' ⟨rfl, rfl⟩
      go_wp2_with fail
      refine (back_any 0 A4 _ c4 (xs ++ ys) w11 HO11.out (by omega)).mono ?_
      rw [backs_app]
      rintro e w13 ⟨A13, n13, c13, rfl, hown13, hb13⟩
      obtain rfl : n13 = n9 + n11 := by have := row_len hown13; have := H1.out.len; have := H2.out.len; simp [backs] at *; omega
      have H13 := Lib.hid (Rd.own hown13)
      have H5' := Lib.hid (HO11.out.below hb13)
      have HB13 := Lib.hid (HB11.out.trans (hb13.mono HB11.out.size))
      have H1' := Lib.hid (H1.out.below HB13.out)
      have H2' := Lib.hid (H2.out.below HB13.out)
      have HM3 := Lib.hid (fun w h => HMM3.out A4 (n9 + n11) c4 w h (by omega))
      have HM1 := HMM1
      have HM2 := HMM2
      clear hown13 hb13
      go_wp2_with fail
      refine (HQ3.out A13 c13 w13 H13.out).mono ?_
      rintro e w' ⟨rfl, rfl⟩
      obtain ⟨f1, f2, f3⟩ := HFACT.out
      rcases f3 with ⟨rfl, rfl⟩ | ⟨rfl, rfl⟩ | ⟨rfl, rfl⟩
      · cases so with
        | true =>
          have f4 := f2 rfl
          clear f1 f2
          go_wp2_with fail
          refine (HM3.out w13 H5'.out).mono ?_
          rintro e w' ⟨rfl, rfl⟩
          go_wp2_with fail
          refine (HM1.out w13 H1'.out).mono ?_
          rintro e w' ⟨rfl, rfl⟩
          go_wp2_with fail
          refine (HM2.out w13 H2'.out).mono ?_
          rintro e w' ⟨rfl, rfl⟩
          go_wp2_with fail
          refine (awake06 w13).mono ?_
          rintro e w14 ⟨rfl, hb14⟩
          have HB14 := Lib.hid (HB13.out.trans (hb14.mono HB13.out.size))
          clear hb14
          go_wp2
          go_ret
          exact ⟨rfl, HB14.out⟩
        | false =>
          clear f1 f2
          go_wp2_with fail
          refine (HM3.out w13 H5'.out).mono ?_
          rintro e w' ⟨rfl, rfl⟩
          go_wp2_with fail
          refine (HM1.out w13 H1'.out).mono ?_
          rintro e w' ⟨rfl, rfl⟩
          go_wp2_with fail
          refine (HM2.out w13 H2'.out).mono ?_
          rintro e w' ⟨rfl, rfl⟩
          go_wp2_with fail
          refine (awake06 w13).mono ?_
          rintro e w14 ⟨rfl, hb14⟩
          have HB14 := Lib.hid (HB13.out.trans (hb14.mono HB13.out.size))
          clear hb14
          go_wp2
          go_ret
          exact ⟨rfl, HB14.out⟩
      · cases is with
        | true =>
          have f4 := f1 rfl
          clear f1 f2
          by_cases f5 : c = a
          · subst f5
            clear f4
            go_wp2_with fail
            refine (HM3.out w13 H5'.out).mono ?_
            rintro e w' ⟨rfl, rfl⟩
            go_wp2_with fail
            refine (HM1.out w13 H1'.out).mono ?_
            rintro e w' ⟨rfl, rfl⟩
            go_wp2_with fail
            refine (HM2.out w13 H2'.out).mono ?_
            rintro e w' ⟨rfl, rfl⟩
            go_wp2_with fail
            refine (awake06 w13).mono ?_
            rintro e w14 ⟨rfl, hb14⟩
            have HB14 := Lib.hid (HB13.out.trans (hb14.mono HB13.out.size))
            clear hb14
            go_wp2
            go_ret
            exact ⟨rfl, HB14.out⟩
          · have f6 : c < a := by omega
            clear f4 f5
            go_wp2_with fail
            refine (HM3.out w13 H5'.out).mono ?_
            rintro e w' ⟨rfl, rfl⟩
            go_wp2_with fail
            refine (HM1.out w13 H1'.out).mono ?_
            rintro e w' ⟨rfl, rfl⟩
            go_wp2_with fail
            refine (HM2.out w13 H2'.out).mono ?_
            rintro e w' ⟨rfl, rfl⟩
            go_wp2_with fail
            refine (awake06 w13).mono ?_
            rintro e w14 ⟨rfl, hb14⟩
            have HB14 := Lib.hid (HB13.out.trans (hb14.mono HB13.out.size))
            clear hb14
            go_wp2
            go_ret
            exact ⟨rfl, HB14.out⟩
        | false =>
          clear f1 f2
          go_wp2_with fail
          refine (HM3.out w13 H5'.out).mono ?_
          rintro e w' ⟨rfl, rfl⟩
          go_wp2_with fail
          refine (HM1.out w13 H1'.out).mono ?_
          rintro e w' ⟨rfl, rfl⟩
          go_wp2_with fail
          refine (HM2.out w13 H2'.out).mono ?_
          rintro e w' ⟨rfl, rfl⟩
          go_wp2_with fail
          refine (awake06 w13).mono ?_
          rintro e w14 ⟨rfl, hb14⟩
          have HB14 := Lib.hid (HB13.out.trans (hb14.mono HB13.out.size))
          clear hb14
          go_wp2
          go_ret
          exact ⟨rfl, HB14.out⟩
      · clear f1 f2
        go_wp2_with fail
        refine (HM3.out w13 H5'.out).mono ?_
        rintro e w' ⟨rfl, rfl⟩
        go_wp2_with fail
        refine (HM1.out w13 H1'.out).mono ?_
        rintro e w' ⟨rfl, rfl⟩
        go_wp2_with fail
        refine (HM2.out w13 H2'.out).mono ?_
        rintro e w' ⟨rfl, rfl⟩
        go_wp2_with fail
        refine (awake06 w13).mono ?_
        rintro e w14 ⟨rfl, hb14⟩
        have HB14 := Lib.hid (HB13.out.trans (hb14.mono HB13.out.size))
        clear hb14
        go_wp2
        go_ret
        exact ⟨rfl, HB14.out⟩

namespace widthJoins
open Go.ChangeShapes Go.WideShapes Go.ChangeAt Go.RowKit Go.Cor
set_option linter.unusedVariables false

set_option maxRecDepth 100000 in
theorem lifted (os : Os) (started : os.Started) (H : Type) (enc : TypeId × Value → H) :
    ReturnsInHanded {} Try.checked os 14 .any (Rows.widthJoinsSpec.pre6 enc Try.prog Try.f14 Rows.widthJoinsRow.domain false) (Rows.widthJoinsSpec.post enc Try.prog Try.f14 false true false false) := by
  refine returnsInHanded_of_change (C := Try.checked) (by kernel_rfl : ownKnob Try.prog.godebug = none) started (by kernel_rfl) Try.func14
    (ChangeSpec.witness6 (enc := enc) (C := Try.checked) false ⟨#[], #[.slice none 0 0, .slice none 0 0], []⟩ 8 (by kernel_rfl) (by kernel_rfl) (by kernel_rfl) (by kernel_rfl)) ?_
  intro W base args ds gs before hval0 hW hcnd _
  have hval : ∀ (j : Nat) t v, Try.f14.params[j]? = some t → args[j]? = some v → Value.okWide Try.prog W .any base t v := hval0
  have hW' := hW
  obtain ⟨p, q, hA0, hV, rfl, hfz, hnd⟩ := hW
  have hA : DataW.TrodAll enc Try.prog W 0 (fun _ => true) true Try.f14.params.toList args.toList ds p := hA0
  rw [Try.params14] at hA hval
  obtain ⟨v0, vs0, d0, ds0, p0, q0, hargs, rfl, rfl, h0, r0⟩ := trodAll_cons hA
  obtain ⟨v1, vs1, d1, ds1, p1, q1, rfl, rfl, rfl, h1, r1⟩ := trodAll_cons r0
  obtain ⟨rfl, rfl, rfl⟩ := trodAll_nil r1
  obtain rfl : args = #[v0, v1] := by cases args; simp_all
  obtain ⟨rfl, rfl⟩ := trodVars_none hV
  obtain ⟨a0, len0, cap0, rfl⟩ := okWide_slice Try.underlying40 (hval 0 40 v0 rfl rfl)
  have k0 := h0
  have lt0 : ∀ x ∈ p0, x.block < W.heap.size := by obtain ⟨m, hm⟩ := k0; exact DataW.trod_lt m _ _ _ hm
  obtain ⟨x0, g0, b0⟩ : ∃ xs, Rd W .u64 a0 len0 cap0 xs ∧ In .u64 xs := by
    obtain ⟨fuel, hf⟩ := h0
    rcases open_ints Try.underlying40 Try.underlying23 (by kernel_rfl) hf with ⟨hcs, _⟩ | ⟨x, l, c, zs, hcs, _, hl, hm, hz, _, hcell, hwz⟩
    · simp [Value.cells] at hcs
      obtain ⟨rfl, rfl, rfl⟩ := hcs
      exact ⟨[], Rd.nilv _ _, fun _ h => by cases h⟩
    · simp [Value.cells] at hcs
      obtain ⟨rfl, rfl, rfl⟩ := hcs
      exact Rd.of_row hl hm hz hcell hwz
  obtain ⟨a1, len1, cap1, rfl⟩ := okWide_slice Try.underlying40 (hval 1 40 v1 rfl rfl)
  have k1 := h1
  have lt1 : ∀ x ∈ p1, x.block < W.heap.size := by obtain ⟨m, hm⟩ := k1; exact DataW.trod_lt m _ _ _ hm
  obtain ⟨x1, g1, b1⟩ : ∃ xs, Rd W .u64 a1 len1 cap1 xs ∧ In .u64 xs := by
    obtain ⟨fuel, hf⟩ := h1
    rcases open_ints Try.underlying40 Try.underlying23 (by kernel_rfl) hf with ⟨hcs, _⟩ | ⟨x, l, c, zs, hcs, _, hl, hm, hz, _, hcell, hwz⟩
    · simp [Value.cells] at hcs
      obtain ⟨rfl, rfl, rfl⟩ := hcs
      exact ⟨[], Rd.nilv _ _, fun _ h => by cases h⟩
    · simp [Value.cells] at hcs
      obtain ⟨rfl, rfl, rfl⟩ := hcs
      exact Rd.of_row hl hm hz hcell hwz
  clear hA0 hval0
  refine (WidthJoins_walk W a0 len0 cap0 x0 g0 b0 a1 len1 cap1 x1 g1 b1).mono fun e W' ⟨he, bel⟩ => ?_
  subst he
  exact ⟨_, rfl, _, _, _, [], _, [], hW', trodAll_mk1 (shut_bool Try.underlying4 _), (trodAll_cons_mk (Below.trod (by kernel_rfl : laidOutB Try.prog = true) (by kernel_rfl) (of_decide_eq_true (by kernel_rfl)) k0 bel lt0) (trodAll_cons_mk (Below.trod (by kernel_rfl : laidOutB Try.prog = true) (by kernel_rfl) (of_decide_eq_true (by kernel_rfl)) k1 bel lt1) trodAll_mk0)), rfl, bel.frame _, fun h => by cases h⟩

theorem proved : Rows.WidthJoinsSaid :=
  OpenClaim.holds_of_wide 14 Try.f14 rfl rfl rfl rfl rfl rfl rfl ⟨rfl, rfl, rfl, rfl, rfl⟩ rfl rfl rfl rfl rfl (by kernel_rfl) Try.func14 (by kernel_rfl)
    (of_decide_eq_true (by kernel_rfl)) (by unfold Func.isWrapper; first | (rw [if_pos (by decide +kernel)]; kernel_rfl) | (rw [if_neg (by decide +kernel)]; exact ⟨rfl, rfl⟩))
    (fun os started H enc _ => lifted os started H enc)
#print axioms proved
end widthJoins
end Go.Proofs.Ytibfbomihopgaaa
