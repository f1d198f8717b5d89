/-
  PforShift: for every input the law returns true; the arguments read behind the call as they read before. No condition.
-/
import Derived.ChangeOld
import Derived.Test.YtkbcmblgieoleaaG27
namespace Go.Cor
open Go Go.RowKit
theorem minOf_shift (s : Int) (l : List Int) : ∀ a, minOf (a + s) (l.map (· + s)) = minOf a l + s := by
  induction l with
  | nil => intro a; rfl
  | cons x r ih =>
    intro a
    have := ih (min a x)
    unfold minOf at this ⊢
    rw [List.map_cons, List.foldl_cons, List.foldl_cons, ← this]
    congr 1; omega
theorem least_shift {s : Int} {xs : List Int} (h : 0 < xs.length) : least (xs.map (· + s)) = least xs + s := by
  unfold least
  rw [← minOf_shift]
  congr 1
  rw [List.getElem?_map, List.getElem?_eq_getElem h]; rfl
theorem offsets_shift {s : Int} {xs : List Int} (h : 0 < xs.length) : offsets (least (xs.map (· + s))) (xs.map (· + s)) = offsets (least xs) xs := by
  rw [least_shift h]
  unfold offsets
  rw [List.map_map]
  refine List.map_congr_left fun x _ => ?_
  show wu64 (x + s - (least xs + s)) = wu64 (x - least xs)
  congr 1; omega
theorem fform_len {xs : List Int} (h : xs.length ≤ 1024) : (fform xs).length = flen (offsets (least xs) xs) (fbest (offsets (least xs) xs)) := by rw [fform_eq h, fcut_len]
theorem fform_shift {s : Int} {xs : List Int} (h : xs.length ≤ 1024) (h0 : 0 < xs.length) : (fform (xs.map (· + s))).length = (fform xs).length := by
  rw [fform_len h, fform_len (by simpa using h), offsets_shift h0]
theorem fform_bounds {xs : List Int} (h : xs.length ≤ 1024) : 10 ≤ (fform xs).length ∧ (fform xs).length ≤ 10 + 8 * xs.length := by
  rw [fform_len h]
  have h1 := (fbest_le (offsets (least xs) xs) (offsets_fit _ _)).2
  have h2 := flen_ge (offsets (least xs) xs) (fbest (offsets (least xs) xs))
  rw [show (offsets (least xs) xs).length = xs.length by simp [offsets]] at h1
  exact ⟨h2, h1⟩
theorem step_ok {x s y : Int} (hx : I64 x) (hs : I64 s) (hy : y = w64 (x + s)) (h : decide (0 < s) = decide (x < y)) : y = x + s := by
  obtain ⟨h1, h2⟩ := hx
  obtain ⟨h3, h4⟩ := hs
  unfold w64 at hy
  have h5 : (0 < s) ↔ (x < y) := by simpa using h
  omega
theorem step_zero {x y : Int} (hx : I64 x) (hy : y = w64 (x + 0)) : decide ((0 : Int) < 0) = decide (x < y) := by
  obtain ⟨h1, h2⟩ := hx
  unfold w64 at hy
  have : ¬ x < y := by omega
  simp [this]
end Go.Cor
namespace Go.Proofs.Ytkbcmblgieoleaa
open Go.RowKit Go.Cor Go.Free

set_option maxRecDepth 100000 in
set_option maxHeartbeats 8000000 in
theorem PforShift_walk (W : World) (A : Option Addr) (n c : Nat) (xs : List Int) (h : Rd W .i64 A n c xs) (hi : In .i64 xs) (s : Int) (hs : Fits .i64 s) :
    Calls Try.prog 3 #[.slice A n c, .int .i64 s] W fun e w' => e = .returned (.bool true) ∧ Below W.heap.size W w' := by
  have hl := h.len
  have hmx := h.max
  have hcp := h.cap
  unfold maxLen at hmx
  by_cases hbig : 300 < n
  · have hd : decide (300 < (n : Int)) = true := by simp; omega
    clear h hi
    go_enter Try.func3, Try.ntmps3
    go_wp2
    go_ret
    exact ⟨rfl, Below.refl _ _⟩
  by_cases h0 : n = 0
  · subst h0
    clear h hi
    go_enter Try.func3, Try.ntmps3
    go_wp2
    go_ret
    exact ⟨rfl, Below.refl _ _⟩
  have hd : decide (300 < (n : Int)) = false := by simp; omega
  have hne : ((n : Int) == 0) = false := by simp [h0]
  have hsz := fun w h => pforS.c w A n c xs h hi (by omega)
  have htk : tak tkAll xs = true := by rw [tak_all]; exact decide_eq_true (by omega)
  rw [htk, if_pos rfl] at hsz
  have hbd := fform_bounds (xs := xs) (by omega)
  have hsh := fform_shift (s := s) (xs := xs) (by omega) (by omega)
  have hls := least_shift (s := s) (xs := xs) (by omega)
  rw [hl] at hbd
  obtain ⟨z, hz⟩ : ∃ z, (fform xs).length = z := ⟨_, rfl⟩
  rw [hz] at hsz hbd hsh
  have HSZ := Lib.hid hsz
  have HPL := Lib.hid (And.intro hsh hls)
  have H := Lib.hid h
  have HI := Lib.hid (And.intro hi (And.intro hl hs))
  have hz10 : decide ((z : Int) < 10) = false := by simp; omega
  have hz8 : decide (10 + 8 * (n : Int) < (z : Int)) = false := by simp; omega
  obtain ⟨hbd1, hbd2⟩ := hbd
  obtain ⟨b0, o0, rfl, hbl0, hc0⟩ := h.get (by omega)
  have HC0 := Lib.hid hc0
  clear h hi hl hsz htk hsh hls hz hs hc0
  go_enter Try.func3, Try.ntmps3
  go_wp2_with fail
  refine (HSZ.out _ (H.out)).mono ?_
  rintro e wz ⟨rfl, hb1⟩
  have HB1 := Lib.hid hb1
  clear hb1
  go_wp2_with (at_builtin; refine wpList_append_r rfl rfl elemI64 (owns_lit0 (Nat.le_refl wz.heap.size)) rfl (Rd.toV ((H.out.below HB1.out).alloc _)) rfl ints_one (by omega) (by omega) (by simp) ?_; intro A6 c6 w2 hown hgr _; have HW2 := Lib.hid (And.intro (owns_start hown) (below_grown ((Below.refl wz.heap.size wz).alloc (Nat.le_refl _) _) (owns_lit0 (size := 1) (Nat.le_refl wz.heap.size)) hgr (by simp))); clear hown hgr)
  have hcap6 : n ≤ c6 := (Rd.own HW2.out.1).cap
  have HBL2 := Lib.hid (HB1.out.trans (HW2.out.2.mono HB1.out.size))
  obtain ⟨J, hJ⟩ : ∃ J, xs.map (· + s) = J := ⟨_, rfl⟩
  have hJl : J.length = n := by rw [← hJ, List.length_map]; exact HI.out.2.1
  have HJ := Lib.hid (And.intro hJ hJl)
  clear hJ hJl
  go_loopg [7] n (fun gg v7 wr => ∃ i : Nat, v7 = .int .i64 i ∧ i ≤ n ∧ gg = n - i ∧ Hid (Owns wr wz.heap.size 2 .i64 A6 n c6 (J.take i ++ xs.drop i) ∧ Below W.heap.size W wr ∧ ∀ j, j < i → I64 (J[j]?.getD 0)))
  case atStart => exact ⟨0, rfl, by omega, by omega, Lib.hid ⟨by simpa using HW2.out.1, HBL2.out, fun j hj => by omega⟩⟩
  case round =>
    obtain ⟨i, rfl, hi, rfl, hI⟩ := hrel
    obtain ⟨wo, rfl⟩ : ∃ wo, wo = wr := ⟨_, rfl⟩
    by_cases hlt : i < n
    · have hdi : decide (i < n) = true := by simp; omega
      have hl := HI.out.2.1
      have hJl := HJ.out.2
      have hxm := HI.out.1 (xs[i]?.getD 0) (by rw [List.getElem?_eq_getElem (by omega)]; exact List.getElem_mem _)
      have hJi : J[i]?.getD 0 = xs[i]?.getD 0 + s := by rw [← HJ.out.1, List.getElem?_map, List.getElem?_eq_getElem (by omega)]; rfl
      obtain ⟨y, hy⟩ : ∃ y, w64 (xs[i]?.getD 0 + s) = y := ⟨_, rfl⟩
      obtain ⟨g', c', hv4, hBg, hgl, hcell, hfr, hset⟩ := owns_put (i := i) (y := y) hI.out.1 hlt
      injection hv4 with hA hk4 hc4
      subst hc4
      rw [mix_get (by omega) (by omega), List.getElem?_eq_getElem (by omega)] at hcell
      have hc1 := (((H.out.below hI.out.2.1).get (by omega)))
      obtain ⟨b1, o1, e1, hbl1, hc1⟩ := hc1
      obtain ⟨e11, e12⟩ := addr_inj e1
      subst e11 e12
      have hcell0 := hc1 i hlt
      rw [List.getD_eq_getElem?_getD] at hcell0
      have hx0 : xs[i] = xs[i]?.getD 0 := by rw [List.getElem?_eq_getElem (by omega)]; rfl
      rw [hx0, Option.map_some] at hcell
      obtain ⟨x, hx⟩ : ∃ x, xs[i]?.getD 0 = x := ⟨_, rfl⟩
      rw [hx] at hcell hcell0 hxm hJi hy
      have ey : IntKind.i64.wrap (x + s) = y := by rw [← hy]; unfold w64; exact wrapi64 _
      have hgb : g' ≠ b0 := by have := HB1.out.size; omega
      have HSET := Lib.hid hset
      have HY := Lib.hid (And.intro hy (And.intro hxm hJi))
      clear hset hc1 e1 hx0 hx hy hxm hJi hk4 hl hJl
      subst hA
      have hrs := Rd.own HSET.out
      obtain ⟨b2, o2, e2, hgl9, hc2⟩ := hrs.get (by omega)
      obtain ⟨e21, e22⟩ := addr_inj e2
      subst e21 e22
      have hc6 := hc2 i hlt
      have hll : (J.take i ++ xs.drop i).length = n := by rw [List.length_append, List.length_take, List.length_drop]; have := HJ.out.2; have := HI.out.2.1; omega
      rw [List.getD_eq_getElem?_getD, List.getElem?_set_self (by omega), Option.getD_some, Nat.zero_add] at hc6
      have HB9 := Lib.hid (hI.out.2.1.setCell (p := ⟨g', i, none⟩) (by have := HB1.out.size; show _ ≤ g'; omega) (.int .i64 y))
      obtain ⟨b1, o1, e1, hb09, hc1⟩ := (H.out.below HB9.out).get (by omega)
      obtain ⟨e11, e12⟩ := addr_inj e1
      subst e11 e12
      have hc09 := hc1 i hlt
      clear hc1 hc2 e1 e2 hrs hll
      rw [List.getD_eq_getElem?_getD] at hc09
      have hJ2 : J[i]?.getD 0 = xs[i]?.getD 0 + s := by rw [← HJ.out.1, List.getElem?_map, List.getElem?_eq_getElem (by have := HI.out.2.1; omega)]; rfl
      have hx9 : xs[i]?.getD 0 = x := by have h1 := HY.out.2.2; omega
      clear hJ2
      rw [hx9] at hc09
      have C6 := Lib.hid hc6
      have C0 := Lib.hid hc09
      clear hc6 hc09 hx9
      go_upto_region 11 with fail
      obtain ⟨W9, hW9⟩ : ∃ W9, wo.setCell ⟨g', i, none⟩ (.int .i64 y) = W9 := ⟨_, rfl⟩
      rw [hW9] at C6 C0 HSET HB9 hgl9 hb09
      rw [hW9]
      clear hW9 hcell hcell0
      obtain ⟨p, hp⟩ : ∃ p, decide (0 < s) = p := ⟨_, rfl⟩
      by_cases hq : decide (x < y) = p
      · have HQ := Lib.hid (step_ok HY.out.2.1 HI.out.2.2 HY.out.1.symm (hp.trans hq.symm))
        refine wp_region_free 16 (by kernel_rfl) (by kernel_rfl) ?_
        refine chain_val (.int .i64 s) (S := [1]) rfl ?_ ?_
        · intro ρ w' hE hB hs
          have h1 : ρ (.tmp 1) = .int .i64 s := hs 1 (by decide)
          clear hs
          refine if_t (by rfl) ?_
          (go_simp <;> exact wrapi64_in _ (by omega) (by omega))
        refine chain_val (.bool p) (S := [45]) rfl ?_ ?_
        · intro ρ w' hE hB hs
          have h45 : ρ (.tmp 45) = .int .i64 s := hs 45 (by decide)
          clear hs
          have hc := hE.const
          refine if_t (by rfl) ?_
          go_simp
        refine chain_val (.slice (some ⟨g', 0, none⟩) n c6) (S := [6]) rfl ?_ ?_
        · intro ρ w' hE hB hs
          have h6 : ρ (.tmp 6) = .slice (some ⟨g', 0, none⟩) n c6 := hs 6 (by decide)
          clear hs
          refine if_t (by rfl) ?_
          (go_simp <;> exact wrapi64_in _ (by omega) (by omega))
        refine chain_val (.int .i64 (i : Nat)) (S := [7]) rfl ?_ ?_
        · intro ρ w' hE hB hs
          have h7 : ρ (.tmp 7) = .int .i64 (i : Nat) := hs 7 (by decide)
          clear hs
          refine if_t (by rfl) ?_
          (go_simp <;> exact wrapi64_in _ (by omega) (by omega))
        refine chain_val (.pointer (some ⟨g', i, none⟩)) (S := [47, 48]) rfl ?_ ?_
        · intro ρ w' hE hB hs
          have h47 : ρ (.tmp 47) = .slice (some ⟨g', 0, none⟩) n c6 := hs 47 (by decide)
          have h48 : ρ (.tmp 48) = .int .i64 (i : Nat) := hs 48 (by decide)
          clear hs
          refine if_t (by rfl) ?_
          (go_simp <;> (intro hh; omega))
        refine chain_val (.int .i64 y) (S := [49]) rfl ?_ ?_
        · intro ρ w' hE hB hs
          have h49 : ρ (.tmp 49) = .pointer (some ⟨g', i, none⟩) := hs 49 (by decide)
          clear hs
          refine if_t (by rfl) ?_
          have hcl := (hB.cell (p := ⟨g', i, none⟩) hgl9).trans C6.out
          go_simp
        refine chain_val (.slice (some ⟨b0, o0, none⟩) n c) (S := [0]) rfl ?_ ?_
        · intro ρ w' hE hB hs
          have h0 : ρ (.tmp 0) = .slice (some ⟨b0, o0, none⟩) n c := hs 0 (by decide)
          clear hs
          refine if_t (by rfl) ?_
          (go_simp <;> exact wrapi64_in _ (by omega) (by omega))
        refine chain_val (.int .i64 (i : Nat)) (S := [7]) rfl ?_ ?_
        · intro ρ w' hE hB hs
          have h7 : ρ (.tmp 7) = .int .i64 (i : Nat) := hs 7 (by decide)
          clear hs
          refine if_t (by rfl) ?_
          (go_simp <;> exact wrapi64_in _ (by omega) (by omega))
        refine chain_val (.pointer (some ⟨b0, o0 + i, none⟩)) (S := [51, 52]) rfl ?_ ?_
        · intro ρ w' hE hB hs
          have h51 : ρ (.tmp 51) = .slice (some ⟨b0, o0, none⟩) n c := hs 51 (by decide)
          have h52 : ρ (.tmp 52) = .int .i64 (i : Nat) := hs 52 (by decide)
          clear hs
          refine if_t (by rfl) ?_
          (go_simp <;> (intro hh; omega))
        refine chain_val (.int .i64 x) (S := [53]) rfl ?_ ?_
        · intro ρ w' hE hB hs
          have h53 : ρ (.tmp 53) = .pointer (some ⟨b0, o0 + i, none⟩) := hs 53 (by decide)
          clear hs
          refine if_t (by rfl) ?_
          have hcl := (hB.cell (p := ⟨b0, o0 + i, none⟩) hb09).trans C0.out
          go_simp
        refine chain_val (.bool p) (S := [50, 54]) rfl ?_ ?_
        · intro ρ w' hE hB hs
          have h50 : ρ (.tmp 50) = .int .i64 y := hs 50 (by decide)
          have h54 : ρ (.tmp 54) = .int .i64 x := hs 54 (by decide)
          clear hs
          refine if_t (by rfl) ?_
          go_simp
        refine chain_val (.bool false) (S := [46, 55]) rfl ?_ ?_
        · intro ρ w' hE hB hs
          have h46 : ρ (.tmp 46) = .bool p := hs 46 (by decide)
          have h55 : ρ (.tmp 55) = .bool p := hs 55 (by decide)
          clear hs
          refine if_t (by rfl) ?_
          cases p <;> go_simp
        refine chain_val (.bool false) (S := [56]) rfl ?_ ?_
        · intro ρ w' hE hB hs
          have h56 : ρ (.tmp 56) = .bool false := hs 56 (by decide)
          clear hs
          refine if_t (by rfl) ?_
          (go_simp <;> exact wrapi64_in _ (by omega) (by omega))
        refine chain_val undef (S := [1, 57]) rfl ?_ ?_
        · intro ρ w' hE hB hs
          have h1 : ρ (.tmp 1) = .int .i64 s := hs 1 (by decide)
          have h57 : ρ (.tmp 57) = .bool false := hs 57 (by decide)
          clear hs
          exact if_f (by simp [Region.wanted, yieldedR, h57]) rfl
        refine chain_val undef (S := [58, 57]) rfl ?_ ?_
        · intro ρ w' hE hB hs
          have h57 : ρ (.tmp 57) = .bool false := hs 57 (by decide)
          have h58 : ρ (.tmp 58) = undef := hs 58 (by decide)
          clear hs
          have hc := hE.const
          exact if_f (by simp [Region.wanted, yieldedR, h57]) rfl
        refine chain_val (.bool false) (S := [57, 59]) rfl ?_ ?_
        · intro ρ w' hE hB hs
          have h57 : ρ (.tmp 57) = .bool false := hs 57 (by decide)
          have h59 : ρ (.tmp 59) = undef := hs 59 (by decide)
          clear hs
          have hc := hE.const
          refine if_t (by rfl) ?_
          (go_simp <;> exact wrapi64_in _ (by omega) (by omega))
        intro w1 hB1
        simp only [List.reverse_cons, List.reverse_nil, List.nil_append, List.cons_append, Go.Free.Ends, forall_eq, Act.put, List.setIfInBounds_toArray, List.set_cons_zero, List.set_cons_succ]
        have HB3 := Lib.hid hB1
        clear hB1
        go_wp2_with fail
        go_roundg (n - (i + 1))
        case measure => omega
        case rel =>
          have hJi : J[i]?.getD 0 = y := by rw [HY.out.2.2, HQ.out]
          have hy64 : I64 y := by rw [← HY.out.1]; unfold w64; exact ⟨by omega, by omega⟩
          have hs := HSET.out
          rw [mix_set (by have := HI.out.2.1; omega) (by have := HJ.out.2; have := HI.out.2.1; omega) hJi] at hs
          refine ⟨i + 1, by go_num, by omega, rfl, Lib.hid ⟨Owns.below hs HB3.out, HB9.out.trans (HB3.out.mono HB9.out.size), fun j hj => ?_⟩⟩
          by_cases hji : j < i
          · exact hI.out.2.2 j hji
          · obtain rfl : j = i := by omega
            rw [hJi]; exact hy64
      · have hq' : decide (x < y) = !p := by cases p <;> simp at hq ⊢ <;> exact hq
        have hs0 : s ≠ 0 := fun e => by subst e; exact hq ((step_zero HY.out.2.1 HY.out.1.symm).symm.trans hp)
        have hne0 : (s != 0) = true := by simp [hs0]
        clear hq
        refine wp_region_free 16 (by kernel_rfl) (by kernel_rfl) ?_
        refine chain_val (.int .i64 s) (S := [1]) rfl ?_ ?_
        · intro ρ w' hE hB hs
          have h1 : ρ (.tmp 1) = .int .i64 s := hs 1 (by decide)
          clear hs
          refine if_t (by rfl) ?_
          (go_simp <;> exact wrapi64_in _ (by omega) (by omega))
        refine chain_val (.bool p) (S := [45]) rfl ?_ ?_
        · intro ρ w' hE hB hs
          have h45 : ρ (.tmp 45) = .int .i64 s := hs 45 (by decide)
          clear hs
          have hc := hE.const
          refine if_t (by rfl) ?_
          go_simp
        refine chain_val (.slice (some ⟨g', 0, none⟩) n c6) (S := [6]) rfl ?_ ?_
        · intro ρ w' hE hB hs
          have h6 : ρ (.tmp 6) = .slice (some ⟨g', 0, none⟩) n c6 := hs 6 (by decide)
          clear hs
          refine if_t (by rfl) ?_
          (go_simp <;> exact wrapi64_in _ (by omega) (by omega))
        refine chain_val (.int .i64 (i : Nat)) (S := [7]) rfl ?_ ?_
        · intro ρ w' hE hB hs
          have h7 : ρ (.tmp 7) = .int .i64 (i : Nat) := hs 7 (by decide)
          clear hs
          refine if_t (by rfl) ?_
          (go_simp <;> exact wrapi64_in _ (by omega) (by omega))
        refine chain_val (.pointer (some ⟨g', i, none⟩)) (S := [47, 48]) rfl ?_ ?_
        · intro ρ w' hE hB hs
          have h47 : ρ (.tmp 47) = .slice (some ⟨g', 0, none⟩) n c6 := hs 47 (by decide)
          have h48 : ρ (.tmp 48) = .int .i64 (i : Nat) := hs 48 (by decide)
          clear hs
          refine if_t (by rfl) ?_
          (go_simp <;> (intro hh; omega))
        refine chain_val (.int .i64 y) (S := [49]) rfl ?_ ?_
        · intro ρ w' hE hB hs
          have h49 : ρ (.tmp 49) = .pointer (some ⟨g', i, none⟩) := hs 49 (by decide)
          clear hs
          refine if_t (by rfl) ?_
          have hcl := (hB.cell (p := ⟨g', i, none⟩) hgl9).trans C6.out
          go_simp
        refine chain_val (.slice (some ⟨b0, o0, none⟩) n c) (S := [0]) rfl ?_ ?_
        · intro ρ w' hE hB hs
          have h0 : ρ (.tmp 0) = .slice (some ⟨b0, o0, none⟩) n c := hs 0 (by decide)
          clear hs
          refine if_t (by rfl) ?_
          (go_simp <;> exact wrapi64_in _ (by omega) (by omega))
        refine chain_val (.int .i64 (i : Nat)) (S := [7]) rfl ?_ ?_
        · intro ρ w' hE hB hs
          have h7 : ρ (.tmp 7) = .int .i64 (i : Nat) := hs 7 (by decide)
          clear hs
          refine if_t (by rfl) ?_
          (go_simp <;> exact wrapi64_in _ (by omega) (by omega))
        refine chain_val (.pointer (some ⟨b0, o0 + i, none⟩)) (S := [51, 52]) rfl ?_ ?_
        · intro ρ w' hE hB hs
          have h51 : ρ (.tmp 51) = .slice (some ⟨b0, o0, none⟩) n c := hs 51 (by decide)
          have h52 : ρ (.tmp 52) = .int .i64 (i : Nat) := hs 52 (by decide)
          clear hs
          refine if_t (by rfl) ?_
          (go_simp <;> (intro hh; omega))
        refine chain_val (.int .i64 x) (S := [53]) rfl ?_ ?_
        · intro ρ w' hE hB hs
          have h53 : ρ (.tmp 53) = .pointer (some ⟨b0, o0 + i, none⟩) := hs 53 (by decide)
          clear hs
          refine if_t (by rfl) ?_
          have hcl := (hB.cell (p := ⟨b0, o0 + i, none⟩) hb09).trans C0.out
          go_simp
        refine chain_val (.bool (!p)) (S := [50, 54]) rfl ?_ ?_
        · intro ρ w' hE hB hs
          have h50 : ρ (.tmp 50) = .int .i64 y := hs 50 (by decide)
          have h54 : ρ (.tmp 54) = .int .i64 x := hs 54 (by decide)
          clear hs
          refine if_t (by rfl) ?_
          go_simp
        refine chain_val (.bool true) (S := [46, 55]) rfl ?_ ?_
        · intro ρ w' hE hB hs
          have h46 : ρ (.tmp 46) = .bool p := hs 46 (by decide)
          have h55 : ρ (.tmp 55) = .bool (!p) := hs 55 (by decide)
          clear hs
          refine if_t (by rfl) ?_
          cases p <;> go_simp
        refine chain_val (.bool true) (S := [56]) rfl ?_ ?_
        · intro ρ w' hE hB hs
          have h56 : ρ (.tmp 56) = .bool true := hs 56 (by decide)
          clear hs
          refine if_t (by rfl) ?_
          (go_simp <;> exact wrapi64_in _ (by omega) (by omega))
        refine chain_val (.int .i64 s) (S := [1, 57]) rfl ?_ ?_
        · intro ρ w' hE hB hs
          have h1 : ρ (.tmp 1) = .int .i64 s := hs 1 (by decide)
          have h57 : ρ (.tmp 57) = .bool true := hs 57 (by decide)
          clear hs
          refine if_t (by simp [Region.wanted, yieldedR, h57]) ?_
          (go_simp <;> exact wrapi64_in _ (by omega) (by omega))
        refine chain_val (.bool true) (S := [58, 57]) rfl ?_ ?_
        · intro ρ w' hE hB hs
          have h57 : ρ (.tmp 57) = .bool true := hs 57 (by decide)
          have h58 : ρ (.tmp 58) = .int .i64 s := hs 58 (by decide)
          clear hs
          have hc := hE.const
          refine if_t (by simp [Region.wanted, yieldedR, h57]) ?_
          go_simp
        refine chain_val (.bool true) (S := [57, 59]) rfl ?_ ?_
        · intro ρ w' hE hB hs
          have h57 : ρ (.tmp 57) = .bool true := hs 57 (by decide)
          have h59 : ρ (.tmp 59) = .bool true := hs 59 (by decide)
          clear hs
          have hc := hE.const
          refine if_t (by rfl) ?_
          (go_simp <;> exact wrapi64_in _ (by omega) (by omega))
        intro w1 hB1
        simp only [List.reverse_cons, List.reverse_nil, List.nil_append, List.cons_append, Go.Free.Ends, forall_eq, Act.put, List.setIfInBounds_toArray, List.set_cons_zero, List.set_cons_succ]
        have HB3 := Lib.hid (HB9.out.trans (hB1.mono HB9.out.size))
        clear hB1
        go_wp2_with fail
        refine (awake11 _).mono ?_
        rintro e w4 ⟨rfl, hb4⟩
        have HB4 := Lib.hid (HB3.out.trans (hb4.mono HB3.out.size))
        clear hb4
        go_wp2
        go_ret
        exact ⟨rfl, HB4.out⟩
    · obtain rfl : i = n := by omega
      have hdi : decide (i < i) = false := by simp
      have hrow := hI.out.1
      have hl := HI.out.2.1
      have hJl := HJ.out.2
      rw [List.drop_of_length_le (by omega), List.append_nil, List.take_of_length_le (by omega)] at hrow
      have hJin : In .i64 J := by
        intro x hx
        obtain ⟨j, hj, rfl⟩ := List.mem_iff_getElem.1 hx
        have := hI.out.2.2 j (by omega)
        rw [List.getElem?_eq_getElem hj] at this
        exact this
      have hsz2 := fun w h => pforS.c w A6 i c6 J h hJin (by omega)
      have htk : tak tkAll J = true := by rw [tak_all]; exact decide_eq_true (by omega)
      have hpl := HPL.out
      rw [HJ.out.1] at hpl
      rw [htk, if_pos rfl, hpl.1] at hsz2
      have hle2 := fun w h => refLeast_any A6 i c6 J w h (by omega)
      have hle1 := fun w h => refLeast_any (some ⟨b0, o0, none⟩) i c xs w h (by omega)
      rw [hpl.2] at hle2
      have hL : I64 (least xs) := by
        unfold least
        rcases minOf_mem (xs[0]?.getD 0) xs with e | e
        · rw [e]; exact HI.out.1 _ (by rw [List.getElem?_eq_getElem (by omega)]; exact List.getElem_mem _)
        · exact HI.out.1 _ e
      obtain ⟨L, hLe⟩ : ∃ L, least xs = L := ⟨_, rfl⟩
      rw [hLe] at hle1 hle2 hL
      obtain ⟨LJ, hLJ⟩ : ∃ LJ, L + s = LJ := ⟨_, rfl⟩
      rw [hLJ] at hle2
      have ew : IntKind.i64.wrap (LJ - s) = L := by rw [← hLJ, Int.add_sub_cancel]; exact wrapi64_in _ hL.1 hL.2
      have HR := Lib.hid (Rd.own hrow)
      have HS2 := Lib.hid hsz2
      have HL1 := Lib.hid hle1
      have HL2 := Lib.hid hle2
      have HBW := Lib.hid hI.out.2.1
      clear hrow hl hJl hJin hsz2 htk hpl hle2 hle1 hL hLe hLJ hI
      go_wp2_with fail
      refine (HS2.out _ HR.out).mono ?_
      rintro e w3 ⟨rfl, hb3⟩
      have HR3 := Lib.hid (HR.out.below hb3)
      have HB3 := Lib.hid (HBW.out.trans (hb3.mono HBW.out.size))
      clear hb3
      go_wp2_with fail
      refine (HL2.out _ HR3.out).mono ?_
      rintro e w4 ⟨rfl, rfl⟩
      go_wp2_with fail
      refine (HL1.out _ (H.out.below HB3.out)).mono ?_
      rintro e w4 ⟨rfl, rfl⟩
      go_wp2_with fail
      refine (awake11 _).mono ?_
      rintro e w5 ⟨rfl, hb5⟩
      have HB5 := Lib.hid (HB3.out.trans (hb5.mono HB3.out.size))
      clear hb5
      go_wp2
      go_ret
      exact ⟨rfl, HB5.out⟩

namespace pforShift
open Go.ChangeShapes Go.WideShapes Go.ChangeAt Go.RowKit Go.Cor
set_option linter.unusedVariables false

set_option maxRecDepth 100000 in
theorem lifted (os : Os) (started : os.Started) (H : Type) (enc : TypeId × Value → H) :
    ReturnsInHanded {} Try.checked os 3 .any (Rows.pforShiftSpec.pre6 enc Try.prog Try.f3 Rows.pforShiftRow.domain false) (Rows.pforShiftSpec.post enc Try.prog Try.f3 false true false false) := by
  refine returnsInHanded_of_change (C := Try.checked) (by kernel_rfl : ownKnob Try.prog.godebug = none) started (by kernel_rfl) Try.func3
    (ChangeSpec.witness6 (enc := enc) (C := Try.checked) false ⟨#[], #[.slice none 0 0, .int .i64 0], []⟩ 8 (by kernel_rfl) (by kernel_rfl) (by kernel_rfl) (by kernel_rfl)) ?_
  intro W base args ds gs before hval0 hW hcnd _
  have hval : ∀ (j : Nat) t v, Try.f3.params[j]? = some t → args[j]? = some v → Value.okWide Try.prog W .any base t v := hval0
  have hW' := hW
  obtain ⟨p, q, hA0, hV, rfl, hfz, hnd⟩ := hW
  have hA : DataW.TrodAll enc Try.prog W 0 (fun _ => true) true Try.f3.params.toList args.toList ds p := hA0
  rw [Try.params3] at hA hval
  obtain ⟨v0, vs0, d0, ds0, p0, q0, hargs, rfl, rfl, h0, r0⟩ := trodAll_cons hA
  obtain ⟨v1, vs1, d1, ds1, p1, q1, rfl, rfl, rfl, h1, r1⟩ := trodAll_cons r0
  obtain ⟨rfl, rfl, rfl⟩ := trodAll_nil r1
  obtain rfl : args = #[v0, v1] := by cases args; simp_all
  obtain ⟨rfl, rfl⟩ := trodVars_none hV
  obtain ⟨a0, len0, cap0, rfl⟩ := okWide_slice Try.underlying22 (hval 0 22 v0 rfl rfl)
  have k0 := h0
  have lt0 : ∀ x ∈ p0, x.block < W.heap.size := by obtain ⟨m, hm⟩ := k0; exact DataW.trod_lt m _ _ _ hm
  obtain ⟨x0, g0, b0⟩ : ∃ xs, Rd W .i64 a0 len0 cap0 xs ∧ In .i64 xs := by
    obtain ⟨fuel, hf⟩ := h0
    rcases open_ints Try.underlying22 Try.underlying2 (by kernel_rfl) hf with ⟨hcs, _⟩ | ⟨x, l, c, zs, hcs, _, hl, hm, hz, _, hcell, hwz⟩
    · simp [Value.cells] at hcs
      obtain ⟨rfl, rfl, rfl⟩ := hcs
      exact ⟨[], Rd.nilv _ _, fun _ h => by cases h⟩
    · simp [Value.cells] at hcs
      obtain ⟨rfl, rfl, rfl⟩ := hcs
      exact Rd.of_row hl hm hz hcell hwz
  obtain ⟨a1, rfl, rfl, rfl, w1⟩ := open_int Try.underlying2 (hval 1 2 v1 rfl rfl) h1
  clear hA0 hval0
  refine (PforShift_walk W a0 len0 cap0 x0 g0 b0 a1 (fits_of_wf w1)).mono fun e W' ⟨he, bel⟩ => ?_
  subst he
  exact ⟨_, rfl, _, _, _, [], _, [], hW', trodAll_mk1 (shut_bool Try.underlying4 _), (trodAll_cons_mk (Below.trod (by kernel_rfl : laidOutB Try.prog = true) (by kernel_rfl) (of_decide_eq_true (by kernel_rfl)) k0 bel lt0) (trodAll_cons_mk (shut_int Try.underlying2 w1) trodAll_mk0)), rfl, bel.frame _, fun h => by cases h⟩

theorem proved : Rows.PforShiftSaid :=
  OpenClaim.holds_of_wide 3 Try.f3 rfl rfl rfl rfl rfl rfl rfl ⟨rfl, rfl, rfl, rfl, rfl⟩ rfl rfl rfl rfl rfl (by kernel_rfl) Try.func3 (by kernel_rfl)
    (of_decide_eq_true (by kernel_rfl)) (by unfold Func.isWrapper; first | (rw [if_pos (by decide +kernel)]; kernel_rfl) | (rw [if_neg (by decide +kernel)]; exact ⟨rfl, rfl⟩))
    (fun os started H enc _ => lifted os started H enc)
#print axioms proved
end pforShift
end Go.Proofs.Ytkbcmblgieoleaa
