/-
  Chapter 25: the reference's zone. (Its refLeast_any is XWidF.lean's.)
-/
import Derived.Test.YthpndhdpohmoaaaZone
namespace Go.Cor
open Go Go.RowKit
theorem zr_cell {w : World} {g : Nat} {t : TypeId} {z : Zn} (h : w.heap[g]? = some (.cells (zr z) t (0, 0))) : w.cell? ⟨g, 2, none⟩ = some (.int .i64 z.hi) := by
  rw [cell_of_row w g 2 _ t _ h]; rfl
theorem zr_cell3 {w : World} {g : Nat} {t : TypeId} {z : Zn} (h : w.heap[g]? = some (.cells (zr z) t (0, 0))) : w.cell? ⟨g, 3, none⟩ = some (.int .i64 z.s) := by
  rw [cell_of_row w g 3 _ t _ h]; rfl
theorem zr_free {w : World} {g k : Nat} {t : TypeId} {z : Zn} (h : w.heap[g]? = some (.cells (zr z) t (0, 0))) : w.frozen? ⟨g, k, none⟩ = false := by simp [World.frozen?, h]
theorem zr_set2 {w : World} {g : Nat} {t : TypeId} {z : Zn} (h : w.heap[g]? = some (.cells (zr z) t (0, 0))) (x : Int) : (w.setCell ⟨g, 2, none⟩ (.int .i64 x)).heap[g]? = some (.cells (zr ⟨z.n, z.lo, x, z.s⟩) t (0, 0)) := by
  rw [setCell_eq_setRow w g 2 _ t _ _ h, setRow_heap w g _ _ t _ h]; rfl
theorem zr_set3 {w : World} {g : Nat} {t : TypeId} {z : Zn} (h : w.heap[g]? = some (.cells (zr z) t (0, 0))) (x : Int) : (w.setCell ⟨g, 3, none⟩ (.int .i64 x)).heap[g]? = some (.cells (zr ⟨z.n, z.lo, z.hi, x⟩) t (0, 0)) := by
  rw [setCell_eq_setRow w g 3 _ t _ _ h, setRow_heap w g _ _ t _ h]; rfl
end Go.Cor
namespace Go.Proofs.Ythpndhdpohmoaaa
open Go.RowKit Go.Cor Go.Free

set_option maxHeartbeats 1000000 in
theorem refLeast_any (A : Option Addr) (n c : Nat) (xs : List Int) (w : World) (h : Rd w .i64 A n c xs) (hn : n ≤ 1000) :
    Calls Try.prog 56 #[.slice A n c] w fun e w' => e = .returned (.int .i64 (least xs)) ∧ w = w' := by
  by_cases h0 : 0 < n
  · obtain ⟨b', o, rfl, hbl, hc⟩ := h.get (by omega)
    have hcell0 := hc 0 h0
    rw [List.getD_eq_getElem?_getD, Nat.add_zero] at hcell0
    have HC := Lib.hid hc
    have H := Lib.hid h
    unfold least
    obtain ⟨x0, hx0⟩ : ∃ x, xs[0]?.getD 0 = x := ⟨_, rfl⟩
    rw [hx0] at hcell0 ⊢
    clear hc h hx0
    go_enter Try.func56, Try.ntmps56
    go_wp2
    go_loop [3, 4, 11, 12, 13, 14, 15, 16, 17, 18, 19, 20, 21, 22, 23, 24, 25, 26] (fun v3 v4 _ _ _ _ _ _ _ _ _ _ _ _ _ _ _ _ => ∃ i : Nat, v4 = .int .i64 i ∧ i ≤ n ∧ ∃ m, v3 = .int .i64 m ∧ Hid (m = minOf x0 (xs.take i))) (fun _ v4 _ _ _ _ _ _ _ _ _ _ _ _ _ _ _ _ => n - (intOf v4).toNat)
    case atStart => exact ⟨0, rfl, by omega, x0, rfl, Lib.hid rfl⟩
    case round =>
      obtain ⟨i, rfl, hi, m, rfl, hI⟩ := hrel
      by_cases hlt : i < n
      · have hcell := HC.out i hlt
        rw [List.getD_eq_getElem?_getD] at hcell
        have e1 := minOf_snoc x0 (l := xs) (k := i) (by have := H.out.len; omega)
        rw [← hI.out] at e1
        obtain ⟨x, hx⟩ : ∃ x, xs[i]?.getD 0 = x := ⟨_, rfl⟩
        rw [hx] at hcell e1
        have E1 := Lib.hid e1
        clear e1 hx
        by_cases hxm : x < m
        · go_wp2
          go_round
          case rel => exact ⟨i + 1, by go_num, by omega, _, rfl, Lib.hid (by rw [E1.out]; omega)⟩
          case measure => simp [intOf] <;> omega
        · go_wp2
          go_round
          case rel => exact ⟨i + 1, by go_num, by omega, _, rfl, Lib.hid (by rw [E1.out]; omega)⟩
          case measure => simp [intOf] <;> omega
      · go_wp2
        go_ret
        obtain rfl : i = n := by omega
        have e := hI.out
        rw [List.take_of_length_le (by have := H.out.len; omega)] at e
        exact ⟨ret_i e, rfl⟩
  · obtain rfl : n = 0 := by omega
    obtain rfl : xs = [] := List.eq_nil_of_length_eq_zero h.len
    clear h
    go_enter Try.func56, Try.ntmps56
    go_wp2
    go_ret
    exact ⟨rfl, rfl⟩


theorem sizeR : (Try.prog.info? 29).map (·.size) = some 4 := by kernel_rfl

set_option maxRecDepth 100000 in
set_option maxHeartbeats 4000000 in
theorem refZoneOf_any (A : Option Addr) (n c : Nat) (xs : List Int) (w : World) (h : Rd w .i64 A n c xs) (hn : n ≤ 1000) :
    Calls Try.prog 15 #[.slice A n c] w fun e w' => e = .returned (.agg (zr (zn xs))) ∧ Below w.heap.size w w' := by
  by_cases h0 : n = 0
  · subst h0
    obtain rfl : xs = [] := List.eq_nil_of_length_eq_zero h.len
    rw [show zn [] = ⟨0, 0, 0, 0⟩ from rfl]
    clear h
    go_enter Try.func15, Try.ntmps15
    go_wp2
    (try simp only [Exit.inBlock, Exit.then])
    refine bodyPost_ret (results_cell_row (p := 2) (ty := 29) rfl _ _ w.heap.size 29 (zr ⟨0, 0, 0, 0⟩) (0, 0) _ rfl (heap_alloc_new _ _) Try.underlying29 rfl sizeR) rfl ?_
    exact ⟨rfl, (Below.refl _ _).alloc (Nat.le_refl _) _⟩
  · have hp : 0 < n := by omega
    have hl := h.len
    obtain ⟨b, o, rfl, hbl, hc⟩ := h.get hp
    have hcell := hc 0 hp
    rw [List.getD_eq_getElem?_getD, Nat.add_zero] at hcell
    have hzn : zn xs = ⟨n, least xs, maxOf (xs[0]?.getD 0) xs, w64 xs.sum⟩ := by unfold zn least; rw [if_neg (by omega), znf, hl]
    have hmx : ∀ k, k < n → maxOf (xs[0]?.getD 0) (xs.take (k + 1)) = max (maxOf (xs[0]?.getD 0) (xs.take k)) (xs[k]?.getD 0) := fun k hk => maxOf_snoc _ (by omega)
    have hsm : ∀ k, k < n → (xs.take (k + 1)).sum = (xs.take k).sum + xs[k]?.getD 0 := fun k hk => by rw [take_snoc (by omega), List.sum_append]; simp
    have hle := fun w' (h' : Rd w' .i64 (some ⟨b, o, none⟩) n c xs) => refLeast_any _ n c xs w' h' (by omega)
    have hcc := h.cap
    rw [hzn]
    obtain ⟨x0, hx⟩ : ∃ x, xs[0]?.getD 0 = x := ⟨_, rfl⟩
    obtain ⟨ml, hml⟩ : ∃ x, least xs = x := ⟨_, rfl⟩
    rw [hx] at hcell hmx ⊢
    rw [hml] at hle ⊢
    have H := Lib.hid h
    have HC := Lib.hid hc
    have HCELL := Lib.hid hcell
    have HMX := Lib.hid hmx
    have HSM := Lib.hid hsm
    have HLE := Lib.hid hle
    clear hc h hcell hmx hsm hle hzn hx hml hl h0
    go_enter Try.func15, Try.ntmps15
    go_wp2_with fail
    have HH := Lib.hid (H.out.alloc (.cells #[.int .i64 0, .int .i64 0, .int .i64 0, .int .i64 0] 29))
    have HC2 : Hid (∀ w', Below (w.heap.size + 1) (w.alloc (.cells #[.int .i64 0, .int .i64 0, .int .i64 0, .int .i64 0] 29)) w' → w'.cell? ⟨b, o, none⟩ = some (.int .i64 x0)) := Lib.hid fun w' hb => (hb.cell (p := ⟨b, o, none⟩) (by show b < _; omega)).trans ((Below.cell (B := w.heap.size) ((Below.refl _ w).alloc (Nat.le_refl _) _) (p := ⟨b, o, none⟩) hbl).trans HCELL.out)
    refine wp_region_free 9 (by kernel_rfl) (by kernel_rfl) ?_
    refine chain_val (.slice (some ⟨b, o, none⟩) n c) (S := [0]) rfl ?_ ?_
    · intro ρ w' hE hB hs
      have h0 : ρ (.tmp 0) = .slice (some ⟨b, o, none⟩) n c := hs 0 (by decide)
      clear hs
      refine if_t (by rfl) ?_
      (go_simp <;> exact wrapi64_in _ (by omega) (by omega))
    refine chain_val (.int .i64 (n : Int)) (S := [10]) rfl ?_ ?_
    · intro ρ w' hE hB hs
      have h10 : ρ (.tmp 10) = .slice (some ⟨b, o, none⟩) n c := hs 10 (by decide)
      clear hs
      refine if_t (by rfl) ?_
      (go_simp <;> exact wrapi64_in _ (by omega) (by omega))
    refine chain_val (.slice (some ⟨b, o, none⟩) n c) (S := [0]) rfl ?_ ?_
    · intro ρ w' hE hB hs
      have h0 : ρ (.tmp 0) = .slice (some ⟨b, o, none⟩) n c := hs 0 (by decide)
      clear hs
      refine if_t (by rfl) ?_
      (go_simp <;> exact wrapi64_in _ (by omega) (by omega))
    refine chain_static (fun v__ _ => v__ = .int .i64 ml) (stable_eq _) (S := [12]) rfl (Go.Cor.enters_f Try.func56 (by kernel_rfl) rfl) rfl ?_ ?_
    · intro ρ w' hE hB hs
      have h12 : ρ (.tmp 12) = .slice (some ⟨b, o, none⟩) n c := hs 12 (by decide)
      clear hs
      refine ⟨(by rfl), ?_⟩
      simp only [List.map_toArray, List.map_cons, List.map_nil, h12]
      refine (HLE.out w' (HH.out.below hB)).mono ?_
      rintro e w'' ⟨rfl, rfl⟩
      exact ⟨_, rfl, Below.refl _ _, rfl⟩
    refine chain_val (.slice (some ⟨b, o, none⟩) n c) (S := [0]) rfl ?_ ?_
    · intro ρ w' hE hB hs
      have h0 : ρ (.tmp 0) = .slice (some ⟨b, o, none⟩) n c := hs 0 (by decide)
      clear hs
      refine if_t (by rfl) ?_
      (go_simp <;> exact wrapi64_in _ (by omega) (by omega))
    refine chain_val (.pointer (some ⟨b, o, none⟩)) (S := [14]) rfl ?_ ?_
    · intro ρ w' hE hB hs
      have h14 : ρ (.tmp 14) = .slice (some ⟨b, o, none⟩) n c := hs 14 (by decide)
      clear hs
      have hc := hE.const
      refine if_t (by rfl) ?_
      (go_simp <;> (intro hh; omega))
    refine chain_val (.int .i64 x0) (S := [15]) rfl ?_ ?_
    · intro ρ w' hE hB hs
      have h15 : ρ (.tmp 15) = .pointer (some ⟨b, o, none⟩) := hs 15 (by decide)
      clear hs
      refine if_t (by rfl) ?_
      have hcl := HC2.out w' (by simpa using hB)
      go_simp
    refine chain_val (.agg #[.int .i64 (n : Int), .int .i64 ml, .int .i64 x0, .int .i64 0]) (S := [11, 13, 16]) rfl ?_ ?_
    · intro ρ w' hE hB hs
      have h11 : ρ (.tmp 11) = .int .i64 (n : Int) := hs 11 (by decide)
      have h13 : ρ (.tmp 13) = .int .i64 ml := hs 13 (by decide)
      have h16 : ρ (.tmp 16) = .int .i64 x0 := hs 16 (by decide)
      clear hs
      refine if_t (by rfl) ?_
      (go_simp <;> exact wrapi64_in _ (by omega) (by omega))
    refine chain_make (BoxF (w.heap.size + 1) 29 (#[.int .i64 0, .int .i64 0, .int .i64 0, .int .i64 0])) (BoxF.stable _ _ _) (S := []) rfl ?_ ?_
    · intro ρ w' hE hB hs
      clear hs
      exact ⟨(by rfl), .pointer (some ⟨w'.heap.size, 0, none⟩), w'.alloc (.cells (#[.int .i64 0, .int .i64 0, .int .i64 0, .int .i64 0]) 29), (by go_simp), (Below.refl _ _).alloc (Nat.le_refl _) _, w'.heap.size, rfl, (by have := hB.size; first | omega | (simp at this; omega)), heap_alloc_new w' _⟩
    intro w1 hB1
    simp only [List.reverse_cons, List.reverse_nil, List.nil_append, List.cons_append, Go.Free.Ends, forall_eq, Act.put, List.setIfInBounds_toArray, List.set_cons_zero, List.set_cons_succ]
    clear HC2 HH
    rintro _ ⟨g4, rfl, hg4, hbox4⟩
    have hR := hB1.block w.heap.size (by simp)
    rw [heap_alloc_new] at hR
    have hB2 : Below w.heap.size w w1 := ((Below.refl _ w).alloc (Nat.le_refl _) _).trans (hB1.mono (by simp))
    have HR := Lib.hid hR
    have HB2 := Lib.hid hB2
    have HG4 := Lib.hid hbox4
    clear hR hB2 hB1 hbox4
    go_wp2_with (refine wpList_store_row rfl 29 (.tmp 3) (.tmp 17) rfl g4 (zr ⟨n, ml, x0, 0⟩) rfl rfl 29 #[.int .i64 0, .int .i64 0, .int .i64 0, .int .i64 0] HG4.out sizeR rfl (zr_one _) ?_)
    go_loopw [4, 5, 18, 19, 20, 21, 22, 23, 24, 25, 26, 27, 28, 29, 30, 31, 32, 33, 34, 35, 36, 37, 38, 39, 40, 41, 42] (fun v4 v5 _ _ _ _ _ _ _ _ _ _ _ _ _ _ _ _ _ _ _ _ _ _ _ _ _ wr => ∃ i : Nat, v5 = .int .i64 i ∧ i ≤ n ∧ ∃ sm mx : Int, v4 = .int .u64 sm ∧ Hid (sm = wu64 (xs.take i).sum ∧ mx = maxOf x0 (xs.take i) ∧ wr.heap[g4]? = some (.cells (zr ⟨n, ml, mx, 0⟩) 29 (0, 0)) ∧ wr.heap[w.heap.size]? = some (.cells (zr ⟨0, 0, 0, 0⟩) 29 (0, 0)) ∧ Below w.heap.size w wr))
      (fun _ v5 _ _ _ _ _ _ _ _ _ _ _ _ _ _ _ _ _ _ _ _ _ _ _ _ _ _ => n - (intOf v5).toNat)
    case atStart => exact ⟨0, rfl, by omega, 0, x0, rfl, Lib.hid ⟨by simp [wu64], rfl, setRow_heap _ _ _ _ _ _ HG4.out, (setRow_other _ _ _ _ (by omega)).trans HR.out, below_setRow HB2.out (by omega) _⟩⟩
    case round =>
      obtain ⟨i, rfl, hi, sm, mx, rfl, hI⟩ := hrel
      by_cases hlt : i < n
      · have hcell := (hI.out.2.2.2.2.cell (p := ⟨b, o + i, none⟩) hbl).trans (HC.out i hlt)
        have hmx := HMX.out i hlt
        have hsm := HSM.out i hlt
        rw [← hI.out.2.1] at hmx
        rw [List.getD_eq_getElem?_getD] at hcell
        obtain ⟨x, hx⟩ : ∃ x, xs[i]?.getD 0 = x := ⟨_, rfl⟩
        rw [hx] at hcell hmx hsm
        have hsm2 : wu64 (sm + wu64 x) = wu64 (xs.take (i + 1)).sum := by rw [hsm, hI.out.1]; unfold wu64; omega
        have HS := Lib.hid hsm2
        have HX := Lib.hid hmx
        have HCC := Lib.hid hcell
        have hz := zr_cell hI.out.2.2.1
        have HZ := Lib.hid hz
        have hgl := lt_of_block hI.out.2.2.1
        have hbl2 : b < wr.heap.size := Nat.lt_of_lt_of_le hbl hI.out.2.2.2.2.size
        clear hx hsm hsm2 hmx hcell hz
        by_cases hgt : mx < x
        · go_wp2_with fail
          refine wp_region_free 7 (by kernel_rfl) (by kernel_rfl) ?_
          refine chain_val (.slice (some ⟨b, o, none⟩) n c) (S := [0]) rfl ?_ ?_
          · intro ρ w' hE hB hs
            have h0 : ρ (.tmp 0) = .slice (some ⟨b, o, none⟩) n c := hs 0 (by decide)
            clear hs
            refine if_t (by rfl) ?_
            (go_simp <;> exact wrapi64_in _ (by omega) (by omega))
          refine chain_val (.int .i64 (i : Int)) (S := [5]) rfl ?_ ?_
          · intro ρ w' hE hB hs
            have h5 : ρ (.tmp 5) = .int .i64 (i : Int) := hs 5 (by decide)
            clear hs
            refine if_t (by rfl) ?_
            (go_simp <;> exact wrapi64_in _ (by omega) (by omega))
          refine chain_val (.pointer (some ⟨b, o + i, none⟩)) (S := [24, 25]) rfl ?_ ?_
          · intro ρ w' hE hB hs
            have h24 : ρ (.tmp 24) = .slice (some ⟨b, o, none⟩) n c := hs 24 (by decide)
            have h25 : ρ (.tmp 25) = .int .i64 (i : Int) := hs 25 (by decide)
            clear hs
            refine if_t (by rfl) ?_
            (go_simp <;> (intro hh; omega))
          refine chain_val (.int .i64 x) (S := [26]) rfl ?_ ?_
          · intro ρ w' hE hB hs
            have h26 : ρ (.tmp 26) = .pointer (some ⟨b, o + i, none⟩) := hs 26 (by decide)
            clear hs
            refine if_t (by rfl) ?_
            have hcl := (hB.cell (p := ⟨b, o + i, none⟩) hbl2).trans HCC.out
            go_simp
          refine chain_val (.pointer (some ⟨g4, 2, none⟩)) (S := [3]) rfl ?_ ?_
          · intro ρ w' hE hB hs
            have h3 : ρ (.tmp 3) = .pointer (some ⟨g4, 0, none⟩) := hs 3 (by decide)
            clear hs
            refine if_t (by rfl) ?_
            (go_simp <;> exact wrapi64_in _ (by omega) (by omega))
          refine chain_val (.int .i64 mx) (S := [28]) rfl ?_ ?_
          · intro ρ w' hE hB hs
            have h28 : ρ (.tmp 28) = .pointer (some ⟨g4, 2, none⟩) := hs 28 (by decide)
            clear hs
            refine if_t (by rfl) ?_
            have hcl := (hB.cell (p := ⟨g4, 2, none⟩) hgl).trans HZ.out
            go_simp
          refine chain_val (.bool true) (S := [27, 29]) rfl ?_ ?_
          · intro ρ w' hE hB hs
            have h27 : ρ (.tmp 27) = .int .i64 x := hs 27 (by decide)
            have h29 : ρ (.tmp 29) = .int .i64 mx := hs 29 (by decide)
            clear hs
            refine if_t (by rfl) ?_
            (go_simp <;> exact wrapi64_in _ (by omega) (by omega))
          intro w1 hB1
          simp only [List.reverse_cons, List.reverse_nil, List.nil_append, List.cons_append, Go.Free.Ends, forall_eq, Act.put, List.setIfInBounds_toArray, List.set_cons_zero, List.set_cons_succ]
          have hcx := (hB1.cell (p := ⟨b, o + i, none⟩) hbl2).trans HCC.out
          have HG2 := Lib.hid ((hB1.block _ hgl).trans hI.out.2.2.1)
          have HR2 := Lib.hid ((hB1.block _ (lt_of_block hI.out.2.2.2.1)).trans hI.out.2.2.2.1)
          have HBB := Lib.hid (hI.out.2.2.2.2.trans (hB1.mono hI.out.2.2.2.2.size))
          clear hB1
          have hfree := zr_free (k := 2) HG2.out
          have hz2 := zr_cell HG2.out
          have hcx2 := (World.cell?_of_block (w := w1) (w' := w1.setCell ⟨g4, 2, none⟩ (.int .i64 x)) (a := ⟨b, o + i, none⟩) (Below.heap_setCell w1 ⟨g4, 2, none⟩ _ b (by simp; omega))).trans hcx
          go_wp2
          go_roundw
          case rel => exact ⟨i + 1, by go_num, by omega, wu64 (sm + wu64 x), x, val_i (by unfold wu64; simp only [wrapu64]), Lib.hid ⟨HS.out, by rw [HX.out]; omega, zr_set2 HG2.out x, by (have := Below.heap_setCell w1 ⟨g4, 2, none⟩ (.int .i64 x) w.heap.size (by simp; omega)); exact this.trans HR2.out, HBB.out.setCell (p := ⟨g4, 2, none⟩) (by simp; omega) _⟩⟩
          case measure => simp [intOf] <;> omega
        · go_wp2_with fail
          refine wp_region_free 7 (by kernel_rfl) (by kernel_rfl) ?_
          refine chain_val (.slice (some ⟨b, o, none⟩) n c) (S := [0]) rfl ?_ ?_
          · intro ρ w' hE hB hs
            have h0 : ρ (.tmp 0) = .slice (some ⟨b, o, none⟩) n c := hs 0 (by decide)
            clear hs
            refine if_t (by rfl) ?_
            (go_simp <;> exact wrapi64_in _ (by omega) (by omega))
          refine chain_val (.int .i64 (i : Int)) (S := [5]) rfl ?_ ?_
          · intro ρ w' hE hB hs
            have h5 : ρ (.tmp 5) = .int .i64 (i : Int) := hs 5 (by decide)
            clear hs
            refine if_t (by rfl) ?_
            (go_simp <;> exact wrapi64_in _ (by omega) (by omega))
          refine chain_val (.pointer (some ⟨b, o + i, none⟩)) (S := [24, 25]) rfl ?_ ?_
          · intro ρ w' hE hB hs
            have h24 : ρ (.tmp 24) = .slice (some ⟨b, o, none⟩) n c := hs 24 (by decide)
            have h25 : ρ (.tmp 25) = .int .i64 (i : Int) := hs 25 (by decide)
            clear hs
            refine if_t (by rfl) ?_
            (go_simp <;> (intro hh; omega))
          refine chain_val (.int .i64 x) (S := [26]) rfl ?_ ?_
          · intro ρ w' hE hB hs
            have h26 : ρ (.tmp 26) = .pointer (some ⟨b, o + i, none⟩) := hs 26 (by decide)
            clear hs
            refine if_t (by rfl) ?_
            have hcl := (hB.cell (p := ⟨b, o + i, none⟩) hbl2).trans HCC.out
            go_simp
          refine chain_val (.pointer (some ⟨g4, 2, none⟩)) (S := [3]) rfl ?_ ?_
          · intro ρ w' hE hB hs
            have h3 : ρ (.tmp 3) = .pointer (some ⟨g4, 0, none⟩) := hs 3 (by decide)
            clear hs
            refine if_t (by rfl) ?_
            (go_simp <;> exact wrapi64_in _ (by omega) (by omega))
          refine chain_val (.int .i64 mx) (S := [28]) rfl ?_ ?_
          · intro ρ w' hE hB hs
            have h28 : ρ (.tmp 28) = .pointer (some ⟨g4, 2, none⟩) := hs 28 (by decide)
            clear hs
            refine if_t (by rfl) ?_
            have hcl := (hB.cell (p := ⟨g4, 2, none⟩) hgl).trans HZ.out
            go_simp
          refine chain_val (.bool false) (S := [27, 29]) rfl ?_ ?_
          · intro ρ w' hE hB hs
            have h27 : ρ (.tmp 27) = .int .i64 x := hs 27 (by decide)
            have h29 : ρ (.tmp 29) = .int .i64 mx := hs 29 (by decide)
            clear hs
            refine if_t (by rfl) ?_
            (go_simp <;> exact wrapi64_in _ (by omega) (by omega))
          intro w1 hB1
          simp only [List.reverse_cons, List.reverse_nil, List.nil_append, List.cons_append, Go.Free.Ends, forall_eq, Act.put, List.setIfInBounds_toArray, List.set_cons_zero, List.set_cons_succ]
          have hcx := (hB1.cell (p := ⟨b, o + i, none⟩) hbl2).trans HCC.out
          have HG2 := Lib.hid ((hB1.block _ hgl).trans hI.out.2.2.1)
          have HR2 := Lib.hid ((hB1.block _ (lt_of_block hI.out.2.2.2.1)).trans hI.out.2.2.2.1)
          have HBB := Lib.hid (hI.out.2.2.2.2.trans (hB1.mono hI.out.2.2.2.2.size))
          clear hB1
          go_wp2
          go_roundw
          case rel => exact ⟨i + 1, by go_num, by omega, wu64 (sm + wu64 x), mx, val_i (by unfold wu64; simp only [wrapu64]), Lib.hid ⟨HS.out, by rw [HX.out]; omega, HG2.out, HR2.out, HBB.out⟩⟩
          case measure => simp [intOf] <;> omega
      · obtain rfl : i = n := by omega
        have e : xs.take i = xs := List.take_of_length_le (by have := H.out.len; omega)
        rw [e] at hI
        clear e
        have hfree := zr_free (k := 3) hI.out.2.2.1
        have hz3 := zr_cell3 hI.out.2.2.1
        have HG3 := Lib.hid (zr_set3 hI.out.2.2.1 (wrap64 sm))
        have HR3 := Lib.hid ((Below.heap_setCell wr ⟨g4, 3, none⟩ (.int .i64 (wrap64 sm)) w.heap.size (by simp; omega)).trans hI.out.2.2.2.1)
        have HB3 := Lib.hid (hI.out.2.2.2.2.setCell (p := ⟨g4, 3, none⟩) (by simp; omega) (.int .i64 (wrap64 sm)))
        have hsm : w64 xs.sum = wrap64 sm := by rw [hI.out.1]; unfold w64 wu64 wrap64; omega
        have HSS := Lib.hid hsm
        clear hsm
        go_wp2_with (first | (refine wpList_load_row rfl 29 (.tmp 3) rfl g4 rfl 29 (zr ⟨i, ml, mx, wrap64 sm⟩) (0, 0) _ HG3.out Try.underlying29 rfl sizeR ?_) | (refine wpList_store_row rfl 29 (.tmp 2) (.tmp 46) rfl w.heap.size (zr ⟨i, ml, mx, wrap64 sm⟩) rfl rfl 29 (zr ⟨0, 0, 0, 0⟩) HR3.out sizeR rfl (zr_one _) ?_))
        (try simp only [Exit.inBlock, Exit.then])
        refine bodyPost_ret (results_cell_row (p := 2) (ty := 29) rfl _ _ w.heap.size 29 (zr ⟨i, ml, mx, wrap64 sm⟩) (0, 0) _ rfl (setRow_heap _ _ _ _ _ _ HR3.out) Try.underlying29 rfl sizeR) rfl ?_
        exact ⟨by rw [HSS.out, ← hI.out.2.1], below_setRow HB3.out (Nat.le_refl _) _⟩
end Go.Proofs.Ythpndhdpohmoaaa
