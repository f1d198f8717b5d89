/-
  WidthBack: for every input the law returns true; each argument reads behind the call as it read before. No condition.
-/
import Derived.Test.YtibfbomihopgaaaWidA
import Derived.ChangeOld
namespace Go.Proofs.Ytibfbomihopgaaa
open Go.RowKit Go.Cor Go.Free

set_option maxRecDepth 100000 in
set_option maxHeartbeats 2000000 in
theorem WidthBack_walk (W : World) (A : Option Addr) (n c : Nat) (xs : List Int) (h : Rd W .i64 A n c xs) (hi : In .i64 xs) (f : Int) (hf : Fits .i64 f) :
    Calls Try.prog 7 #[.slice A n c, .int .i64 f] W fun e w' => e = .returned (.bool true) ∧ Below W.heap.size W w' := by
  by_cases hn : 200 < n
  · clear h hi hf
    go_enter Try.func7, Try.ntmps7
    go_wp2
    go_ret
    exact ⟨rfl, Below.refl _ _⟩
  · have hn2 : n ≤ 200 := by omega
    have e1 := backs_offsets f xs hi
    have e2 := deltas_sums f xs hi
    have e3 : ∀ h0 : 0 < n, sums (xs[0]?.getD 0) (deltas xs) = xs := fun h0 => sums_deltas xs hi (by intro e; rw [e] at h; have := h.len; simp at this; omega)
    have e4 : (sums f xs)[0]?.getD 0 = f := by rw [sums_get f xs (Nat.zero_le _), Option.getD_some, sumAt_zero f xs hf.1 hf.2]
    have hf1 := hf.1
    have hf2 := hf.2
    have hx0 : ∀ h0 : 0 < n, Fits .i64 (xs[0]?.getD 0) := fun h0 => hi _ (by rw [List.getElem?_eq_getElem (by rw [h.len]; exact h0)]; exact List.getElem_mem _)
    have E1 := Lib.hid e1
    have E2 := Lib.hid e2
    have E3 := Lib.hid e3
    have E4 := Lib.hid e4
    have H := Lib.hid h
    have HX0 := Lib.hid hx0
    clear e1 e2 e3 e4 h hi hf hx0
    go_enter Try.func7, Try.ntmps7
    go_wp2_with fail
    refine (offsets_any f A n c xs W H.out (by omega)).mono ?_
    rintro e w1 ⟨A1, n1, c1, rfl, hown1, hb1⟩
    obtain rfl : n1 = n := by have := row_len hown1; have := H.out.len; simp [offsets] at *; omega
    have H1 := Lib.hid (Rd.own hown1)
    have HB1 := Lib.hid hb1
    clear hown1 hb1
    go_wp2_with fail
    refine (back_any f A1 _ c1 _ w1 H1.out (by omega)).mono ?_
    rw [E1.out]
    rintro e w2 ⟨A2, n2, c2, rfl, hown2, hb2⟩
    have H2 := Lib.hid (Rd.own hown2)
    have HB2 := Lib.hid (HB1.out.trans (hb2.mono HB1.out.size))
    clear hown2 hb2
    go_wp2_with fail
    refine (sameI_any _ _ _ _ _ _ xs xs w2 H2.out (H.out.below HB2.out)).mono ?_
    rw [show decide (xs = xs) = true by simp]
    rintro e w3 ⟨rfl, hb3⟩
    have HB3 := Lib.hid (HB2.out.trans (hb3.mono HB2.out.size))
    clear hb3
    go_wp2_with fail
    refine (sums_any f A _ c xs w3 (H.out.below HB3.out) (by omega) hf1 hf2).mono ?_
    rintro e w4 ⟨A4, n4, c4, rfl, hown4, hb4⟩
    obtain rfl : n4 = n1 + 1 := by have := row_len hown4; have := H.out.len; rw [sums_len] at *; omega
    have H4 := Lib.hid (Rd.own hown4)
    have HB4 := Lib.hid (HB3.out.trans (hb4.mono HB3.out.size))
    obtain ⟨b4, o4, rfl, hbl4, hc4⟩ := H4.out.get (by omega)
    have hcell4 := hc4 0 (by omega)
    rw [List.getD_eq_getElem?_getD, Nat.add_zero, E4.out] at hcell4
    clear hown4 hb4 hc4
    go_wp2_with fail
    refine (deltas_any _ _ c4 _ w4 H4.out (by omega)).mono ?_
    rw [E2.out]
    rintro e w5 ⟨A5, n5, c5, rfl, hown5, hb5⟩
    have H5 := Lib.hid (Rd.own hown5)
    have HB5 := Lib.hid (HB4.out.trans (hb5.mono HB4.out.size))
    clear hown5 hb5
    go_wp2_with fail
    refine (sameI_any _ _ _ _ _ _ xs xs w5 H5.out (H.out.below HB5.out)).mono ?_
    rw [show decide (xs = xs) = true by simp]
    rintro e w6 ⟨rfl, hb6⟩
    have HB6 := Lib.hid (HB5.out.trans (hb6.mono HB5.out.size))
    clear hb6
    go_wp2_with fail
    by_cases h0 : 0 < n1
    · obtain ⟨bb, oo, rfl, hbl, hc⟩ := (H.out.below HB6.out).get h0
      have hcell := hc 0 h0
      rw [List.getD_eq_getElem?_getD, Nat.add_zero] at hcell
      have e3 := E3.out h0
      have hx0 := HX0.out h0
      obtain ⟨x, hx⟩ : ∃ x, xs[0]?.getD 0 = x := ⟨_, rfl⟩
      rw [hx] at hcell e3 hx0
      have E5 := Lib.hid e3
      obtain ⟨hx1, hx2⟩ := hx0
      have HC := Lib.hid hcell
      have HH := Lib.hid (H.out.below HB6.out)
      have hnb : ((n1 : Int) == 0) = false := by simp; omega
      clear hc hx e3 hcell
      refine wp_region_free 16 (by kernel_rfl) (by kernel_rfl) ?_
      refine chain_val (.slice (some ⟨bb, oo, none⟩) n1 c) (S := [0]) rfl ?_ ?_
      · intro ρ w' hE hB hs
        have h0 : ρ (.tmp 0) = .slice (some ⟨bb, oo, none⟩) n1 c := hs 0 (by decide)
        clear hs
        refine if_t (by rfl) ?_
        (go_simp <;> exact wrapi64_in _ (by omega) (by omega))
      refine chain_val (.int .i64 (n1 : Int)) (S := [40]) rfl ?_ ?_
      · intro ρ w' hE hB hs
        have h40 : ρ (.tmp 40) = .slice (some ⟨bb, oo, none⟩) n1 c := hs 40 (by decide)
        clear hs
        refine if_t (by rfl) ?_
        (go_simp <;> exact wrapi64_in _ (by omega) (by omega))
      refine chain_val (.bool false) (S := [41]) rfl ?_ ?_
      · intro ρ w' hE hB hs
        have h41 : ρ (.tmp 41) = .int .i64 (n1 : Int) := hs 41 (by decide)
        clear hs
        have hc := hE.const
        refine if_t (by rfl) ?_
        (go_simp <;> exact wrapi64_in _ (by omega) (by omega))
      refine chain_val (.bool false) (S := [42]) rfl ?_ ?_
      · intro ρ w' hE hB hs
        have h42 : ρ (.tmp 42) = .bool false := hs 42 (by decide)
        clear hs
        refine if_t (by rfl) ?_
        (go_simp <;> exact wrapi64_in _ (by omega) (by omega))
      refine chain_val (.slice (some ⟨bb, oo, none⟩) n1 c) (S := [0, 43]) rfl ?_ ?_
      · intro ρ w' hE hB hs
        have h0 : ρ (.tmp 0) = .slice (some ⟨bb, oo, none⟩) n1 c := hs 0 (by decide)
        have h43 : ρ (.tmp 43) = .bool false := hs 43 (by decide)
        clear hs
        refine if_t (by simp [Region.wanted, yieldedR, h43]) ?_
        (go_simp <;> exact wrapi64_in _ (by omega) (by omega))
      refine chain_val (.pointer (some ⟨bb, oo, none⟩)) (S := [44, 43]) rfl ?_ ?_
      · intro ρ w' hE hB hs
        have h43 : ρ (.tmp 43) = .bool false := hs 43 (by decide)
        have h44 : ρ (.tmp 44) = .slice (some ⟨bb, oo, none⟩) n1 c := hs 44 (by decide)
        clear hs
        have hc := hE.const
        refine if_t (by simp [Region.wanted, yieldedR, h43]) ?_
        (go_simp <;> (intro hh; omega))
      refine chain_val (.int .i64 x) (S := [45, 43]) rfl ?_ ?_
      · intro ρ w' hE hB hs
        have h43 : ρ (.tmp 43) = .bool false := hs 43 (by decide)
        have h45 : ρ (.tmp 45) = .pointer (some ⟨bb, oo, none⟩) := hs 45 (by decide)
        clear hs
        refine if_t (by simp [Region.wanted, yieldedR, h43]) ?_
        have hcl := (hB.cell (p := ⟨bb, oo, none⟩) hbl).trans HC.out
        go_simp
      refine chain_val (.slice (some ⟨bb, oo, none⟩) n1 c) (S := [0, 43]) rfl ?_ ?_
      · intro ρ w' hE hB hs
        have h0 : ρ (.tmp 0) = .slice (some ⟨bb, oo, none⟩) n1 c := hs 0 (by decide)
        have h43 : ρ (.tmp 43) = .bool false := hs 43 (by decide)
        clear hs
        refine if_t (by simp [Region.wanted, yieldedR, h43]) ?_
        (go_simp <;> exact wrapi64_in _ (by omega) (by omega))
      refine chain_static (RdF .i64 (deltas xs)) (RdF.stable _ _) (S := [47, 43]) rfl (Go.Cor.enters_f Try.func27 (by kernel_rfl) rfl) rfl ?_ ?_
      · intro ρ w' hE hB hs
        have h43 : ρ (.tmp 43) = .bool false := hs 43 (by decide)
        have h47 : ρ (.tmp 47) = .slice (some ⟨bb, oo, none⟩) n1 c := hs 47 (by decide)
        clear hs
        refine ⟨(by simp [Region.wanted, yieldedR, h43]), ?_⟩
        simp only [List.map_toArray, List.map_cons, List.map_nil, h47]
        refine (deltas_any _ _ c xs w' (HH.out.below hB) (by omega)).mono ?_
        rintro e w'' ⟨A', n', c', rfl, hown, hb⟩
        exact ⟨_, rfl, hb, A', n', c', rfl, Rd.own hown⟩
      refine chain_static (RdF .i64 xs) (RdF.stable _ _) (S := [46, 48, 43]) rfl (Go.Cor.enters_f Try.func26 (by kernel_rfl) rfl) rfl ?_ ?_
      · intro ρ w' hE hB hs
        have h43 : ρ (.tmp 43) = .bool false := hs 43 (by decide)
        have h46 : ρ (.tmp 46) = .int .i64 x := hs 46 (by decide)
        have h48 : (RdF .i64 (deltas xs)) (ρ (.tmp 48)) w' := hs 48 (by decide)
        clear hs
        obtain ⟨A48, n48, c48, e48, r48⟩ := h48
        refine ⟨(by simp [Region.wanted, yieldedR, h43]), ?_⟩
        simp only [List.map_toArray, List.map_cons, List.map_nil, e48, h46]
        have hl48 : n48 ≤ 200 := by have := r48.len; simp [deltas] at this; have := H.out.len; omega
        refine (sums_any x _ _ c48 (deltas xs) w' r48 (by omega) hx1 hx2).mono ?_
        rw [E5.out]
        rintro e w'' ⟨A', n', c', rfl, hown, hb⟩
        exact ⟨_, rfl, hb, A', n', c', rfl, Rd.own hown⟩
      refine chain_val (.slice (some ⟨bb, oo, none⟩) n1 c) (S := [0, 43]) rfl ?_ ?_
      · intro ρ w' hE hB hs
        have h0 : ρ (.tmp 0) = .slice (some ⟨bb, oo, none⟩) n1 c := hs 0 (by decide)
        have h43 : ρ (.tmp 43) = .bool false := hs 43 (by decide)
        clear hs
        refine if_t (by simp [Region.wanted, yieldedR, h43]) ?_
        (go_simp <;> exact wrapi64_in _ (by omega) (by omega))
      refine chain_static (fun v__ _ => v__ = .bool true) (stable_eq _) (S := [49, 50, 43]) rfl (Go.Cor.enters_f Try.func23 (by kernel_rfl) rfl) rfl ?_ ?_
      · intro ρ w' hE hB hs
        have h43 : ρ (.tmp 43) = .bool false := hs 43 (by decide)
        have h49 : (RdF .i64 xs) (ρ (.tmp 49)) w' := hs 49 (by decide)
        have h50 : ρ (.tmp 50) = .slice (some ⟨bb, oo, none⟩) n1 c := hs 50 (by decide)
        clear hs
        obtain ⟨A49, n49, c49, e49, r49⟩ := h49
        refine ⟨(by simp [Region.wanted, yieldedR, h43]), ?_⟩
        simp only [List.map_toArray, List.map_cons, List.map_nil, e49, h50]
        refine (sameI_any _ _ _ _ _ _ xs xs w' r49 (HH.out.below hB)).mono ?_
        rintro e w'' ⟨rfl, hb⟩
        exact ⟨_, rfl, hb, by simp⟩
      refine chain_val (.bool true) (S := [43, 51]) rfl ?_ ?_
      · intro ρ w' hE hB hs
        have h43 : ρ (.tmp 43) = .bool false := hs 43 (by decide)
        have h51 : ρ (.tmp 51) = .bool true := hs 51 (by decide)
        clear hs
        have hc := hE.const
        refine if_t (by rfl) ?_
        (go_simp <;> exact wrapi64_in _ (by omega) (by omega))
      refine chain_val (.bool true) (S := [52]) rfl ?_ ?_
      · intro ρ w' hE hB hs
        have h52 : ρ (.tmp 52) = .bool true := hs 52 (by decide)
        clear hs
        refine if_t (by rfl) ?_
        (go_simp <;> exact wrapi64_in _ (by omega) (by omega))
      refine chain_static (fun v__ _ => v__ = .bool true) (stable_eq _) (S := [53]) rfl (Go.Cor.enters_f Try.func28 (by kernel_rfl) rfl) rfl ?_ ?_
      · intro ρ w' hE hB hs
        have h53 : ρ (.tmp 53) = .bool true := hs 53 (by decide)
        clear hs
        refine ⟨(by simp [Region.wanted, yieldedR, h53]), ?_⟩
        simp only [List.map_toArray, List.map_cons, List.map_nil, ]
        refine (awake06 w').mono ?_
        rintro e w'' ⟨rfl, hb⟩
        exact ⟨_, rfl, hb, rfl⟩
      refine chain_val (.bool true) (S := [53, 54]) rfl ?_ ?_
      · intro ρ w' hE hB hs
        have h53 : ρ (.tmp 53) = .bool true := hs 53 (by decide)
        have h54 : ρ (.tmp 54) = .bool true := hs 54 (by decide)
        clear hs
        have hc := hE.const
        refine if_t (by rfl) ?_
        (go_simp <;> exact wrapi64_in _ (by omega) (by omega))
      intro w1 hB1
      simp only [List.reverse_cons, List.reverse_nil, List.nil_append, List.cons_append, Go.Free.Ends, forall_eq, Act.put, List.setIfInBounds_toArray, List.set_cons_zero, List.set_cons_succ]
      intro _ _ _ _
      go_wp2
      go_ret
      exact ⟨rfl, HB6.out.trans (hB1.mono HB6.out.size)⟩
    · obtain rfl : n1 = 0 := by omega
      refine wp_region_free 16 (by kernel_rfl) (by kernel_rfl) ?_
      refine chain_val (.slice A 0 c) (S := [0]) rfl ?_ ?_
      · intro ρ w' hE hB hs
        have h0 : ρ (.tmp 0) = .slice A 0 c := hs 0 (by decide)
        clear hs
        refine if_t (by rfl) ?_
        (go_simp <;> exact wrapi64_in _ (by omega) (by omega))
      refine chain_val (.int .i64 (0 : Nat)) (S := [40]) rfl ?_ ?_
      · intro ρ w' hE hB hs
        have h40 : ρ (.tmp 40) = .slice A 0 c := hs 40 (by decide)
        clear hs
        refine if_t (by rfl) ?_
        (go_simp <;> exact wrapi64_in _ (by omega) (by omega))
      refine chain_val (.bool true) (S := [41]) rfl ?_ ?_
      · intro ρ w' hE hB hs
        have h41 : ρ (.tmp 41) = .int .i64 (0 : Nat) := hs 41 (by decide)
        clear hs
        have hc := hE.const
        refine if_t (by rfl) ?_
        (go_simp <;> exact wrapi64_in _ (by omega) (by omega))
      refine chain_val (.bool true) (S := [42]) rfl ?_ ?_
      · intro ρ w' hE hB hs
        have h42 : ρ (.tmp 42) = .bool true := hs 42 (by decide)
        clear hs
        refine if_t (by rfl) ?_
        (go_simp <;> exact wrapi64_in _ (by omega) (by omega))
      refine chain_val undef (S := [0, 43]) rfl ?_ ?_
      · intro ρ w' hE hB hs
        have h0 : ρ (.tmp 0) = .slice A 0 c := hs 0 (by decide)
        have h43 : ρ (.tmp 43) = .bool true := hs 43 (by decide)
        clear hs
        exact if_f (by simp [Region.wanted, yieldedR, h43]) rfl
      refine chain_val undef (S := [44, 43]) rfl ?_ ?_
      · intro ρ w' hE hB hs
        have h43 : ρ (.tmp 43) = .bool true := hs 43 (by decide)
        have h44 : ρ (.tmp 44) = undef := hs 44 (by decide)
        clear hs
        have hc := hE.const
        exact if_f (by simp [Region.wanted, yieldedR, h43]) rfl
      refine chain_val undef (S := [45, 43]) rfl ?_ ?_
      · intro ρ w' hE hB hs
        have h43 : ρ (.tmp 43) = .bool true := hs 43 (by decide)
        have h45 : ρ (.tmp 45) = undef := hs 45 (by decide)
        clear hs
        exact if_f (by simp [Region.wanted, yieldedR, h43]) rfl
      refine chain_val undef (S := [0, 43]) rfl ?_ ?_
      · intro ρ w' hE hB hs
        have h0 : ρ (.tmp 0) = .slice A 0 c := hs 0 (by decide)
        have h43 : ρ (.tmp 43) = .bool true := hs 43 (by decide)
        clear hs
        exact if_f (by simp [Region.wanted, yieldedR, h43]) rfl
      refine chain_val undef (S := [47, 43]) rfl ?_ ?_
      · intro ρ w' hE hB hs
        have h43 : ρ (.tmp 43) = .bool true := hs 43 (by decide)
        have h47 : ρ (.tmp 47) = undef := hs 47 (by decide)
        clear hs
        exact if_f (by simp [Region.wanted, yieldedR, h43]) rfl
      refine chain_val undef (S := [46, 48, 43]) rfl ?_ ?_
      · intro ρ w' hE hB hs
        have h43 : ρ (.tmp 43) = .bool true := hs 43 (by decide)
        have h46 : ρ (.tmp 46) = undef := hs 46 (by decide)
        have h48 : ρ (.tmp 48) = undef := hs 48 (by decide)
        clear hs
        exact if_f (by simp [Region.wanted, yieldedR, h43]) rfl
      refine chain_val undef (S := [0, 43]) rfl ?_ ?_
      · intro ρ w' hE hB hs
        have h0 : ρ (.tmp 0) = .slice A 0 c := hs 0 (by decide)
        have h43 : ρ (.tmp 43) = .bool true := hs 43 (by decide)
        clear hs
        exact if_f (by simp [Region.wanted, yieldedR, h43]) rfl
      refine chain_val undef (S := [49, 50, 43]) rfl ?_ ?_
      · intro ρ w' hE hB hs
        have h43 : ρ (.tmp 43) = .bool true := hs 43 (by decide)
        have h49 : ρ (.tmp 49) = undef := hs 49 (by decide)
        have h50 : ρ (.tmp 50) = undef := hs 50 (by decide)
        clear hs
        exact if_f (by simp [Region.wanted, yieldedR, h43]) rfl
      refine chain_val (.bool true) (S := [43, 51]) rfl ?_ ?_
      · intro ρ w' hE hB hs
        have h43 : ρ (.tmp 43) = .bool true := hs 43 (by decide)
        have h51 : ρ (.tmp 51) = undef := hs 51 (by decide)
        clear hs
        have hc := hE.const
        refine if_t (by rfl) ?_
        (go_simp <;> exact wrapi64_in _ (by omega) (by omega))
      refine chain_val (.bool true) (S := [52]) rfl ?_ ?_
      · intro ρ w' hE hB hs
        have h52 : ρ (.tmp 52) = .bool true := hs 52 (by decide)
        clear hs
        refine if_t (by rfl) ?_
        (go_simp <;> exact wrapi64_in _ (by omega) (by omega))
      refine chain_static (fun v__ _ => v__ = .bool true) (stable_eq _) (S := [53]) rfl (Go.Cor.enters_f Try.func28 (by kernel_rfl) rfl) rfl ?_ ?_
      · intro ρ w' hE hB hs
        have h53 : ρ (.tmp 53) = .bool true := hs 53 (by decide)
        clear hs
        refine ⟨(by simp [Region.wanted, yieldedR, h53]), ?_⟩
        simp only [List.map_toArray, List.map_cons, List.map_nil, ]
        refine (awake06 w').mono ?_
        rintro e w'' ⟨rfl, hb⟩
        exact ⟨_, rfl, hb, rfl⟩
      refine chain_val (.bool true) (S := [53, 54]) rfl ?_ ?_
      · intro ρ w' hE hB hs
        have h53 : ρ (.tmp 53) = .bool true := hs 53 (by decide)
        have h54 : ρ (.tmp 54) = .bool true := hs 54 (by decide)
        clear hs
        have hc := hE.const
        refine if_t (by rfl) ?_
        (go_simp <;> exact wrapi64_in _ (by omega) (by omega))
      intro w1 hB1
      simp only [List.reverse_cons, List.reverse_nil, List.nil_append, List.cons_append, Go.Free.Ends, forall_eq, Act.put, List.setIfInBounds_toArray, List.set_cons_zero, List.set_cons_succ]
      go_wp2
      go_ret
      exact ⟨rfl, HB6.out.trans (hB1.mono HB6.out.size)⟩

namespace widthBack
open Go.ChangeShapes Go.WideShapes Go.ChangeAt Go.RowKit Go.Cor
set_option linter.unusedVariables false

set_option maxRecDepth 100000 in
theorem lifted (os : Os) (started : os.Started) (H : Type) (enc : TypeId × Value → H) :
    ReturnsInHanded {} Try.checked os 7 .any (Rows.widthBackSpec.pre6 enc Try.prog Try.f7 Rows.widthBackRow.domain false) (Rows.widthBackSpec.post enc Try.prog Try.f7 false true false false) := by
  refine returnsInHanded_of_change (C := Try.checked) (by kernel_rfl : ownKnob Try.prog.godebug = none) started (by kernel_rfl) Try.func7
    (ChangeSpec.witness6 (enc := enc) (C := Try.checked) false ⟨#[], #[.slice none 0 0, .int .i64 0], []⟩ 8 (by kernel_rfl) (by kernel_rfl) (by kernel_rfl) (by kernel_rfl)) ?_
  intro W base args ds gs before hval0 hW hcnd _
  have hval : ∀ (j : Nat) t v, Try.f7.params[j]? = some t → args[j]? = some v → Value.okWide Try.prog W .any base t v := hval0
  have hW' := hW
  obtain ⟨p, q, hA0, hV, rfl, hfz, hnd⟩ := hW
  have hA : DataW.TrodAll enc Try.prog W 0 (fun _ => true) true Try.f7.params.toList args.toList ds p := hA0
  rw [Try.params7] at hA hval
  obtain ⟨v0, vs0, d0, ds0, p0, q0, hargs, rfl, rfl, h0, r0⟩ := trodAll_cons hA
  obtain ⟨v1, vs1, d1, ds1, p1, q1, rfl, rfl, rfl, h1, r1⟩ := trodAll_cons r0
  obtain ⟨rfl, rfl, rfl⟩ := trodAll_nil r1
  obtain rfl : args = #[v0, v1] := by cases args; simp_all
  obtain ⟨rfl, rfl⟩ := trodVars_none hV
  obtain ⟨a0, len0, cap0, rfl⟩ := okWide_slice Try.underlying37 (hval 0 37 v0 rfl rfl)
  have k0 := h0
  have lt0 : ∀ x ∈ p0, x.block < W.heap.size := by obtain ⟨m, hm⟩ := k0; exact DataW.trod_lt m _ _ _ hm
  obtain ⟨x0, g0, b0⟩ : ∃ xs, Rd W .i64 a0 len0 cap0 xs ∧ In .i64 xs := by
    obtain ⟨fuel, hf⟩ := h0
    rcases open_ints Try.underlying37 Try.underlying2 (by kernel_rfl) hf with ⟨hcs, _⟩ | ⟨x, l, c, zs, hcs, _, hl, hm, hz, _, hcell, hwz⟩
    · simp [Value.cells] at hcs
      obtain ⟨rfl, rfl, rfl⟩ := hcs
      exact ⟨[], Rd.nilv _ _, fun _ h => by cases h⟩
    · simp [Value.cells] at hcs
      obtain ⟨rfl, rfl, rfl⟩ := hcs
      exact Rd.of_row hl hm hz hcell hwz
  obtain ⟨a1, rfl, rfl, rfl, w1⟩ := open_int Try.underlying2 (hval 1 2 v1 rfl rfl) h1
  clear hA0 hval0
  refine (WidthBack_walk W a0 len0 cap0 x0 g0 b0 a1 (fits_of_wf w1)).mono fun e W' ⟨he, bel⟩ => ?_
  subst he
  exact ⟨_, rfl, _, _, _, [], _, [], hW', trodAll_mk1 (shut_bool Try.underlying4 _), (trodAll_cons_mk (Below.trod (by kernel_rfl : laidOutB Try.prog = true) (by kernel_rfl) (of_decide_eq_true (by kernel_rfl)) k0 bel lt0) (trodAll_cons_mk (shut_int Try.underlying2 w1) trodAll_mk0)), rfl, bel.frame _, fun h => by cases h⟩

theorem proved : Rows.WidthBackSaid :=
  OpenClaim.holds_of_wide 7 Try.f7 rfl rfl rfl rfl rfl rfl rfl ⟨rfl, rfl, rfl, rfl, rfl⟩ rfl rfl rfl rfl rfl (by kernel_rfl) Try.func7 (by kernel_rfl)
    (of_decide_eq_true (by kernel_rfl)) (by unfold Func.isWrapper; first | (rw [if_pos (by decide +kernel)]; kernel_rfl) | (rw [if_neg (by decide +kernel)]; exact ⟨rfl, rfl⟩))
    (fun os started H enc _ => lifted os started H enc)
#print axioms proved
end widthBack
end Go.Proofs.Ytibfbomihopgaaa
