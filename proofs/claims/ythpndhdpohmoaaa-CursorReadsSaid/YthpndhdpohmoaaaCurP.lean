/-
  Chapter 3: Peek; awake.
-/
import Derived.Test.YthpndhdpohmoaaaCurN
import Derived.Test.YthpndhdpohmoaaaPut
namespace Go.Proofs.Ythpndhdpohmoaaa
open Go.RowKit Go.Cor Go.Free

set_option maxRecDepth 100000 in
set_option maxHeartbeats 1000000 in
theorem peek_any {w : World} {p : Nat} {A : Option Addr} {n c : Nat} {xs : List Int} {at_ : Nat} (h : Cur w p A n c xs at_) :
    Calls Try.prog 39 #[.pointer (some ⟨p, 0, none⟩)] w (RetRow w.heap.size 5 .u8 w (xs.drop at_)) := by
  have HC := Lib.hid h
  have hp := h.lt
  have hle := h.le
  have hsm := h.small
  clear h
  go_enter Try.func39, Try.ntmps39
  go_wp2
  refine wp_region_free 10 (by kernel_rfl) (by kernel_rfl) ?_
  refine chain_val (.pointer (some ⟨p, 0, none⟩)) (S := [0]) rfl ?_ ?_
  · intro ρ w' hE hB hs
    have h0 : ρ (.tmp 0) = .pointer (some ⟨p, 0, none⟩) := hs 0 (by decide)
    clear hs
    refine if_t (by rfl) ?_
    (go_simp <;> exact wrapi64_in _ (by omega) (by omega))
  refine chain_val (.pointer (some ⟨p, 0, none⟩)) (S := [3]) rfl ?_ ?_
  · intro ρ w' hE hB hs
    have h3 : ρ (.tmp 3) = .pointer (some ⟨p, 0, none⟩) := hs 3 (by decide)
    clear hs
    refine if_t (by rfl) ?_
    (go_simp <;> exact wrapi64_in _ (by omega) (by omega))
  refine chain_val (.pointer (some ⟨p, 0, none⟩)) (S := [4]) rfl ?_ ?_
  · intro ρ w' hE hB hs
    have h4 : ρ (.tmp 4) = .pointer (some ⟨p, 0, none⟩) := hs 4 (by decide)
    clear hs
    refine if_t (by rfl) ?_
    (go_simp <;> exact wrapi64_in _ (by omega) (by omega))
  refine chain_val (.slice A n c) (S := [5]) rfl ?_ ?_
  · intro ρ w' hE hB hs
    have h5 : ρ (.tmp 5) = .pointer (some ⟨p, 0, none⟩) := hs 5 (by decide)
    clear hs
    refine if_t (by rfl) ?_
    have hcl := (hB.cell (p := ⟨p, 0, none⟩) hp).trans HC.out.c0
    go_simp
  refine chain_val (.pointer (some ⟨p, 0, none⟩)) (S := [0]) rfl ?_ ?_
  · intro ρ w' hE hB hs
    have h0 : ρ (.tmp 0) = .pointer (some ⟨p, 0, none⟩) := hs 0 (by decide)
    clear hs
    refine if_t (by rfl) ?_
    (go_simp <;> exact wrapi64_in _ (by omega) (by omega))
  refine chain_val (.pointer (some ⟨p, 0, none⟩)) (S := [7]) rfl ?_ ?_
  · intro ρ w' hE hB hs
    have h7 : ρ (.tmp 7) = .pointer (some ⟨p, 0, none⟩) := hs 7 (by decide)
    clear hs
    refine if_t (by rfl) ?_
    (go_simp <;> exact wrapi64_in _ (by omega) (by omega))
  refine chain_val (.pointer (some ⟨p, 1, none⟩)) (S := [8]) rfl ?_ ?_
  · intro ρ w' hE hB hs
    have h8 : ρ (.tmp 8) = .pointer (some ⟨p, 0, none⟩) := hs 8 (by decide)
    clear hs
    refine if_t (by rfl) ?_
    (go_simp <;> exact wrapi64_in _ (by omega) (by omega))
  refine chain_val (.int .i64 (at_ : Int)) (S := [9]) rfl ?_ ?_
  · intro ρ w' hE hB hs
    have h9 : ρ (.tmp 9) = .pointer (some ⟨p, 1, none⟩) := hs 9 (by decide)
    clear hs
    refine if_t (by rfl) ?_
    have hcl := (hB.cell (p := ⟨p, 1, none⟩) hp).trans HC.out.c1
    go_simp
  refine chain_fact (RdF .u8 (xs.drop at_)) (RdF.stable _ _) (S := [6, 10]) rfl ?_ ?_
  · intro ρ w' hE hB hs
    have h6 : ρ (.tmp 6) = .slice A n c := hs 6 (by decide)
    have h10 : ρ (.tmp 10) = .int .i64 (at_ : Int) := hs 10 (by decide)
    clear hs
    refine if_t (by rfl) ?_
    have hr := (HC.out.rd.below hB).sliced (l := at_) (j := n) (by omega) (by omega)
    have hrun := run_l (P := Try.prog) (w := w') elemU8 A n c (l := at_) (by omega) .i64
    rw [List.take_of_length_le (by have := HC.out.rd.len; simp; omega)] at hr
    refine ⟨_, ?_, _, _, _, rfl, hr⟩
    unfold execOp
    simp only [Option.map, h6, h10, hrun, Sem.run_bind, Result.andThen_ok, Sem.run_pure]
  refine chain_static (OwF w.heap.size 5 .u8 (xs.drop at_)) (OwF.stable _ _ _ _) (S := [11]) rfl (Go.Cor.enters_f Try.func62 (by kernel_rfl) rfl) rfl ?_ ?_
  · intro ρ w' hE hB hs
    have h11 : (RdF .u8 (xs.drop at_)) (ρ (.tmp 11)) w' := hs 11 (by decide)
    clear hs
    obtain ⟨A11, n11, c11, e11, r11⟩ := h11
    refine ⟨(by rfl), ?_⟩
    simp only [List.map_toArray, List.map_cons, List.map_nil, e11]
    refine (clone_any _ _ _ _ _ r11 (by have h1 := r11.len; have h2 := HC.out.rd.len; rw [List.length_drop] at h1; omega)).mono ?_
    rintro e w3 ⟨A', n', c', rfl, ho, hb⟩
    exact ⟨_, rfl, hb, A', n', c', rfl, owns_weak ho hB.size⟩
  intro w1 hB1
  simp only [List.reverse_cons, List.reverse_nil, List.nil_append, List.cons_append, Go.Free.Ends, forall_eq, Act.put, List.setIfInBounds_toArray, List.set_cons_zero, List.set_cons_succ]
  rintro _ _ _ ⟨A', n', c', rfl, hown⟩
  have HO := Lib.hid hown
  have HB := Lib.hid hB1
  clear hown hB1
  go_wp2
  go_ret
  exact ⟨A', n', c', rfl, HO.out, HB.out⟩

/-- what the example's try comes to -/
def Ex03 (w4 : World) (n : Int) (w1 : World) : Prop := n = 1 ∧ Below (w4.alloc (.cells #[.int .i64 0] 53)).heap.size (w4.alloc (.cells #[.int .i64 0] 53)) w1
theorem awake03_1 {w4 : World} {p bc : Nat} {A : Option Addr} {c : Nat} (h : Cur w4 p A 3 c [1, 0, 7] 2) (hb : Box w4 bc 51 (.pointer (some ⟨p, 0, none⟩))) :
    Calls Try.prog 61 #[.pointer (some ⟨bc, 0, none⟩)] (w4.alloc (.cells #[.int .i64 0] 53)) (Tried (Ex03 w4)) := by
  have hc := cell_of_one (hb.alloc (.cells #[.int .i64 0] 53))
  have HU := Lib.hid (U16_short (h.below ((Below.refl _ _).alloc (Nat.le_refl _) (.cells #[.int .i64 0] 53))) (by decide))
  clear h hb
  go_enter Try.func61, Try.ntmps61
  go_wp2_with fail
  refine HU.out.mono ?_
  rintro e w1 ⟨rfl, hb⟩
  exact ⟨rfl, 1, ⟨rfl, hb⟩, .inr ⟨by decide, rfl⟩⟩
set_option maxRecDepth 100000 in
set_option maxHeartbeats 2000000 in
theorem awake03 (w : World) : Calls Try.prog 26 #[] w fun e w' => e = .returned (.bool true) ∧ Below w.heap.size w w' := by
  have hmf : ∀ (fn : Fn) (first cap : Array Value) (w : World), (Instr.makeFunc fn first cap).run Try.prog w = .ok (.func fn first cap) w := fun _ _ _ _ => rfl
  have HN := Lib.hid (new_any _ 3 3 [1, 0, 7] _ (Rd.lit w 5 .u8 [1, 0, 7]) (by decide) (by intro x hx; simp at hx; omega))
  have eg1 : ∀ args w, (callFunc 61 args).run Try.prog w = .ok (.enter 61 args) w := enters_f Try.func61 (by kernel_rfl) rfl
  have HE := Lib.hid eg1
  clear eg1
  go_enter Try.func26, Try.ntmps26
  go_wp2_with fail
  refine HN.out.mono ?_
  rintro e w2 ⟨p, A, c, rfl, hcu, hb2, hpp, _⟩
  obtain ⟨w3, hw3⟩ : ∃ w3, w2.alloc (.cells #[.pointer (some ⟨p, 0, none⟩)] 51) = w3 := ⟨_, rfl⟩
  have hbc : Box w3 w2.heap.size 51 (.pointer (some ⟨p, 0, none⟩)) := by rw [← hw3]; exact Box.new _ _ _
  have hb3 : Below w.heap.size w w3 := by rw [← hw3]; exact (((Below.refl w.heap.size w).alloc (Nat.le_refl _) _).trans (hb2.mono (by simp))).alloc (by have := hb2.size; simp at this; omega) _
  have hc3 : Cur w3 p A 3 c [1, 0, 7] 0 := by rw [← hw3]; exact hcu.below ((Below.refl _ _).alloc (Nat.le_refl _) _)
  have hplt := hcu.lt
  have HPL : Hid (p < w2.heap.size ∧ w.heap.size ≤ p) := ⟨hplt, by simp at hpp; omega⟩
  have hu := U16_ok hc3 (by decide)
  rw [show num (([1, 0, 7].drop 0).take 2) = 1 by decide] at hu
  have HU := Lib.hid hu
  have HBC := Lib.hid hbc
  have HB3 := Lib.hid hb3
  have hcell := cell_of_one hbc
  have e0 : ∀ w : World, (binOp BinOp.eql 51 (.pointer (some ⟨p, 0, none⟩)) (.pointer none)).run Try.prog w = .ok (.bool false) w := fun _ => rfl
  clear hcu hb2 hpp hbc hb3 hc3 hu hplt HN
  go_wp2_with fail
  refine HU.out.mono ?_
  rintro e w4 ⟨rfl, hc4, hm4⟩
  have hb4 : Below w.heap.size w w4 := HB3.out.trans (hm4.below HB3.out.size fun k e => by have := HPL.out.2; omega)
  have hbx4 := HBC.out.keep hm4 (by have := HPL.out.1; omega)
  have HC4 := Lib.hid hc4
  have HB4 := Lib.hid hb4
  have HBX := Lib.hid hbx4
  have HSZ := Lib.hid (show w2.heap.size + 1 ≤ w4.heap.size from by have := hm4.size; rw [← hw3] at this; simpa using this)
  clear hc4 hm4 hb4 hbx4 HU hw3 hcell
  go_wp2_with fail
  refine (try_any _ _ w4 (Ex03 w4) HE.out (awake03_1 HC4.out HBX.out) ?_).mono ?_
  · rintro n w1 ⟨_, hb⟩
    exact (Box.new _ _ _).below hb (by simp)
  rintro e w5 ⟨_, w1, ⟨rfl, hb1⟩, rfl, hk⟩
  have hb5 : Below w4.heap.size w4 w5 := Below.of_mod (Mod.tried (.of_below hb1) hk)
  have HC5 := Lib.hid (HC4.out.below hb5)
  have HX5 := Lib.hid (HBX.out.below hb5 (by have := HSZ.out; omega))
  have HB5 := Lib.hid (HB4.out.trans (hb5.mono HB4.out.size))
  have hbl := lt_of_block HX5.out
  clear hb1 hk hb5 HC4 HBX HB4 HBC HB3
  go_wp2
  refine wp_region_free 19 (by kernel_rfl) (by kernel_rfl) ?_
  refine chain_make (RdF .u8 [9]) (RdF.stable _ _) (S := []) rfl ?_ ?_
  · intro ρ w' hE hB hs
    clear hs
    have hc := hE.const
    exact ⟨(by rfl), .slice (some ⟨w'.heap.size, 0, none⟩) 1 1, w'.alloc (.cells #[.int .u8 9] 5), (by go_simp), (Below.refl _ _).alloc (Nat.le_refl _) _, _, _, _, rfl, Rd.lit w' 5 .u8 [9] (by simp [maxLen])⟩
  refine chain_static (RdF .u8 [9, 2, 1]) (RdF.stable _ _) (S := [12]) rfl (Go.Cor.enters_f Try.func22 (by kernel_rfl) rfl) rfl ?_ ?_
  · intro ρ w' hE hB hs
    have h12 : (RdF .u8 [9]) (ρ (.tmp 12)) w' := hs 12 (by decide)
    clear hs
    have hc := hE.const
    obtain ⟨A12, n12, c12, e12, r12⟩ := h12
    refine ⟨(by rfl), ?_⟩
    simp only [List.map_toArray, List.map_cons, List.map_nil, hc, e12]
    refine (Put16_any _ _ _ _ 258 _ r12 (by have := r12.len; simp at this; omega) (by decide)).mono ?_
    rintro e w3 ⟨A', n', c', rfl, ho, hb⟩
    exact ⟨_, rfl, hb, A', n', c', rfl, Rd.own ho⟩
  refine chain_val (.string (strOfNums [9, 2, 1])) (S := [13]) rfl ?_ ?_
  · intro ρ w' hE hB hs
    have h13 : (RdF .u8 [9, 2, 1]) (ρ (.tmp 13)) w' := hs 13 (by decide)
    clear hs
    refine if_t (by rfl) ?_
    obtain ⟨A13, n13, c13, e13, r13⟩ := h13
    have hcv := conv_bytes r13 38 5 9 Try.underlying38 Try.underlying5 Try.underlying9
    clear r13
    go_simp
  refine chain_make (RdF .u8 [9, 2, 1]) (RdF.stable _ _) (S := []) rfl ?_ ?_
  · intro ρ w' hE hB hs
    clear hs
    have hc := hE.const
    exact ⟨(by rfl), .slice (some ⟨w'.heap.size, 0, none⟩) 3 3, w'.alloc (.cells #[.int .u8 9, .int .u8 2, .int .u8 1] 5), (by go_simp), (Below.refl _ _).alloc (Nat.le_refl _) _, _, _, _, rfl, Rd.lit w' 5 .u8 [9, 2, 1] (by simp [maxLen])⟩
  refine chain_val (.string (strOfNums [9, 2, 1])) (S := [15]) rfl ?_ ?_
  · intro ρ w' hE hB hs
    have h15 : (RdF .u8 [9, 2, 1]) (ρ (.tmp 15)) w' := hs 15 (by decide)
    clear hs
    refine if_t (by rfl) ?_
    obtain ⟨A15, n15, c15, e15, r15⟩ := h15
    have hcv := conv_bytes r15 38 5 9 Try.underlying38 Try.underlying5 Try.underlying9
    clear r15
    go_simp
  refine chain_val (.bool true) (S := [14, 16]) rfl ?_ ?_
  · intro ρ w' hE hB hs
    have h14 : ρ (.tmp 14) = .string (strOfNums [9, 2, 1]) := hs 14 (by decide)
    have h16 : ρ (.tmp 16) = .string (strOfNums [9, 2, 1]) := hs 16 (by decide)
    clear hs
    refine if_t (by rfl) ?_
    (go_simp <;> exact wrapi64_in _ (by omega) (by omega))
  refine chain_val (.bool true) (S := [17]) rfl ?_ ?_
  · intro ρ w' hE hB hs
    have h17 : ρ (.tmp 17) = .bool true := hs 17 (by decide)
    clear hs
    refine if_t (by rfl) ?_
    (go_simp <;> exact wrapi64_in _ (by omega) (by omega))
  refine chain_val (.int .u16 1) (S := [2, 18]) rfl ?_ ?_
  · intro ρ w' hE hB hs
    have h2 : ρ (.tmp 2) = .int .u16 1 := hs 2 (by decide)
    have h18 : ρ (.tmp 18) = .bool true := hs 18 (by decide)
    clear hs
    refine if_t (by simp [Region.wanted, yieldedR, h18]) ?_
    (go_simp <;> exact wrapi64_in _ (by omega) (by omega))
  refine chain_val (.bool true) (S := [19, 18]) rfl ?_ ?_
  · intro ρ w' hE hB hs
    have h18 : ρ (.tmp 18) = .bool true := hs 18 (by decide)
    have h19 : ρ (.tmp 19) = .int .u16 1 := hs 19 (by decide)
    clear hs
    have hc := hE.const
    refine if_t (by simp [Region.wanted, yieldedR, h18]) ?_
    (go_simp <;> exact wrapi64_in _ (by omega) (by omega))
  refine chain_val (.bool true) (S := [18, 20]) rfl ?_ ?_
  · intro ρ w' hE hB hs
    have h18 : ρ (.tmp 18) = .bool true := hs 18 (by decide)
    have h20 : ρ (.tmp 20) = .bool true := hs 20 (by decide)
    clear hs
    have hc := hE.const
    refine if_t (by rfl) ?_
    (go_simp <;> exact wrapi64_in _ (by omega) (by omega))
  refine chain_val (.bool true) (S := [21]) rfl ?_ ?_
  · intro ρ w' hE hB hs
    have h21 : ρ (.tmp 21) = .bool true := hs 21 (by decide)
    clear hs
    refine if_t (by rfl) ?_
    (go_simp <;> exact wrapi64_in _ (by omega) (by omega))
  refine chain_val (.int .i64 1) (S := [3, 22]) rfl ?_ ?_
  · intro ρ w' hE hB hs
    have h3 : ρ (.tmp 3) = .int .i64 1 := hs 3 (by decide)
    have h22 : ρ (.tmp 22) = .bool true := hs 22 (by decide)
    clear hs
    refine if_t (by simp [Region.wanted, yieldedR, h22]) ?_
    (go_simp <;> exact wrapi64_in _ (by omega) (by omega))
  refine chain_val (.bool true) (S := [23, 22]) rfl ?_ ?_
  · intro ρ w' hE hB hs
    have h22 : ρ (.tmp 22) = .bool true := hs 22 (by decide)
    have h23 : ρ (.tmp 23) = .int .i64 1 := hs 23 (by decide)
    clear hs
    have hc := hE.const
    refine if_t (by simp [Region.wanted, yieldedR, h22]) ?_
    (go_simp <;> exact wrapi64_in _ (by omega) (by omega))
  refine chain_val (.bool true) (S := [22, 24]) rfl ?_ ?_
  · intro ρ w' hE hB hs
    have h22 : ρ (.tmp 22) = .bool true := hs 22 (by decide)
    have h24 : ρ (.tmp 24) = .bool true := hs 24 (by decide)
    clear hs
    have hc := hE.const
    refine if_t (by rfl) ?_
    (go_simp <;> exact wrapi64_in _ (by omega) (by omega))
  refine chain_val (.bool true) (S := [25]) rfl ?_ ?_
  · intro ρ w' hE hB hs
    have h25 : ρ (.tmp 25) = .bool true := hs 25 (by decide)
    clear hs
    refine if_t (by rfl) ?_
    (go_simp <;> exact wrapi64_in _ (by omega) (by omega))
  refine chain_val (.pointer (some ⟨p, 0, none⟩)) (S := [1, 26]) rfl ?_ ?_
  · intro ρ w' hE hB hs
    have h1 : ρ (.tmp 1) = .pointer (some ⟨w2.heap.size, 0, none⟩) := hs 1 (by decide)
    have h26 : ρ (.tmp 26) = .bool true := hs 26 (by decide)
    clear hs
    refine if_t (by simp [Region.wanted, yieldedR, h26]) ?_
    have hcl := (hB.cell (p := ⟨w2.heap.size, 0, none⟩) hbl).trans (cell_of_one HX5.out)
    go_simp
  refine chain_static (fun v__ _ => v__ = .int .i64 2) (stable_eq _) (S := [27, 26]) rfl (Go.Cor.enters_f Try.func37 (by kernel_rfl) rfl) rfl ?_ ?_
  · intro ρ w' hE hB hs
    have h26 : ρ (.tmp 26) = .bool true := hs 26 (by decide)
    have h27 : ρ (.tmp 27) = .pointer (some ⟨p, 0, none⟩) := hs 27 (by decide)
    clear hs
    refine ⟨(by simp [Region.wanted, yieldedR, h26]), ?_⟩
    simp only [List.map_toArray, List.map_cons, List.map_nil, h27]
    refine (at_any (HC5.out.below hB)).mono ?_
    rintro e w3 ⟨rfl, rfl⟩
    exact ⟨_, rfl, Below.refl _ _, rfl⟩
  refine chain_val (.bool true) (S := [28, 26]) rfl ?_ ?_
  · intro ρ w' hE hB hs
    have h26 : ρ (.tmp 26) = .bool true := hs 26 (by decide)
    have h28 : ρ (.tmp 28) = .int .i64 2 := hs 28 (by decide)
    clear hs
    have hc := hE.const
    refine if_t (by simp [Region.wanted, yieldedR, h26]) ?_
    (go_simp <;> exact wrapi64_in _ (by omega) (by omega))
  refine chain_val (.bool true) (S := [26, 29]) rfl ?_ ?_
  · intro ρ w' hE hB hs
    have h26 : ρ (.tmp 26) = .bool true := hs 26 (by decide)
    have h29 : ρ (.tmp 29) = .bool true := hs 29 (by decide)
    clear hs
    have hc := hE.const
    refine if_t (by rfl) ?_
    (go_simp <;> exact wrapi64_in _ (by omega) (by omega))
  intro w1 hB1
  simp only [List.reverse_cons, List.reverse_nil, List.nil_append, List.cons_append, Go.Free.Ends, forall_eq, Act.put, List.setIfInBounds_toArray, List.set_cons_zero, List.set_cons_succ]
  rintro _ _ _ _ _ _
  have HB6 := Lib.hid (HB5.out.trans (hB1.mono HB5.out.size))
  clear hB1
  go_wp2
  go_ret
  exact ⟨rfl, HB6.out⟩
end Go.Proofs.Ythpndhdpohmoaaa
