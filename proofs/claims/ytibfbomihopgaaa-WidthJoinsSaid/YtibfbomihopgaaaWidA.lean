/-
  Chapter 6's examples (awake).
-/
import Derived.Test.YtibfbomihopgaaaWidD
import Derived.Test.YtibfbomihopgaaaWidS
namespace Go.Proofs.Ytibfbomihopgaaa
open Go.RowKit Go.Cor Go.Free

theorem row_len {w : World} {B : Nat} {E : TypeId} {k : IntKind} {A : Option Addr} {n c : Nat} {xs : List Int} (h : Owns w B E k A n c xs) : xs.length = n := by
  have := h.1; simpa using this

set_option maxRecDepth 100000 in
set_option maxHeartbeats 1000000 in
theorem awake06 (w : World) : Calls Try.prog 28 #[] w fun e w' => e = .returned (.bool true) ∧ Below w.heap.size w w' := by
  have e1 : offsets (-1) [-1, 3] = [0, 4] := by decide +kernel
  have e2 : deltas [9223372036854775807, -9223372036854775808] = [1] := by decide +kernel
  have e3 : bw 255 = 8 := by decide +kernel
  have E1 := Lib.hid e1
  have E2 := Lib.hid e2
  have E3 := Lib.hid e3
  clear e1 e2 e3
  go_enter Try.func28, Try.ntmps28
  go_wp2_with fail
  refine (offsets_any (-1) _ 2 2 [-1, 3] _ (Rd.lit w _ .i64 [-1, 3]) (by decide)).mono ?_
  rw [E1.out]
  rintro e w1 ⟨A1, n1, c1, rfl, hown1, hb1⟩
  obtain rfl : n1 = 2 := (row_len hown1).symm
  have H1 := Lib.hid (Rd.own hown1)
  have HB1 := Lib.hid (((Below.refl w.heap.size w).alloc (Nat.le_refl _) _).trans (hb1.mono (by simp)))
  clear hown1 hb1
  go_wp2_with fail
  refine (deltas_any _ 2 2 [9223372036854775807, -9223372036854775808] _ (Rd.lit w1 _ .i64 [9223372036854775807, -9223372036854775808]) (by decide)).mono ?_
  rw [E2.out]
  rintro e w2 ⟨A2, n2, c2, rfl, hown2, hb2⟩
  obtain rfl : n2 = 1 := (row_len hown2).symm
  have hb12 : Below w1.heap.size w1 w2 := ((Below.refl _ w1).alloc (Nat.le_refl _) _).trans (hb2.mono (by simp))
  have H2 := Lib.hid (Rd.own hown2)
  have H12 := Lib.hid (H1.out.below hb12)
  have HB2 := Lib.hid (HB1.out.trans (hb12.mono HB1.out.size))
  clear hown2 hb2 hb12
  go_wp2_with fail
  refine (of_any 255 _ (by decide) (by decide)).mono ?_
  rw [E3.out]
  rintro e w' ⟨rfl, rfl⟩
  go_wp2_with fail
  refine (sameU_any _ _ _ _ _ _ [0, 4] [0, 4] _ (H12.out.alloc _) (Rd.lit w2 _ .u64 [0, 4])).mono ?_
  rintro e w3 ⟨rfl, hb3⟩
  have hb23 : Below w2.heap.size w2 w3 := ((Below.refl _ w2).alloc (Nat.le_refl _) _).trans (hb3.mono (by simp))
  have H23 := Lib.hid (H2.out.below hb23)
  have HB3 := Lib.hid (HB2.out.trans (hb23.mono HB2.out.size))
  clear hb3 hb23
  go_wp2_with fail
  refine (sameI_any _ _ _ _ _ _ [1] [1] _ (H23.out.alloc _) (Rd.lit w3 _ .i64 [1])).mono ?_
  rintro e w4 ⟨rfl, hb4⟩
  have hb34 : Below w3.heap.size w3 w4 := ((Below.refl _ w3).alloc (Nat.le_refl _) _).trans (hb4.mono (by simp))
  have HB4 := Lib.hid (HB3.out.trans (hb34.mono HB3.out.size))
  clear hb4 hb34
  go_wp2
  go_ret
  exact ⟨rfl, HB4.out⟩
end Go.Proofs.Ytibfbomihopgaaa
