/-
  Chapter 25: the example (awake).
-/
import Derived.Test.YthpndhdpohmoaaaZoneO
namespace Go.Proofs.Ythpndhdpohmoaaa
open Go.RowKit Go.Cor Go.Free

set_option maxRecDepth 100000 in
set_option maxHeartbeats 1000000 in
theorem awake25 (w : World) : Calls Try.prog 16 #[] w fun e w' => e = .returned (.bool true) ∧ Below w.heap.size w w' := by
  have hz := zoneOf_any _ 2 2 [5, -1] _ (Rd.lit w 2 .i64 [5, -1]) (by intro x hx; simp at hx; rcases hx with rfl | rfl <;> exact ⟨by decide, by decide⟩) (by decide)
  rw [show decide (0 < 2) = true from rfl] at hz
  have e1 : zr (zn [5, -1]) = #[.int .i64 2, .int .i64 (-1), .int .i64 5, .int .i64 4] := by kernel_rfl
  rw [e1] at hz
  have HZ := Lib.hid hz
  clear hz e1
  go_enter Try.func16, Try.ntmps16
  go_wp2_with fail
  refine HZ.out.mono ?_
  rintro e w1 ⟨rfl, hb1⟩
  have HB := Lib.hid (((Below.refl w.heap.size w).alloc (Nat.le_refl _) _).trans (hb1.mono (by simp)))
  clear hb1
  go_wp2
  go_ret
  exact ⟨rfl, HB.out.alloc HB.out.size _⟩
end Go.Proofs.Ythpndhdpohmoaaa
