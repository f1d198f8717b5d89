/-
  Widths of one number; what the tables say of rows of numbers. (Printed by wip/genwid.py.)
-/
import Derived.Test.YtibfbomihopgaaaLen64
import Derived.Test.YtibfbomihopgaaaFreeA
import Derived.WalkKit
import Derived.WalkSpells
import Derived.WalkLawsBesides
import Derived.Test.YtibfbomihopgaaaBits
namespace Go.Proofs.Ytibfbomihopgaaa
open Go.RowKit Go.Cor Go.Free

theorem elemI64 : ElemT Try.prog 37 2 (.int .i64 0) 1 8 := ⟨Try.underlying37, by kernel_rfl, rfl, by decide⟩
theorem elemU64 : ElemT Try.prog 40 23 (.int .u64 0) 1 8 := ⟨Try.underlying40, by kernel_rfl, rfl, by decide⟩


theorem of_any (x : Int) (w : World) (h0 : 0 ≤ x) (h1 : x ≤ 18446744073709551615) :
    Calls Try.prog 34 #[.int .u64 x] w fun e w' => e = .returned (.int .i64 (bw x)) ∧ w = w' := by
  go_enter Try.func34, Try.ntmps34
  go_wp2_with (refine (len64_any x w h0 h1).mono ?_; rintro e w' ⟨rfl, rfl⟩)
  go_ret
  exact ⟨rfl, rfl⟩

set_option maxHeartbeats 400000 in
theorem refOf_any (x : Int) (w : World) (h0 : 0 ≤ x) (h1 : x ≤ 18446744073709551615) :
    Calls Try.prog 35 #[.int .u64 x] w fun e w' => e = .returned (.int .i64 (bw x)) ∧ w = w' := by
  obtain ⟨v, rfl⟩ := Int.eq_ofNat_of_zero_le h0
  have hbn : bw (v : Int) = (nbits v : Int) := by simp [bw]
  rw [hbn]
  have HN := Lib.hid (nbits_u64 v (by omega))
  go_enter Try.func35, Try.ntmps35
  go_wp2
  go_loop [0, 3, 4, 5, 6, 7, 8, 9] (fun v0 n3 _ _ _ _ _ _ => ∃ u n : Nat, v0 = .int .u64 u ∧ u ≤ v ∧ n3 = .int .i64 n ∧ Hid (nbits v = n + nbits u)) (fun v0 _ _ _ _ _ _ _ => (intOf v0).toNat)
  case atStart => exact ⟨v, 0, rfl, Nat.le_refl _, rfl, Lib.hid (by simp)⟩
  case round =>
    obtain ⟨u, n, rfl, hu, rfl, hI⟩ := hrel
    by_cases hlt : 0 < u
    · have hn : n ≤ 64 := by have := HN.out; have := hI.out; omega
      go_wp2
      go_round
      case rel => exact ⟨u / 2, n + 1, val_i (by omega), by omega, val_i (by omega), Lib.hid (by rw [hI.out, nbits_pos hlt]; omega)⟩
      case measure => simp [intOf] <;> omega
    · go_wp2
      go_ret
      obtain rfl : u = 0 := by omega
      exact ⟨ret_i (by rw [hI.out, nbits_zero]; omega), rfl⟩

end Go.Proofs.Ytibfbomihopgaaa
