/-
  Chapter 1: how many bytes numbers need; a writer: what it holds, its making, its bytes; the reference's Fits.
-/
import Derived.Deep.LoopGhost
import Derived.Test.YtaohdbagcfgoeaaDoorG11
import Derived.Test.YtaohdbagcfgoeaaDoorG13
namespace Go.Proofs.YtaohdbagcfgoeaaDoor
open Go.RowKit Go.Cor Go.Free

set_option maxHeartbeats 1000000 in
theorem refFits_any (v k : Nat) (hk : k ≤ 64) (hv : (v : Int) ≤ 18446744073709551615) (w : World) : Calls Tryd.prog 40 #[.int .u64 v, .int .i64 k] w fun e w' => e = .returned (.bool (decide (v < 2 ^ k))) ∧ w = w' := by
  go_enter Tryd.func40, Tryd.ntmps40
  go_wp2
  go_loopg [0, 5] k (fun g v0 v5 wr => ∃ i u : Nat, v5 = .int .i64 i ∧ i ≤ k ∧ g = k - i ∧ v0 = .int .u64 u ∧ u = v / 2 ^ i ∧ w = wr)
  case atStart => exact ⟨0, v, rfl, by omega, by omega, rfl, by simp, rfl⟩
  case round =>
    obtain ⟨i, u, rfl, hi, rfl, rfl, hu, rfl⟩ := hrel
    by_cases hlt : i < k
    · have hu2 : u ≤ v := by rw [hu]; exact Nat.div_le_self _ _
      have e1 : IntKind.u64.wrap ((u : Int).tdiv 2) = ((u / 2 : Nat) : Int) := by rw [Int.tdiv_eq_ediv_of_nonneg (by omega), wrapu64_in _ (by omega) (by omega)]; omega
      have HU := Lib.hid (show u / 2 = v / 2 ^ (i + 1) by rw [hu, Nat.pow_succ, Nat.div_div_eq_div_mul])
      clear hu
      go_wp2
      go_roundg (k - (i + 1))
      case measure => omega
      case rel => exact ⟨i + 1, u / 2, by go_num, by omega, rfl, by first | rfl | (refine val_i ?_; omega), HU.out, rfl⟩
    · obtain rfl : i = k := by omega
      have HU := Lib.hid (show ((u : Int) == 0) = decide (v < 2 ^ i) by
        rw [hu, ← shr_nought, shr_nat])
      clear hu
      go_wp2
      go_ret
      exact ⟨ret_b HU.out, rfl⟩

end Go.Proofs.YtaohdbagcfgoeaaDoor
