/-
  Chapter 6's functions: what each computes (width, and the reference). Printed by wip/genwid.py.
-/
import Derived.Test.YtkbcmblgieoleaaRows
import Derived.Lib.Strings
import Derived.Lib.Slices
import Derived.Lib.Small
import Derived.Lib.Walk
import Derived.Lib.BitFns
import Derived.Test.YtkbcmblgieoleaaG8
namespace Go.Proofs.Ytkbcmblgieoleaa
open Go.Cor
theorem wfin (B L : Nat) (hB : L ≤ 8) (l : B ≤ 56 := by decide) : (((B : Int) + (((L : Int) + 9223372036854775808) % 18446744073709551616 - 9223372036854775808) + 9223372036854775808) % 18446744073709551616 - 9223372036854775808) = ((B + L : Nat) : Int) := by omega

set_option maxHeartbeats 4000000 in
set_option maxRecDepth 100000 in
theorem len64_any (x : Int) (w : World) (h0 : 0 ≤ x) (h1 : x ≤ 18446744073709551615) :
    Calls Try.prog 128 #[.int .u64 x] w fun e w' => e = .returned (.int .i64 (bw x)) ∧ w = w' := by
  have hbw : bw x = (Lib.bitLen x.toNat : Int) := by unfold bw; rw [bitLen_nbits x.toNat (by omega)]
  rw [hbw]
  go_enter Try.func128, Try.ntmps128
  go_wp2
  all_goals (go_ret; refine ⟨congrArg Ending.returned (congrArg (Value.int IntKind.i64) ?_), rfl⟩)

  · have e0 : x / 4294967296 / 65536 / 256 % 256 = ((x.toNat / 72057594037927936 : Nat) : Int) := by omega
    have hb : x.toNat / 72057594037927936 < 256 := by omega
    have hp : 0 < x.toNat / 72057594037927936 := by omega
    have l := Lib.bitLen_le8' (((x.toNat / 72057594037927936 : Nat) : Int)) (by omega) (by omega)
    have s := Lib.bitLen_shift56 x.toNat (by omega) (by omega)
    rw [e0, Lib.len8_of _ (by omega) (by omega)]
    rw [Int.toNat_natCast] at l ⊢
    clear e0
    rw [s]
    generalize Lib.bitLen (x.toNat / 72057594037927936) = L at l ⊢
    first | exact wfin 56 L l | omega
  · have e0 : x / 4294967296 / 65536 % 256 = ((x.toNat / 281474976710656 : Nat) : Int) := by omega
    have hb : x.toNat / 281474976710656 < 256 := by omega
    have hp : 0 < x.toNat / 281474976710656 := by omega
    have l := Lib.bitLen_le8' (((x.toNat / 281474976710656 : Nat) : Int)) (by omega) (by omega)
    have s := Lib.bitLen_shift48 x.toNat (by omega) (by omega)
    rw [e0, Lib.len8_of _ (by omega) (by omega)]
    rw [Int.toNat_natCast] at l ⊢
    clear e0
    rw [s]
    generalize Lib.bitLen (x.toNat / 281474976710656) = L at l ⊢
    first | exact wfin 48 L l | omega
  · have e0 : x / 4294967296 / 256 % 256 = ((x.toNat / 1099511627776 : Nat) : Int) := by omega
    have hb : x.toNat / 1099511627776 < 256 := by omega
    have hp : 0 < x.toNat / 1099511627776 := by omega
    have l := Lib.bitLen_le8' (((x.toNat / 1099511627776 : Nat) : Int)) (by omega) (by omega)
    have s := Lib.bitLen_shift40 x.toNat (by omega) (by omega)
    rw [e0, Lib.len8_of _ (by omega) (by omega)]
    rw [Int.toNat_natCast] at l ⊢
    clear e0
    rw [s]
    generalize Lib.bitLen (x.toNat / 1099511627776) = L at l ⊢
    first | exact wfin 40 L l | omega
  · have e0 : x / 4294967296 % 256 = ((x.toNat / 4294967296 : Nat) : Int) := by omega
    have hb : x.toNat / 4294967296 < 256 := by omega
    have hp : 0 < x.toNat / 4294967296 := by omega
    have l := Lib.bitLen_le8' (((x.toNat / 4294967296 : Nat) : Int)) (by omega) (by omega)
    have s := Lib.bitLen_shift32 x.toNat (by omega) (by omega)
    rw [e0, Lib.len8_of _ (by omega) (by omega)]
    rw [Int.toNat_natCast] at l ⊢
    clear e0
    rw [s]
    generalize Lib.bitLen (x.toNat / 4294967296) = L at l ⊢
    first | exact wfin 32 L l | omega
  · have e0 : x / 65536 / 256 % 256 = ((x.toNat / 16777216 : Nat) : Int) := by omega
    have hb : x.toNat / 16777216 < 256 := by omega
    have hp : 0 < x.toNat / 16777216 := by omega
    have l := Lib.bitLen_le8' (((x.toNat / 16777216 : Nat) : Int)) (by omega) (by omega)
    have s := Lib.bitLen_shift24 x.toNat (by omega) (by omega)
    rw [e0, Lib.len8_of _ (by omega) (by omega)]
    rw [Int.toNat_natCast] at l ⊢
    clear e0
    rw [s]
    generalize Lib.bitLen (x.toNat / 16777216) = L at l ⊢
    first | exact wfin 24 L l | omega
  · have e0 : x / 65536 % 256 = ((x.toNat / 65536 : Nat) : Int) := by omega
    have hb : x.toNat / 65536 < 256 := by omega
    have hp : 0 < x.toNat / 65536 := by omega
    have l := Lib.bitLen_le8' (((x.toNat / 65536 : Nat) : Int)) (by omega) (by omega)
    have s := Lib.bitLen_shift16 x.toNat (by omega) (by omega)
    rw [e0, Lib.len8_of _ (by omega) (by omega)]
    rw [Int.toNat_natCast] at l ⊢
    clear e0
    rw [s]
    generalize Lib.bitLen (x.toNat / 65536) = L at l ⊢
    first | exact wfin 16 L l | omega
  · have e0 : x / 256 % 256 = ((x.toNat / 256 : Nat) : Int) := by omega
    have hb : x.toNat / 256 < 256 := by omega
    have hp : 0 < x.toNat / 256 := by omega
    have l := Lib.bitLen_le8' (((x.toNat / 256 : Nat) : Int)) (by omega) (by omega)
    have s := Lib.bitLen_shift8 x.toNat (by omega) (by omega)
    rw [e0, Lib.len8_of _ (by omega) (by omega)]
    rw [Int.toNat_natCast] at l ⊢
    clear e0
    rw [s]
    generalize Lib.bitLen (x.toNat / 256) = L at l ⊢
    first | exact wfin 8 L l | omega
  · have e0 : x % 256 = ((x.toNat : Nat) : Int) := by omega
    have l := Lib.bitLen_le8' ((x.toNat : Nat) : Int) (by omega) (by omega)
    rw [e0, Lib.len8_of _ (by omega) (by omega)]
    rw [Int.toNat_natCast] at l ⊢
    generalize Lib.bitLen x.toNat = L at l ⊢
    omega

end Go.Proofs.Ytkbcmblgieoleaa
