/-
  How many bits a number has; zigzags there and back. Plain integers.
-/
import Derived.Test.YthpndhdpohmoaaaVarM
namespace Go.Cor

theorem zig_zag (v : Int) : zag (zig v) = v := by unfold zag zig; split <;> split <;> omega
theorem zag_zig (z : Int) (h : 0 ≤ z) : zig (zag z) = z := by unfold zag zig; split <;> split <;> omega
theorem zig_nonneg (v : Int) : 0 ≤ zig v := by unfold zig; split <;> omega
theorem zig_max (v : Int) (h1 : -9223372036854775808 ≤ v) (h2 : v ≤ 9223372036854775807) : zig v ≤ 18446744073709551615 := by unfold zig; split <;> omega
theorem zag_min (z : Int) (h0 : 0 ≤ z) (h1 : z ≤ 18446744073709551615) : -9223372036854775808 ≤ zag z ∧ zag z ≤ 9223372036854775807 := by unfold zag; split <;> omega
theorem zig_inj {a b : Int} (h : zig a = zig b) : a = b := by rw [← zig_zag a, ← zig_zag b, h]

def nbits (v : Nat) : Nat := if v = 0 then 0 else nbits (v / 2) + 1
termination_by v
decreasing_by omega
theorem nbits_zero : nbits 0 = 0 := by rw [nbits, if_pos rfl]
theorem nbits_pos {v : Nat} (h : 0 < v) : nbits v = nbits (v / 2) + 1 := by rw [nbits, if_neg (by omega)]
theorem nbits_mono (a : Nat) : ∀ b, a ≤ b → nbits a ≤ nbits b := by
  induction a using Nat.strongRecOn with
  | _ a ih =>
    intro b hab
    by_cases ha : a = 0
    · subst ha; rw [nbits_zero]; omega
    · rw [nbits_pos (by omega), nbits_pos (show 0 < b by omega)]
      have := ih (a / 2) (by omega) (b / 2) (by omega)
      omega
theorem nbits_lt (v : Nat) : v < 2 ^ nbits v := by
  induction v using Nat.strongRecOn with
  | _ v ih =>
    by_cases h : v = 0
    · subst h; rw [nbits_zero]; decide
    · rw [nbits_pos (by omega), Nat.pow_succ]
      have := ih (v / 2) (by omega)
      omega
theorem nbits_le (v k : Nat) (h : v < 2 ^ k) : nbits v ≤ k := by
  induction k generalizing v with
  | zero => have : v = 0 := by simpa using h
            subst this; rw [nbits_zero]; omega
  | succ k ih =>
    by_cases hv : v = 0
    · subst hv; rw [nbits_zero]; omega
    · rw [nbits_pos (by omega)]
      have := ih (v / 2) (by rw [Nat.pow_succ] at h; omega)
      omega
theorem nbits_ge (v k : Nat) (h : 2 ^ k ≤ v) : k + 1 ≤ nbits v := by
  have h1 := nbits_lt v
  rcases Nat.lt_or_ge k (nbits v) with h2 | h2
  · omega
  · have := Nat.pow_le_pow_right (n := 2) (by decide) h2
    omega
theorem nbits_u64 (v : Nat) (h : v < 18446744073709551616) : nbits v ≤ 64 := nbits_le v 64 h
theorem nbits_128 (v : Nat) (h : 128 ≤ v) : nbits v = nbits (v / 128) + 7 := by
  rw [nbits_pos (show 0 < v by omega), nbits_pos (show 0 < v / 2 by omega), nbits_pos (show 0 < v / 2 / 2 by omega), nbits_pos (show 0 < v / 2 / 2 / 2 by omega),
    nbits_pos (show 0 < v / 2 / 2 / 2 / 2 by omega), nbits_pos (show 0 < v / 2 / 2 / 2 / 2 / 2 by omega), nbits_pos (show 0 < v / 2 / 2 / 2 / 2 / 2 / 2 by omega)]
  rw [show v / 2 / 2 / 2 / 2 / 2 / 2 / 2 = v / 128 by omega]
theorem vput_nbits (v : Nat) : (vput v).length = max 1 ((nbits v + 6) / 7) := by
  induction v using Nat.strongRecOn with
  | _ v ih =>
    by_cases h : v < 128
    · rw [vput_small h]
      have := nbits_le v 7 (by omega)
      simp; omega
    · rw [vput_big (by omega), List.length_cons, ih (v / 128) (by omega), nbits_128 v (by omega)]
      have : 1 ≤ nbits (v / 128) := by rw [nbits_pos (by omega)]; omega
      omega
theorem vput_mono {a b : Nat} (h : a ≤ b) : (vput a).length ≤ (vput b).length := by
  rw [vput_nbits, vput_nbits]; have := nbits_mono a b h; omega
end Go.Cor
