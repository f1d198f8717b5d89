/-
  Chapter 9, the plain part: a word, put together and taken apart.
-/
import Derived.Test.YtaohdbagcfgoeaaDoorG7
import Derived.Test.YtaohdbagcfgoeaaDoorG16
namespace Go.Cor
open Go Go.RowKit
theorem two60 : (2 : Nat) ^ 60 = 1152921504606846976 := by decide
theorem word_or {k b i v P : Nat} (hk : k < 16) (hP : P < 2 ^ (b * i)) (hv : v < 2 ^ b) (hb : b * i + b ≤ 60) :
    bits .or .u64 ((k * 1152921504606846976 + P : Nat) : Int) ((v * 2 ^ (b * i) : Nat) : Int) = ((k * 1152921504606846976 + (P + v * 2 ^ (b * i)) : Nat) : Int) := by
  have h1 : v * 2 ^ (b * i) + P < 2 ^ (b * i + b) := by
    rw [Nat.pow_add]
    have : (v + 1) * 2 ^ (b * i) ≤ 2 ^ b * 2 ^ (b * i) := Nat.mul_le_mul_right _ hv
    rw [Nat.add_mul, Nat.one_mul, Nat.mul_comm (2 ^ b)] at this
    omega
  have h2 : (2 : Nat) ^ (b * i + b) ≤ 2 ^ 60 := pow_mono2 hb
  rw [two60] at h2
  have h3 : P < 2 ^ 60 := by rw [two60]; omega
  have h4 : v * 2 ^ (b * i) + P < 2 ^ 60 := by rw [two60]; omega
  rw [bits_u64 .or _ _ (by omega) (by omega)]
  simp only []
  have e1 : k * 1152921504606846976 + P = 2 ^ 60 * k ||| P := by rw [← Nat.two_pow_add_eq_or_of_lt h3, two60]; omega
  have e2 : k * 1152921504606846976 + (P + v * 2 ^ (b * i)) = 2 ^ 60 * k ||| (v * 2 ^ (b * i) + P) := by rw [← Nat.two_pow_add_eq_or_of_lt h4, two60]; omega
  have e3 : v * 2 ^ (b * i) + P = v * 2 ^ (b * i) ||| P := by rw [Nat.mul_comm v, ← Nat.two_pow_add_eq_or_of_lt hP]
  rw [e1, e2, e3, Nat.or_assoc, Nat.or_comm P]
theorem fitl_get {k : Nat} {l : List Int} (h : Fitl k l) {i : Nat} (hi : i < l.length) : ∃ v : Nat, l[i]?.getD 0 = v ∧ v < 2 ^ k := by
  have h1 := h (l[i]?.getD 0) (by rw [List.getElem?_eq_getElem hi]; exact List.getElem_mem _)
  obtain ⟨v, hv⟩ := Int.eq_ofNat_of_zero_le h1.1
  rw [hv] at h1 ⊢
  exact ⟨v, rfl, h1.2⟩
/-- the words of what is left -/
theorem srest_drop {l : List Int} {i : Nat} (hf : Fitl 60 l) (h : i < l.length) : srest (l.drop i) = leb (swd (sel (l.drop i)) (l.drop i)) 8 ++ srest (l.drop (i + smany (sel (l.drop i)))) := by
  have hne : l.drop i ≠ [] := fun e => by have := congrArg List.length e; rw [List.length_drop] at this; simp at this; omega
  rw [srest_step hne (sel_lt (hf.drop i) hne), List.drop_drop]
/-- a shape's numbers of a word, step by step -/
theorem svals_zero (k : Nat) (h : sbits k = 0) (r : Nat) : svals k r = List.replicate (smany k) 1 := by unfold svals; rw [if_pos h]
theorem svals_pos (k : Nat) (h : sbits k ≠ 0) (r : Nat) : svals k r = unp (sbits k) (smany k) r := by unfold svals; rw [if_neg h]
theorem div_step (V b i : Nat) : V / 2 ^ (b * i) / 2 ^ b = V / 2 ^ (b * (i + 1)) := by rw [Nat.div_div_eq_div_mul, ← Nat.pow_add, Nat.mul_add, Nat.mul_one]
end Go.Cor
