/-
  Short bytes there and back, cut, and lengthened. Plain lists of integers.
-/
import Derived.Test.YtbfnaigefmdcdaaVarM
namespace Go.Cor

theorem vget_put (v : Nat) : ∀ (i : Nat) (r : List Int), i ≤ 9 → v < 2 ^ (64 - 7 * i) → (0 < i → 0 < v) → vget i (vput v ++ r) = ((v : Int), (i : Int) + (vput v).length, 0) := by
  induction v using Nat.strongRecOn with
  | _ v ih =>
    intro i r hi hv h0
    by_cases hs : v < 128
    · rw [vput_small hs, List.singleton_append, vget]
      have a1 : ¬ (i = 9 ∧ 1 < (v : Int)) := by
        rintro ⟨rfl, h⟩
        simp at hv; omega
      have a2 : ¬ ((v : Int) = 0 ∧ 0 < i) := fun ⟨h1, h2⟩ => by have := h0 h2; omega
      rw [if_neg a1, if_neg a2, if_pos (by omega)]
      simp
    · rw [vput_big (by omega), List.cons_append, vget]
      have hi9 : i ≠ 9 := fun e => by subst e; simp at hv; omega
      have hp : v / 128 < 2 ^ (64 - 7 * (i + 1)) := by
        rw [Nat.div_lt_iff_lt_mul (by decide)]
        have : 2 ^ (64 - 7 * i) = 2 ^ (64 - 7 * (i + 1)) * 128 := by
          rw [show 64 - 7 * i = (64 - 7 * (i + 1)) + 7 by omega, Nat.pow_add]
        omega
      have e := ih (v / 128) (by omega) (i + 1) r (by omega) hp (fun _ => by omega)
      rw [if_neg (by omega), if_neg (by omega), if_neg (by omega), e, if_pos rfl]
      simp only [List.length_cons, Prod.mk.injEq, and_true]
      omega

theorem vget_back (b : List Int) (hb : ∀ x ∈ b, 0 ≤ x ∧ x ≤ 255) : ∀ i, i ≤ 9 → (vget i b).2.2 = 0 →
    ∃ y m : Nat, (vget i b).1 = y ∧ (vget i b).2.1 = (i : Int) + m ∧ 1 ≤ m ∧ m ≤ b.length ∧ b.take m = vput y ∧ y < 2 ^ (64 - 7 * i) ∧ (0 < i → 0 < y) := by
  induction b with
  | nil => intro i _ h; simp [vget] at h
  | cons x r ih =>
    intro i hi h
    have hx := hb x (by simp)
    obtain ⟨u, rfl⟩ := Int.eq_ofNat_of_zero_le hx.1
    rw [vget] at h ⊢
    by_cases a1 : i = 9 ∧ 1 < (u : Int)
    · rw [if_pos a1] at h; simp at h
    · rw [if_neg a1] at h ⊢
      by_cases a2 : (u : Int) = 0 ∧ 0 < i
      · rw [if_pos a2] at h; simp at h
      · rw [if_neg a2] at h ⊢
        by_cases a3 : (u : Int) < 128
        · rw [if_pos a3]
          refine ⟨u, 1, rfl, rfl, by omega, by simp, by rw [vput_small (by omega)]; rfl, ?_, fun h => by omega⟩
          by_cases h9 : i = 9
          · subst h9; simp; omega
          · have : 2 ^ 8 ≤ 2 ^ (64 - 7 * i) := Nat.pow_le_pow_right (by decide) (by omega)
            omega
        · rw [if_neg a3] at h ⊢
          have hi9 : i ≠ 9 := fun e => a1 ⟨e, by omega⟩
          by_cases a4 : (vget (i + 1) r).2.2 = 0
          · obtain ⟨y, m, e1, e2, e3, e4, e5, e6, e7⟩ := ih (fun z hz => hb z (by simp [hz])) (i + 1) (by omega) a4
            have hy := e7 (by omega)
            rw [if_pos a4]
            refine ⟨u % 128 + 128 * y, m + 1, ?_, ?_, by omega, by simp; omega, ?_, ?_, fun _ => by omega⟩
            · simp only [e1]; omega
            · simp only [e2]; omega
            · rw [List.take_succ_cons, e5, vput_big (show 128 ≤ u % 128 + 128 * y by omega)]
              rw [show (u % 128 + 128 * y) / 128 = y by omega, show ((u % 128 + 128 * y) % 128 + 128 : Nat) = u by omega]
            · have : 2 ^ (64 - 7 * i) = 2 ^ (64 - 7 * (i + 1)) * 128 := by
                rw [show 64 - 7 * i = (64 - 7 * (i + 1)) + 7 by omega, Nat.pow_add]
              omega
          · rw [if_neg a4] at h; simp at h; exact absurd h a4

theorem vget_cut (v : Nat) : ∀ (i k : Nat), k < (vput v).length → i + k ≤ 9 → vget i ((vput v).take k) = (0, 0, 1) := by
  induction v using Nat.strongRecOn with
  | _ v ih =>
    intro i k hk hi
    cases k with
    | zero => rfl
    | succ k =>
      by_cases hs : v < 128
      · rw [vput_small hs] at hk; simp at hk
      · rw [vput_big (by omega)] at hk ⊢
        rw [List.take_succ_cons, vget, if_neg (by omega), if_neg (by omega), if_neg (by omega), ih (v / 128) (by omega) (i + 1) k (by simpa using hk) (by omega)]
        rfl

theorem vput_last (v : Nat) : 0 ≤ (vput v).getLastD 0 ∧ (vput v).getLastD 0 < 128 := by
  induction v using Nat.strongRecOn with
  | _ v ih =>
    by_cases hs : v < 128
    · rw [vput_small hs]; simp; omega
    · rw [vput_big (by omega)]
      have h := ih (v / 128) (by omega)
      have hp := vput_pos (v / 128)
      cases hv : vput (v / 128) with
      | nil => rw [hv] at hp; simp at hp
      | cons a l => rw [hv] at h; simpa [List.getLastD] using h

theorem vget_long (v : Nat) : ∀ (i : Nat) (z : Int), 128 ≤ z → i + (vput v).length ≤ 10 → (vget i ((vput v).dropLast ++ [z, 0])).2.2 = 9 := by
  induction v using Nat.strongRecOn with
  | _ v ih =>
    intro i z hz hi
    by_cases hs : v < 128
    · rw [vput_small hs]
      simp only [List.dropLast_singleton, List.nil_append]
      rw [vget]
      by_cases h9 : i = 9 ∧ 1 < z
      · rw [if_pos h9]
      · have h10 : ¬ (i + 1 = 9 ∧ (1 : Int) < 0) := by omega
        have e0 : vget (i + 1) [0] = (0, 0, 9) := by rw [vget, if_neg h10, if_pos ⟨rfl, by omega⟩]
        rw [if_neg h9, if_neg (by omega), if_neg (by omega), e0]
        rfl
    · have hp := vput_pos (v / 128)
      rw [vput_big (by omega)] at hi ⊢
      have hne : vput (v / 128) ≠ [] := fun e => by rw [e] at hp; simp at hp
      rw [List.dropLast_cons_of_ne_nil hne, List.cons_append, vget]
      have h := ih (v / 128) (by omega) (i + 1) z hz (by simp at hi; omega)
      rw [if_neg (by simp at hi; omega), if_neg (by omega), if_neg (by omega), if_neg (by rw [h]; decide), h]
end Go.Cor
