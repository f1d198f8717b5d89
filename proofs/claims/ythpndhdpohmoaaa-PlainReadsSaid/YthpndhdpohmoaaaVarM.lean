/-
  Numbers by digits of seven bits, and zigzags, as plain functions on integers. Nothing here speaks of a program.
-/
import Derived.Laws.World
namespace Go.Cor

/-- the short bytes of a number -/
def vput (v : Nat) : List Int := if v < 128 then [(v : Int)] else ((v % 128 + 128 : Nat) : Int) :: vput (v / 128)
termination_by v
decreasing_by omega

theorem vput_small {v : Nat} (h : v < 128) : vput v = [(v : Int)] := by rw [vput, if_pos h]
theorem vput_big {v : Nat} (h : 128 ≤ v) : vput v = ((v % 128 + 128 : Nat) : Int) :: vput (v / 128) := by rw [vput, if_neg (by omega)]

theorem vput_bytes (v : Nat) : ∀ x ∈ vput v, 0 ≤ x ∧ x ≤ 255 := by
  induction v using Nat.strongRecOn with
  | _ v ih =>
    intro x hx
    by_cases h : v < 128
    · rw [vput_small h] at hx; simp at hx; omega
    · rw [vput_big (by omega)] at hx
      rcases List.mem_cons.1 hx with rfl | hx
      · omega
      · exact ih (v / 128) (by omega) x hx
theorem vput_pos (v : Nat) : 1 ≤ (vput v).length := by
  by_cases h : v < 128
  · rw [vput_small h]; simp
  · rw [vput_big (by omega)]; simp
theorem vput_len (v k : Nat) (h : v < 128 ^ k) (hk : 1 ≤ k) : (vput v).length ≤ k := by
  induction k generalizing v with
  | zero => omega
  | succ k ih =>
    by_cases hs : v < 128
    · rw [vput_small hs]; simp
    · rw [vput_big (by omega)]
      have hk : 1 ≤ k := by
        rcases Nat.eq_zero_or_pos k with h0 | h0
        · subst h0; simp at h; omega
        · omega
      have := ih (v / 128) (by rw [Nat.div_lt_iff_lt_mul (by decide)]; rw [Nat.pow_succ] at h; exact h) hk
      simp; omega
theorem vput_len_u64 (v : Nat) (h : v < 18446744073709551616) : (vput v).length ≤ 10 := vput_len v 10 (Nat.lt_trans h (by decide)) (by decide)

/-- what bytes begin with, from the i-th digit on: the number, how many bytes in all, the error -/
def vget : Nat → List Int → Int × Int × Int
  | _, [] => (0, 0, 1)
  | i, x :: r =>
    if i = 9 ∧ 1 < x then (0, 0, 9)
    else if x = 0 ∧ 0 < i then (0, 0, 9)
    else if x < 128 then (x, (i : Int) + 1, 0)
    else if (vget (i + 1) r).2.2 = 0 then (x % 128 + 128 * (vget (i + 1) r).1, (vget (i + 1) r).2.1, 0) else (0, 0, (vget (i + 1) r).2.2)

/-- a low part ahead of what comes of the rest -/
def vlift (acc : Int) (k : Nat) (r : Int × Int × Int) : Int × Int × Int := if r.2.2 = 0 then (acc + 128 ^ k * r.1, r.2.1, 0) else (0, 0, r.2.2)

theorem vlift_err (acc : Int) (k : Nat) (e : Int) (h : e ≠ 0) : vlift acc k (0, 0, e) = (0, 0, e) := by simp [vlift, h]
theorem vlift_ok (acc : Int) (k : Nat) (v n : Int) : vlift acc k (v, n, 0) = (acc + 128 ^ k * v, n, 0) := by simp [vlift]

theorem vget_err {i : Nat} {b : List Int} (h : (vget i b).2.2 ≠ 0) : vget i b = (0, 0, (vget i b).2.2) := by
  cases b with
  | nil => rfl
  | cons x r =>
    rw [vget] at h ⊢
    split at h
    · simp [*]
    · split at h
      · simp [*]
      · split at h
        · simp at h
        · split at h
          · simp at h
          · simp [*]

theorem vlift_step (acc : Int) (k i : Nat) (x : Int) (r : List Int) (h9 : ¬ (i = 9 ∧ 1 < x)) (h0 : ¬ (x = 0 ∧ 0 < i)) (hx : 128 ≤ x) :
    vlift acc k (vget i (x :: r)) = vlift (acc + 128 ^ k * (x % 128)) (k + 1) (vget (i + 1) r) := by
  rw [vget, if_neg h9, if_neg h0, if_neg (by omega)]
  by_cases he : (vget (i + 1) r).2.2 = 0
  · rw [if_pos he, vlift, vlift, if_pos rfl, if_pos he]
    simp only [Prod.mk.injEq, and_true]
    rw [Int.pow_succ, Int.mul_add]
    simp only [Int.mul_assoc, Int.add_assoc]
  · rw [if_neg he, vlift_err _ _ _ he, vlift, if_neg he]

theorem vlift_zero (r : Int × Int × Int) (h : r.2.2 ≠ 0 → r = (0, 0, r.2.2)) : vlift 0 0 r = r := by
  unfold vlift
  by_cases he : r.2.2 = 0
  · rw [if_pos he]; obtain ⟨a, b, c⟩ := r; simp at he ⊢; omega
  · rw [if_neg he]; exact (h he).symm

theorem vget_start (b : List Int) : vget 0 b = vlift 0 0 (vget 0 b) := (vlift_zero _ fun h => vget_err h).symm

/-- how many bytes go on -/
def lead : List Int → Nat
  | [] => 0
  | x :: r => if 127 < x then lead r + 1 else 0
theorem lead_le : ∀ b : List Int, lead b ≤ b.length
  | [] => Nat.le_refl _
  | x :: r => by rw [lead]; split <;> simp; exact lead_le r
theorem lead_lt : ∀ {b : List Int} {j : Nat}, j < lead b → 127 < b.getD j 0
  | [], j, h => by simp [lead] at h
  | x :: r, j, h => by
    rw [lead] at h
    split at h
    · cases j with
      | zero => simpa
      | succ j => simpa using lead_lt (b := r) (by omega)
    · omega
theorem lead_at : ∀ {b : List Int}, lead b < b.length → b.getD (lead b) 0 ≤ 127
  | [], h => by simp at h
  | x :: r, h => by
    by_cases hx : 127 < x
    · have e : lead (x :: r) = lead r + 1 := by rw [lead, if_pos hx]
      rw [e] at h ⊢
      simpa using lead_at (b := r) (by simpa using h)
    · have e : lead (x :: r) = 0 := by rw [lead, if_neg hx]
      rw [e]; simp; omega

/-- what digits come to -/
def vnum : List Int → Int
  | [] => 0
  | x :: r => x % 128 + 128 * vnum r

theorem vget_cases (b : List Int) (hb : ∀ x ∈ b, 0 ≤ x) : ∀ i, i ≤ 9 → vget i b =
    if 10 ≤ i + lead b ∨ (i + lead b = 9 ∧ lead b < b.length ∧ 1 < b.getD (lead b) 0) then (0, 0, 9)
    else if lead b = b.length then (0, 0, 1)
    else if 0 < i + lead b ∧ b.getD (lead b) 0 = 0 then (0, 0, 9)
    else (vnum (b.take (lead b + 1)), (i : Int) + lead b + 1, 0) := by
  induction b with
  | nil => intro i hi; simp [vget, lead]; omega
  | cons x r ih =>
    intro i hi
    by_cases hx : 127 < x
    · have hl : lead (x :: r) = lead r + 1 := by simp [lead, hx]
      rw [vget, hl]
      by_cases h9 : i = 9
      · rw [if_pos ⟨h9, by omega⟩, if_pos (.inl (by omega))]
      · rw [if_neg (by omega), if_neg (by omega), if_neg (by omega)]
        have ihh := ih (fun x hx => hb x (by simp [hx])) (i + 1) (by omega)
        have e1 : i + 1 + lead r = i + (lead r + 1) := by omega
        simp only [List.getD_cons_succ, List.length_cons, Nat.add_lt_add_iff_right, Nat.add_right_cancel_iff, e1] at ihh ⊢
        rw [ihh]
        by_cases c1 : 10 ≤ i + (lead r + 1) ∨ (i + (lead r + 1) = 9 ∧ lead r < r.length ∧ 1 < r.getD (lead r) 0)
        · rw [if_pos c1, if_pos c1]; simp
        · rw [if_neg c1, if_neg c1]
          by_cases c2 : lead r = r.length
          · rw [if_pos c2, if_pos c2]; simp
          · rw [if_neg c2, if_neg c2]
            by_cases c3 : 0 < i + (lead r + 1) ∧ r.getD (lead r) 0 = 0
            · rw [if_pos c3, if_pos c3]; simp
            · rw [if_neg c3, if_neg c3]
              simp [vnum]
              omega
    · have hl : lead (x :: r) = 0 := by simp [lead, hx]
      rw [vget, hl]
      simp only [List.getD_cons_zero, List.length_cons, Nat.add_zero, Nat.zero_add, List.take_succ_cons, List.take_zero]
      have hx0 : 0 ≤ x := hb x (by simp)
      by_cases h9 : i = 9 ∧ 1 < x
      · rw [if_pos h9, if_pos (.inr ⟨h9.1, by omega, h9.2⟩)]
      · have a1 : ¬ (10 ≤ i ∨ (i = 9 ∧ 0 < r.length + 1 ∧ 1 < x)) := by omega
        have a2 : ¬ (0 = r.length + 1) := by omega
        rw [if_neg h9, if_neg a1, if_neg a2]
        by_cases c3 : x = 0 ∧ 0 < i
        · rw [if_pos c3, if_pos ⟨c3.2, c3.1⟩]
        · have a3 : ¬ (0 < i ∧ x = 0) := by omega
          have a4 : x < 128 := by omega
          rw [if_neg c3, if_neg a3, if_pos a4]
          simp [vnum]
          omega

/-! ### one digit of a reading -/
section
variable {xs : List Int} {acc : Int} {k : Nat}
theorem drop_cons_getD {α : Type} (xs : List α) (d : α) {k : Nat} (h : k < xs.length) : xs.drop k = (xs[k]?.getD d) :: xs.drop (k + 1) := by
  rw [List.drop_eq_getElem_cons h, List.getElem?_eq_getElem h]; rfl
theorem get_over (h : vget 0 xs = vlift acc k (vget k (xs.drop k))) (hk : k < xs.length) (h9 : k = 9) (hx : 1 < xs[k]?.getD 0) : vget 0 xs = (0, 0, 9) := by
  rw [h, drop_cons_getD xs 0 hk, vget, if_pos ⟨h9, hx⟩, vlift_err _ _ _ (by decide)]
theorem get_nought (h : vget 0 xs = vlift acc k (vget k (xs.drop k))) (hk : k < xs.length) (h0 : 0 < k) (hx : xs[k]?.getD 0 = 0) : vget 0 xs = (0, 0, 9) := by
  rw [h, drop_cons_getD xs 0 hk, vget]
  split
  · rw [vlift_err _ _ _ (by decide)]
  · rw [if_pos ⟨hx, h0⟩, vlift_err _ _ _ (by decide)]
theorem get_last (h : vget 0 xs = vlift acc k (vget k (xs.drop k))) (hk : k < xs.length) (h9 : ¬ (k = 9 ∧ 1 < xs[k]?.getD 0)) (h0 : ¬ (xs[k]?.getD 0 = 0 ∧ 0 < k)) (hx : xs[k]?.getD 0 < 128) :
    vget 0 xs = (acc + 128 ^ k * xs[k]?.getD 0, (k : Int) + 1, 0) := by
  rw [h, drop_cons_getD xs 0 hk, vget, if_neg h9, if_neg h0, if_pos hx, vlift_ok]
theorem get_end (h : vget 0 xs = vlift acc k (vget k (xs.drop k))) (hk : xs.length ≤ k) : vget 0 xs = (0, 0, 1) := by
  rw [h, List.drop_of_length_le hk, vget, vlift_err _ _ _ (by decide)]
theorem get_on (h : acc < 128 ^ k ∧ vget 0 xs = vlift acc k (vget k (xs.drop k))) (hk : k < xs.length) (h9 : ¬ (k = 9 ∧ 1 < xs[k]?.getD 0)) (h0 : ¬ (xs[k]?.getD 0 = 0 ∧ 0 < k)) (hx : 128 ≤ xs[k]?.getD 0) :
    acc + 128 ^ k * (xs[k]?.getD 0 % 128) < 128 ^ (k + 1) ∧ vget 0 xs = vlift (acc + 128 ^ k * (xs[k]?.getD 0 % 128)) (k + 1) (vget (k + 1) (xs.drop (k + 1))) := by
  refine ⟨?_, ?_⟩
  · rw [Int.pow_succ]
    have hp : (0 : Int) < 128 ^ k := Int.pow_pos (by decide)
    have : (128 : Int) ^ k * (xs[k]?.getD 0 % 128) ≤ 128 ^ k * 127 := Int.mul_le_mul_of_nonneg_left (by omega) (by omega)
    omega
  · rw [h.2, drop_cons_getD xs 0 hk, vlift_step _ _ _ _ _ h9 h0 hx]
end

/-! ### zigzags -/
def zig (v : Int) : Int := if 0 ≤ v then 2 * v else -2 * v - 1
def zag (z : Int) : Int := if z % 2 = 0 then z / 2 else -(z / 2) - 1
end Go.Cor
