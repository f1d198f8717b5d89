/-
  Numbers by digits of seven bits, and zigzags, as plain functions on integers. Nothing here speaks of a program.
  Short bytes there and back, cut, and lengthened. Plain lists of integers.
  How many bits a number has; zigzags there and back. Plain integers.
-/
import Derived.Laws.World
namespace Go.Cor

/-- the short bytes of a number -/
def vput (v : Nat) : List Int := if v < 128 then [(v : Int)] else ((v % 128 + 128 : Nat) : Int) :: vput (v / 128)
termination_by v
decreasing_by omega

theorem vput_small {v : Nat} (h : v < 128) : vput v = [(v : Int)] := by rw [vput, if_pos h]
theorem vput_big {v : Nat} (h : 128 ≤ v) : vput v = ((v % 128 + 128 : Nat) : Int) :: vput (v / 128) := by rw [vput, if_neg (by omega)]

theorem vput_bytes (v : Nat) : ∀ x ∈ vput v, 0 ≤ x ∧ x ≤ 255 := by
  induction v using Nat.strongRecOn with
  | _ v ih =>
    intro x hx
    by_cases h : v < 128
    · rw [vput_small h] at hx; simp at hx; omega
    · rw [vput_big (by omega)] at hx
      rcases List.mem_cons.1 hx with rfl | hx
      · omega
      · exact ih (v / 128) (by omega) x hx
theorem vput_pos (v : Nat) : 1 ≤ (vput v).length := by
  by_cases h : v < 128
  · rw [vput_small h]; simp
  · rw [vput_big (by omega)]; simp
theorem vput_len (v k : Nat) (h : v < 128 ^ k) (hk : 1 ≤ k) : (vput v).length ≤ k := by
  induction k generalizing v with
  | zero => omega
  | succ k ih =>
    by_cases hs : v < 128
    · rw [vput_small hs]; simp
    · rw [vput_big (by omega)]
      have hk : 1 ≤ k := by
        rcases Nat.eq_zero_or_pos k with h0 | h0
        · subst h0; simp at h; omega
        · omega
      have := ih (v / 128) (by rw [Nat.div_lt_iff_lt_mul (by decide)]; rw [Nat.pow_succ] at h; exact h) hk
      simp; omega
theorem vput_len_u64 (v : Nat) (h : v < 18446744073709551616) : (vput v).length ≤ 10 := vput_len v 10 (Nat.lt_trans h (by decide)) (by decide)

/-- what bytes begin with, from the i-th digit on: the number, how many bytes in all, the error -/
def vget : Nat → List Int → Int × Int × Int
  | _, [] => (0, 0, 1)
  | i, x :: r =>
    if i = 9 ∧ 1 < x then (0, 0, 9)
    else if x = 0 ∧ 0 < i then (0, 0, 9)
    else if x < 128 then (x, (i : Int) + 1, 0)
    else if (vget (i + 1) r).2.2 = 0 then (x % 128 + 128 * (vget (i + 1) r).1, (vget (i + 1) r).2.1, 0) else (0, 0, (vget (i + 1) r).2.2)

/-- a low part ahead of what comes of the rest -/
def vlift (acc : Int) (k : Nat) (r : Int × Int × Int) : Int × Int × Int := if r.2.2 = 0 then (acc + 128 ^ k * r.1, r.2.1, 0) else (0, 0, r.2.2)

theorem vlift_err (acc : Int) (k : Nat) (e : Int) (h : e ≠ 0) : vlift acc k (0, 0, e) = (0, 0, e) := by simp [vlift, h]
theorem vlift_ok (acc : Int) (k : Nat) (v n : Int) : vlift acc k (v, n, 0) = (acc + 128 ^ k * v, n, 0) := by simp [vlift]

theorem vget_err {i : Nat} {b : List Int} (h : (vget i b).2.2 ≠ 0) : vget i b = (0, 0, (vget i b).2.2) := by
  cases b with
  | nil => rfl
  | cons x r =>
    rw [vget] at h ⊢
    split at h
    · simp [*]
    · split at h
      · simp [*]
      · split at h
        · simp at h
        · split at h
          · simp at h
          · simp [*]

theorem vlift_step (acc : Int) (k i : Nat) (x : Int) (r : List Int) (h9 : ¬ (i = 9 ∧ 1 < x)) (h0 : ¬ (x = 0 ∧ 0 < i)) (hx : 128 ≤ x) :
    vlift acc k (vget i (x :: r)) = vlift (acc + 128 ^ k * (x % 128)) (k + 1) (vget (i + 1) r) := by
  rw [vget, if_neg h9, if_neg h0, if_neg (by omega)]
  by_cases he : (vget (i + 1) r).2.2 = 0
  · rw [if_pos he, vlift, vlift, if_pos rfl, if_pos he]
    simp only [Prod.mk.injEq, and_true]
    rw [Int.pow_succ, Int.mul_add]
    simp only [Int.mul_assoc, Int.add_assoc]
  · rw [if_neg he, vlift_err _ _ _ he, vlift, if_neg he]

theorem vlift_zero (r : Int × Int × Int) (h : r.2.2 ≠ 0 → r = (0, 0, r.2.2)) : vlift 0 0 r = r := by
  unfold vlift
  by_cases he : r.2.2 = 0
  · rw [if_pos he]; obtain ⟨a, b, c⟩ := r; simp at he ⊢; omega
  · rw [if_neg he]; exact (h he).symm

theorem vget_start (b : List Int) : vget 0 b = vlift 0 0 (vget 0 b) := (vlift_zero _ fun h => vget_err h).symm

/-- how many bytes go on -/
def lead : List Int → Nat
  | [] => 0
  | x :: r => if 127 < x then lead r + 1 else 0
theorem lead_le : ∀ b : List Int, lead b ≤ b.length
  | [] => Nat.le_refl _
  | x :: r => by rw [lead]; split <;> simp; exact lead_le r
theorem lead_lt : ∀ {b : List Int} {j : Nat}, j < lead b → 127 < b.getD j 0
  | [], j, h => by simp [lead] at h
  | x :: r, j, h => by
    rw [lead] at h
    split at h
    · cases j with
      | zero => simpa
      | succ j => simpa using lead_lt (b := r) (by omega)
    · omega
theorem lead_at : ∀ {b : List Int}, lead b < b.length → b.getD (lead b) 0 ≤ 127
  | [], h => by simp at h
  | x :: r, h => by
    by_cases hx : 127 < x
    · have e : lead (x :: r) = lead r + 1 := by rw [lead, if_pos hx]
      rw [e] at h ⊢
      simpa using lead_at (b := r) (by simpa using h)
    · have e : lead (x :: r) = 0 := by rw [lead, if_neg hx]
      rw [e]; simp; omega

/-- what digits come to -/
def vnum : List Int → Int
  | [] => 0
  | x :: r => x % 128 + 128 * vnum r

theorem vget_cases (b : List Int) (hb : ∀ x ∈ b, 0 ≤ x) : ∀ i, i ≤ 9 → vget i b =
    if 10 ≤ i + lead b ∨ (i + lead b = 9 ∧ lead b < b.length ∧ 1 < b.getD (lead b) 0) then (0, 0, 9)
    else if lead b = b.length then (0, 0, 1)
    else if 0 < i + lead b ∧ b.getD (lead b) 0 = 0 then (0, 0, 9)
    else (vnum (b.take (lead b + 1)), (i : Int) + lead b + 1, 0) := by
  induction b with
  | nil => intro i hi; simp [vget, lead]; omega
  | cons x r ih =>
    intro i hi
    by_cases hx : 127 < x
    · have hl : lead (x :: r) = lead r + 1 := by simp [lead, hx]
      rw [vget, hl]
      by_cases h9 : i = 9
      · rw [if_pos ⟨h9, by omega⟩, if_pos (.inl (by omega))]
      · rw [if_neg (by omega), if_neg (by omega), if_neg (by omega)]
        have ihh := ih (fun x hx => hb x (by simp [hx])) (i + 1) (by omega)
        have e1 : i + 1 + lead r = i + (lead r + 1) := by omega
        simp only [List.getD_cons_succ, List.length_cons, Nat.add_lt_add_iff_right, Nat.add_right_cancel_iff, e1] at ihh ⊢
        rw [ihh]
        by_cases c1 : 10 ≤ i + (lead r + 1) ∨ (i + (lead r + 1) = 9 ∧ lead r < r.length ∧ 1 < r.getD (lead r) 0)
        · rw [if_pos c1, if_pos c1]; simp
        · rw [if_neg c1, if_neg c1]
          by_cases c2 : lead r = r.length
          · rw [if_pos c2, if_pos c2]; simp
          · rw [if_neg c2, if_neg c2]
            by_cases c3 : 0 < i + (lead r + 1) ∧ r.getD (lead r) 0 = 0
            · rw [if_pos c3, if_pos c3]; simp
            · rw [if_neg c3, if_neg c3]
              simp [vnum]
              omega
    · have hl : lead (x :: r) = 0 := by simp [lead, hx]
      rw [vget, hl]
      simp only [List.getD_cons_zero, List.length_cons, Nat.add_zero, Nat.zero_add, List.take_succ_cons, List.take_zero]
      have hx0 : 0 ≤ x := hb x (by simp)
      by_cases h9 : i = 9 ∧ 1 < x
      · rw [if_pos h9, if_pos (.inr ⟨h9.1, by omega, h9.2⟩)]
      · have a1 : ¬ (10 ≤ i ∨ (i = 9 ∧ 0 < r.length + 1 ∧ 1 < x)) := by omega
        have a2 : ¬ (0 = r.length + 1) := by omega
        rw [if_neg h9, if_neg a1, if_neg a2]
        by_cases c3 : x = 0 ∧ 0 < i
        · rw [if_pos c3, if_pos ⟨c3.2, c3.1⟩]
        · have a3 : ¬ (0 < i ∧ x = 0) := by omega
          have a4 : x < 128 := by omega
          rw [if_neg c3, if_neg a3, if_pos a4]
          simp [vnum]
          omega

/-! ### one digit of a reading -/
section
variable {xs : List Int} {acc : Int} {k : Nat}
theorem drop_cons_getD {α : Type} (xs : List α) (d : α) {k : Nat} (h : k < xs.length) : xs.drop k = (xs[k]?.getD d) :: xs.drop (k + 1) := by
  rw [List.drop_eq_getElem_cons h, List.getElem?_eq_getElem h]; rfl
theorem get_over (h : vget 0 xs = vlift acc k (vget k (xs.drop k))) (hk : k < xs.length) (h9 : k = 9) (hx : 1 < xs[k]?.getD 0) : vget 0 xs = (0, 0, 9) := by
  rw [h, drop_cons_getD xs 0 hk, vget, if_pos ⟨h9, hx⟩, vlift_err _ _ _ (by decide)]
theorem get_nought (h : vget 0 xs = vlift acc k (vget k (xs.drop k))) (hk : k < xs.length) (h0 : 0 < k) (hx : xs[k]?.getD 0 = 0) : vget 0 xs = (0, 0, 9) := by
  rw [h, drop_cons_getD xs 0 hk, vget]
  split
  · rw [vlift_err _ _ _ (by decide)]
  · rw [if_pos ⟨hx, h0⟩, vlift_err _ _ _ (by decide)]
theorem get_last (h : vget 0 xs = vlift acc k (vget k (xs.drop k))) (hk : k < xs.length) (h9 : ¬ (k = 9 ∧ 1 < xs[k]?.getD 0)) (h0 : ¬ (xs[k]?.getD 0 = 0 ∧ 0 < k)) (hx : xs[k]?.getD 0 < 128) :
    vget 0 xs = (acc + 128 ^ k * xs[k]?.getD 0, (k : Int) + 1, 0) := by
  rw [h, drop_cons_getD xs 0 hk, vget, if_neg h9, if_neg h0, if_pos hx, vlift_ok]
theorem get_end (h : vget 0 xs = vlift acc k (vget k (xs.drop k))) (hk : xs.length ≤ k) : vget 0 xs = (0, 0, 1) := by
  rw [h, List.drop_of_length_le hk, vget, vlift_err _ _ _ (by decide)]
theorem get_on (h : acc < 128 ^ k ∧ vget 0 xs = vlift acc k (vget k (xs.drop k))) (hk : k < xs.length) (h9 : ¬ (k = 9 ∧ 1 < xs[k]?.getD 0)) (h0 : ¬ (xs[k]?.getD 0 = 0 ∧ 0 < k)) (hx : 128 ≤ xs[k]?.getD 0) :
    acc + 128 ^ k * (xs[k]?.getD 0 % 128) < 128 ^ (k + 1) ∧ vget 0 xs = vlift (acc + 128 ^ k * (xs[k]?.getD 0 % 128)) (k + 1) (vget (k + 1) (xs.drop (k + 1))) := by
  refine ⟨?_, ?_⟩
  · rw [Int.pow_succ]
    have hp : (0 : Int) < 128 ^ k := Int.pow_pos (by decide)
    have : (128 : Int) ^ k * (xs[k]?.getD 0 % 128) ≤ 128 ^ k * 127 := Int.mul_le_mul_of_nonneg_left (by omega) (by omega)
    omega
  · rw [h.2, drop_cons_getD xs 0 hk, vlift_step _ _ _ _ _ h9 h0 hx]
end

/-! ### zigzags -/
def zig (v : Int) : Int := if 0 ≤ v then 2 * v else -2 * v - 1
def zag (z : Int) : Int := if z % 2 = 0 then z / 2 else -(z / 2) - 1
end Go.Cor

namespace Go.Cor

theorem vget_put (v : Nat) : ∀ (i : Nat) (r : List Int), i ≤ 9 → v < 2 ^ (64 - 7 * i) → (0 < i → 0 < v) → vget i (vput v ++ r) = ((v : Int), (i : Int) + (vput v).length, 0) := by
  induction v using Nat.strongRecOn with
  | _ v ih =>
    intro i r hi hv h0
    by_cases hs : v < 128
    · rw [vput_small hs, List.singleton_append, vget]
      have a1 : ¬ (i = 9 ∧ 1 < (v : Int)) := by
        rintro ⟨rfl, h⟩
        simp at hv; omega
      have a2 : ¬ ((v : Int) = 0 ∧ 0 < i) := fun ⟨h1, h2⟩ => by have := h0 h2; omega
      rw [if_neg a1, if_neg a2, if_pos (by omega)]
      simp
    · rw [vput_big (by omega), List.cons_append, vget]
      have hi9 : i ≠ 9 := fun e => by subst e; simp at hv; omega
      have hp : v / 128 < 2 ^ (64 - 7 * (i + 1)) := by
        rw [Nat.div_lt_iff_lt_mul (by decide)]
        have : 2 ^ (64 - 7 * i) = 2 ^ (64 - 7 * (i + 1)) * 128 := by
          rw [show 64 - 7 * i = (64 - 7 * (i + 1)) + 7 by omega, Nat.pow_add]
        omega
      have e := ih (v / 128) (by omega) (i + 1) r (by omega) hp (fun _ => by omega)
      rw [if_neg (by omega), if_neg (by omega), if_neg (by omega), e, if_pos rfl]
      simp only [List.length_cons, Prod.mk.injEq, and_true]
      omega

theorem vget_back (b : List Int) (hb : ∀ x ∈ b, 0 ≤ x ∧ x ≤ 255) : ∀ i, i ≤ 9 → (vget i b).2.2 = 0 →
    ∃ y m : Nat, (vget i b).1 = y ∧ (vget i b).2.1 = (i : Int) + m ∧ 1 ≤ m ∧ m ≤ b.length ∧ b.take m = vput y ∧ y < 2 ^ (64 - 7 * i) ∧ (0 < i → 0 < y) := by
  induction b with
  | nil => intro i _ h; simp [vget] at h
  | cons x r ih =>
    intro i hi h
    have hx := hb x (by simp)
    obtain ⟨u, rfl⟩ := Int.eq_ofNat_of_zero_le hx.1
    rw [vget] at h ⊢
    by_cases a1 : i = 9 ∧ 1 < (u : Int)
    · rw [if_pos a1] at h; simp at h
    · rw [if_neg a1] at h ⊢
      by_cases a2 : (u : Int) = 0 ∧ 0 < i
      · rw [if_pos a2] at h; simp at h
      · rw [if_neg a2] at h ⊢
        by_cases a3 : (u : Int) < 128
        · rw [if_pos a3]
          refine ⟨u, 1, rfl, rfl, by omega, by simp, by rw [vput_small (by omega)]; rfl, ?_, fun h => by omega⟩
          by_cases h9 : i = 9
          · subst h9; simp; omega
          · have : 2 ^ 8 ≤ 2 ^ (64 - 7 * i) := Nat.pow_le_pow_right (by decide) (by omega)
            omega
        · rw [if_neg a3] at h ⊢
          have hi9 : i ≠ 9 := fun e => a1 ⟨e, by omega⟩
          by_cases a4 : (vget (i + 1) r).2.2 = 0
          · obtain ⟨y, m, e1, e2, e3, e4, e5, e6, e7⟩ := ih (fun z hz => hb z (by simp [hz])) (i + 1) (by omega) a4
            have hy := e7 (by omega)
            rw [if_pos a4]
            refine ⟨u % 128 + 128 * y, m + 1, ?_, ?_, by omega, by simp; omega, ?_, ?_, fun _ => by omega⟩
            · simp only [e1]; omega
            · simp only [e2]; omega
            · rw [List.take_succ_cons, e5, vput_big (show 128 ≤ u % 128 + 128 * y by omega)]
              rw [show (u % 128 + 128 * y) / 128 = y by omega, show ((u % 128 + 128 * y) % 128 + 128 : Nat) = u by omega]
            · have : 2 ^ (64 - 7 * i) = 2 ^ (64 - 7 * (i + 1)) * 128 := by
                rw [show 64 - 7 * i = (64 - 7 * (i + 1)) + 7 by omega, Nat.pow_add]
              omega
          · rw [if_neg a4] at h; simp at h; exact absurd h a4

theorem vget_cut (v : Nat) : ∀ (i k : Nat), k < (vput v).length → i + k ≤ 9 → vget i ((vput v).take k) = (0, 0, 1) := by
  induction v using Nat.strongRecOn with
  | _ v ih =>
    intro i k hk hi
    cases k with
    | zero => rfl
    | succ k =>
      by_cases hs : v < 128
      · rw [vput_small hs] at hk; simp at hk
      · rw [vput_big (by omega)] at hk ⊢
        rw [List.take_succ_cons, vget, if_neg (by omega), if_neg (by omega), if_neg (by omega), ih (v / 128) (by omega) (i + 1) k (by simpa using hk) (by omega)]
        rfl

theorem vput_last (v : Nat) : 0 ≤ (vput v).getLastD 0 ∧ (vput v).getLastD 0 < 128 := by
  induction v using Nat.strongRecOn with
  | _ v ih =>
    by_cases hs : v < 128
    · rw [vput_small hs]; simp; omega
    · rw [vput_big (by omega)]
      have h := ih (v / 128) (by omega)
      have hp := vput_pos (v / 128)
      cases hv : vput (v / 128) with
      | nil => rw [hv] at hp; simp at hp
      | cons a l => rw [hv] at h; simpa [List.getLastD] using h

theorem vget_long (v : Nat) : ∀ (i : Nat) (z : Int), 128 ≤ z → i + (vput v).length ≤ 10 → (vget i ((vput v).dropLast ++ [z, 0])).2.2 = 9 := by
  induction v using Nat.strongRecOn with
  | _ v ih =>
    intro i z hz hi
    by_cases hs : v < 128
    · rw [vput_small hs]
      simp only [List.dropLast_singleton, List.nil_append]
      rw [vget]
      by_cases h9 : i = 9 ∧ 1 < z
      · rw [if_pos h9]
      · have h10 : ¬ (i + 1 = 9 ∧ (1 : Int) < 0) := by omega
        have e0 : vget (i + 1) [0] = (0, 0, 9) := by rw [vget, if_neg h10, if_pos ⟨rfl, by omega⟩]
        rw [if_neg h9, if_neg (by omega), if_neg (by omega), e0]
        rfl
    · have hp := vput_pos (v / 128)
      rw [vput_big (by omega)] at hi ⊢
      have hne : vput (v / 128) ≠ [] := fun e => by rw [e] at hp; simp at hp
      rw [List.dropLast_cons_of_ne_nil hne, List.cons_append, vget]
      have h := ih (v / 128) (by omega) (i + 1) z hz (by simp at hi; omega)
      rw [if_neg (by simp at hi; omega), if_neg (by omega), if_neg (by omega), if_neg (by rw [h]; decide), h]
end Go.Cor

namespace Go.Cor

theorem zig_zag (v : Int) : zag (zig v) = v := by unfold zag zig; split <;> split <;> omega
theorem zag_zig (z : Int) (h : 0 ≤ z) : zig (zag z) = z := by unfold zag zig; split <;> split <;> omega
theorem zig_nonneg (v : Int) : 0 ≤ zig v := by unfold zig; split <;> omega
theorem zig_max (v : Int) (h1 : -9223372036854775808 ≤ v) (h2 : v ≤ 9223372036854775807) : zig v ≤ 18446744073709551615 := by unfold zig; split <;> omega
theorem zag_min (z : Int) (h0 : 0 ≤ z) (h1 : z ≤ 18446744073709551615) : -9223372036854775808 ≤ zag z ∧ zag z ≤ 9223372036854775807 := by unfold zag; split <;> omega
theorem zig_inj {a b : Int} (h : zig a = zig b) : a = b := by rw [← zig_zag a, ← zig_zag b, h]

def nbits (v : Nat) : Nat := if v = 0 then 0 else nbits (v / 2) + 1
termination_by v
decreasing_by omega
theorem nbits_zero : nbits 0 = 0 := by rw [nbits, if_pos rfl]
theorem nbits_pos {v : Nat} (h : 0 < v) : nbits v = nbits (v / 2) + 1 := by rw [nbits, if_neg (by omega)]
theorem nbits_mono (a : Nat) : ∀ b, a ≤ b → nbits a ≤ nbits b := by
  induction a using Nat.strongRecOn with
  | _ a ih =>
    intro b hab
    by_cases ha : a = 0
    · subst ha; rw [nbits_zero]; omega
    · rw [nbits_pos (by omega), nbits_pos (show 0 < b by omega)]
      have := ih (a / 2) (by omega) (b / 2) (by omega)
      omega
theorem nbits_lt (v : Nat) : v < 2 ^ nbits v := by
  induction v using Nat.strongRecOn with
  | _ v ih =>
    by_cases h : v = 0
    · subst h; rw [nbits_zero]; decide
    · rw [nbits_pos (by omega), Nat.pow_succ]
      have := ih (v / 2) (by omega)
      omega
theorem nbits_le (v k : Nat) (h : v < 2 ^ k) : nbits v ≤ k := by
  induction k generalizing v with
  | zero => have : v = 0 := by simpa using h
            subst this; rw [nbits_zero]; omega
  | succ k ih =>
    by_cases hv : v = 0
    · subst hv; rw [nbits_zero]; omega
    · rw [nbits_pos (by omega)]
      have := ih (v / 2) (by rw [Nat.pow_succ] at h; omega)
      omega
theorem nbits_ge (v k : Nat) (h : 2 ^ k ≤ v) : k + 1 ≤ nbits v := by
  have h1 := nbits_lt v
  rcases Nat.lt_or_ge k (nbits v) with h2 | h2
  · omega
  · have := Nat.pow_le_pow_right (n := 2) (by decide) h2
    omega
theorem nbits_u64 (v : Nat) (h : v < 18446744073709551616) : nbits v ≤ 64 := nbits_le v 64 h
theorem nbits_128 (v : Nat) (h : 128 ≤ v) : nbits v = nbits (v / 128) + 7 := by
  rw [nbits_pos (show 0 < v by omega), nbits_pos (show 0 < v / 2 by omega), nbits_pos (show 0 < v / 2 / 2 by omega), nbits_pos (show 0 < v / 2 / 2 / 2 by omega),
    nbits_pos (show 0 < v / 2 / 2 / 2 / 2 by omega), nbits_pos (show 0 < v / 2 / 2 / 2 / 2 / 2 by omega), nbits_pos (show 0 < v / 2 / 2 / 2 / 2 / 2 / 2 by omega)]
  rw [show v / 2 / 2 / 2 / 2 / 2 / 2 / 2 = v / 128 by omega]
theorem vput_nbits (v : Nat) : (vput v).length = max 1 ((nbits v + 6) / 7) := by
  induction v using Nat.strongRecOn with
  | _ v ih =>
    by_cases h : v < 128
    · rw [vput_small h]
      have := nbits_le v 7 (by omega)
      simp; omega
    · rw [vput_big (by omega), List.length_cons, ih (v / 128) (by omega), nbits_128 v (by omega)]
      have : 1 ≤ nbits (v / 128) := by rw [nbits_pos (by omega)]; omega
      omega
theorem vput_mono {a b : Nat} (h : a ≤ b) : (vput a).length ≤ (vput b).length := by
  rw [vput_nbits, vput_nbits]; have := nbits_mono a b h; omega
end Go.Cor
