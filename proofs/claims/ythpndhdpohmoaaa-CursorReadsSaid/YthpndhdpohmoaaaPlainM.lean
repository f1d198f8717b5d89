/-
  The plain form there and back, as plain functions.
-/
import Derived.Test.YthpndhdpohmoaaaPlainD
import Derived.Test.YthpndhdpohmoaaaCurB
namespace Go.Cor
open Go
theorem flat_part (f : Int → List Int) (m : Nat) (hf : ∀ x, (f x).length = m) : ∀ (l : List Int) (i : Nat) (h : i < l.length), (((l.map f).flatten).drop (m * i)).take m = f l[i]
  | [], i, h => by simp at h
  | x :: r, 0, h => by
    simp only [List.map_cons, List.flatten_cons, Nat.mul_zero, List.drop_zero, List.getElem_cons_zero]
    rw [List.take_append_of_le_length (by rw [hf]; omega), List.take_of_length_le (by rw [hf]; omega)]
  | x :: r, i + 1, h => by
    simp only [List.map_cons, List.flatten_cons, List.getElem_cons_succ]
    rw [List.drop_append, List.drop_of_length_le (by rw [hf, Nat.mul_add]; omega), List.nil_append, hf, show m * (i + 1) - m = m * i by rw [Nat.mul_add]; omega]
    exact flat_part f m hf r i (by simpa using h)
theorem pnums_pform (xs : List Int) (h : ∀ x ∈ xs, -9223372036854775808 ≤ x ∧ x ≤ 9223372036854775807) : pnums (pform xs) xs.length = xs := by
  unfold pnums
  apply List.ext_getElem (by simp)
  intro i h1 h2
  rw [List.getElem_map, List.getElem_range]
  have := flat_part (fun x => leb (wu64 x).toNat 8) 8 (fun x => leb_len _ _) xs i h2
  unfold pform
  rw [this, num_leb]
  have hx := h xs[i] (List.getElem_mem _)
  have hb := wu64_bd xs[i]
  rw [Nat.mod_eq_of_lt (by omega)]
  unfold w64 wu64 at *
  omega
theorem pform_inj {xs ys : List Int} (hx : ∀ x ∈ xs, -9223372036854775808 ≤ x ∧ x ≤ 9223372036854775807) (hy : ∀ x ∈ ys, -9223372036854775808 ≤ x ∧ x ≤ 9223372036854775807) (h : pform xs = pform ys) : xs = ys := by
  have hl : xs.length = ys.length := by have := congrArg List.length h; rw [pform_len, pform_len] at this; omega
  rw [← pnums_pform xs hx, h, hl, pnums_pform ys hy]
theorem plainBacks (xs : List Int) (h : ∀ x ∈ xs, -9223372036854775808 ≤ x ∧ x ≤ 9223372036854775807) (hb : blk xs.length = true) : Go.Proofs.Ythpndhdpohmoaaa.Backs (fun _ => true) pform pdec xs := by
  have hN := of_decide_eq_true hb
  have hlen := pform_len xs
  have key : ∀ ys : List Int, pdec ys xs.length = (rlist xs.length ys.length (8 * xs.length) (perr ys xs.length) (pnums ys xs.length), rerr xs.length ys.length (8 * xs.length) (perr ys xs.length)) := fun ys => rfl
  refine ⟨pform_bytes xs, by omega, ?_, by omega, ?_, ?_⟩
  · have he : perr (pform xs) xs.length = 0 := by unfold perr; exact if_neg (by omega)
    rw [key, (rerr_ok hb he (by omega)).1, (rerr_ok (l := []) hb he (by omega)).2, pnums_pform xs h]
  · have hl : ((pform xs).take ((pform xs).length - 1)).length = 8 * xs.length - 1 := by rw [List.length_take]; omega
    have he : perr ((pform xs).take ((pform xs).length - 1)) xs.length = 1 := by unfold perr; exact if_pos (by omega)
    rw [key, (rerr_err hb (by rw [he]; decide)).1, (rerr_err (l := []) hb (by rw [he]; decide)).2, he]
    exact ⟨by decide, rfl⟩
  · have hl : (pform xs ++ [0]).length = 8 * xs.length + 1 := by rw [List.length_append, hlen]; rfl
    have he : perr (pform xs ++ [0]) xs.length = 0 := by unfold perr; exact if_neg (by omega)
    rw [key, (rerr_long hb he (by omega)).1, (rerr_long (l := []) hb he (by omega)).2]
    exact ⟨by decide, rfl⟩
end Go.Cor
