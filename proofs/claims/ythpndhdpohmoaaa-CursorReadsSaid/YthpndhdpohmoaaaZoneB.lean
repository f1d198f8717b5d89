/-
  Chapter 25, the plain part: what is loaded is stored as it was.
-/
import Derived.Test.YthpndhdpohmoaaaZoneP
namespace Go.Cor
open Go
theorem leb_cons (v m : Nat) : leb v (m + 1) = ((v % 256 : Nat) : Int) :: leb (v / 256) m := by
  unfold leb
  rw [List.range_succ_eq_map, List.map_cons, List.map_map]
  simp only [Nat.pow_zero, Nat.div_one]
  congr 1
  refine List.map_congr_left fun j _ => ?_
  simp only [Function.comp, Nat.succ_eq_add_one]
  rw [Nat.pow_succ, Nat.mul_comm, Nat.div_div_eq_div_mul]
theorem leb_num : ∀ {xs : List Int} {m : Nat}, (∀ x ∈ xs, 0 ≤ x ∧ x ≤ 255) → xs.length = m → leb (num xs).toNat m = xs
  | [], m, _, h => by subst h; rfl
  | x :: r, m, hb, h => by
    obtain ⟨k, rfl⟩ : ∃ k, m = k + 1 := ⟨r.length, by simpa using h.symm⟩
    have hx := hb x (by simp)
    have hr := num_bd (xs := r) fun y hy => hb y (by simp [hy])
    have ih := leb_num (xs := r) (m := k) (fun y hy => hb y (by simp [hy])) (by simpa using h)
    rw [leb_cons]
    have e1 : (num (x :: r)).toNat % 256 = x.toNat := by simp only [num]; omega
    have e2 : (num (x :: r)).toNat / 256 = (num r).toNat := by simp only [num]; omega
    rw [e1, e2, ih, Int.toNat_of_nonneg hx.1]
theorem zb_zparse {b : List Int} (hb : ∀ x ∈ b, 0 ≤ x ∧ x ≤ 255) (hl : ¬ b.length < 26) (hr : zright (zparse b) = true) : zb (zparse b) = b.take 26 := by
  have by1 : ∀ (i m : Nat), ∀ x ∈ (b.drop i).take m, 0 ≤ x ∧ x ≤ 255 := fun i m x hx => hb x (List.mem_of_mem_drop (List.mem_of_mem_take hx))
  have bd := fun i => num_bd (xs := (b.drop i).take 8) (by1 i 8)
  have len8 : ∀ i, i + 8 ≤ 26 → ((b.drop i).take 8).length = 8 := fun i hi => by rw [List.length_take, List.length_drop]; omega
  have k8 : ∀ i, i + 8 ≤ 26 → leb (wu64 (w64 (num ((b.drop i).take 8)))).toNat 8 = (b.drop i).take 8 := by
    intro i hi
    have h1 := bd i
    rw [len8 i hi] at h1
    have h2 : wu64 (w64 (num ((b.drop i).take 8))) = num ((b.drop i).take 8) := by unfold wu64 w64; omega
    rw [h2]
    exact leb_num (by1 i 8) (len8 i hi)
  have b2 : ∀ x ∈ b.take 2, 0 ≤ x ∧ x ≤ 255 := fun x hx => hb x (List.mem_of_mem_take hx)
  have l2 : (b.take 2).length = 2 := by rw [List.length_take]; omega
  have h2 := num_bd b2
  rw [l2] at h2
  have k2 : leb (wu64 (num (b.take 2))).toNat 2 = b.take 2 := by
    have : wu64 (num (b.take 2)) = num (b.take 2) := by unfold wu64; omega
    rw [this]; exact leb_num b2 l2
  unfold zb zparse
  simp only
  rw [k2, k8 2 (by omega), k8 10 (by omega), k8 18 (by omega)]
  have e1 : b.take 26 = b.take 2 ++ (b.drop 2).take 24 := by rw [← List.take_add]
  have e2 : (b.drop 2).take 24 = (b.drop 2).take 8 ++ ((b.drop 2).drop 8).take 16 := by rw [← List.take_add]
  have e3 : ((b.drop 2).drop 8).take 16 = ((b.drop 2).drop 8).take 8 ++ (((b.drop 2).drop 8).drop 8).take 8 := by rw [← List.take_add]
  rw [e1, e2, e3]
  simp only [List.drop_drop, List.append_assoc]
theorem zl_bytes {f : Nat} : ∀ {b : List Int}, (∀ x ∈ b, 0 ≤ x ∧ x ≤ 255) → (zl f b).2.2 = 0 → zbs (zl f b).1 = b.take (26 * f) ∧ (zl f b).1.length = f ∧ (zl f b).2.1 = 26 * f ∧ 26 * f ≤ b.length := by
  induction f with
  | zero => intro b _ _; simp [zl, zbs]
  | succ f ih =>
    intro b hb h
    rw [zl] at h ⊢
    by_cases h1 : b.length < 26
    · rw [if_pos h1] at h; simp at h
    · rw [if_neg h1] at h ⊢
      by_cases h2 : zright (zparse b) = false
      · rw [if_pos h2] at h; simp at h
      · rw [if_neg h2] at h ⊢
        by_cases h3 : (zl f (b.drop 26)).2.2 = 0
        · rw [if_neg (by simp [h3])] at h ⊢
          have hi := ih (fun x hx => hb x (List.mem_of_mem_drop hx)) h3
          rw [List.length_drop] at hi
          have hz := zb_zparse hb h1 (by simpa using h2)
          refine ⟨?_, by simp [hi.2.1], by simp [hi.2.2.1]; omega, by omega⟩
          have e : zbs (zparse b :: (zl f (b.drop 26)).1) = zb (zparse b) ++ zbs (zl f (b.drop 26)).1 := by unfold zbs; simp
          rw [e, hz, hi.1, show 26 * (f + 1) = 26 + 26 * f by omega, List.take_add]
        · rw [if_pos h3] at h; exact absurd h h3
/-- what is loaded is stored as it was -/
theorem zstore_zload {ys : List Int} (hb : ∀ x ∈ ys, 0 ≤ x ∧ x ≤ 255) (h : (zload ys).2 = 0) : zstore (zload ys).1 = (ys, 0) := by
  unfold zload at h ⊢
  by_cases h1 : ys.length < 4
  · rw [if_pos h1] at h; simp at h
  · rw [if_neg h1] at h ⊢
    have hb4 : ∀ x ∈ ys.drop 4, 0 ≤ x ∧ x ≤ 255 := fun x hx => hb x (List.mem_of_mem_drop hx)
    by_cases h2 : (zl (num (ys.take 4)).toNat (ys.drop 4)).2.2 = 0
    · rw [if_neg (by simp [h2])] at h ⊢
      have hz := zl_bytes hb4 h2
      have hf := zl_fit (f := (num (ys.take 4)).toNat) hb4
      by_cases h3 : 4 + (zl (num (ys.take 4)).toNat (ys.drop 4)).2.1 < ys.length
      · rw [if_pos h3] at h; simp at h
      · rw [if_neg h3]
        simp only
        obtain ⟨M, hM⟩ : ∃ M, (num (ys.take 4)).toNat = M := ⟨_, rfl⟩
        rw [hM] at hz hf h3 ⊢
        rw [List.length_drop] at hz
        have hall : (zl M (ys.drop 4)).1.all zright = true := List.all_eq_true.2 fun z hz' => (hf z hz').2
        unfold zstore
        rw [if_pos hall]
        unfold zst
        rw [hz.2.1, hz.1, ← hM, leb_num (fun x hx => hb x (List.mem_of_mem_take hx)) (by rw [List.length_take]; omega), hM, List.take_of_length_le (l := ys.drop 4) (i := 26 * M) (by rw [List.length_drop]; omega), List.take_append_drop]
    · rw [if_pos h2] at h; exact absurd h h2
end Go.Cor
