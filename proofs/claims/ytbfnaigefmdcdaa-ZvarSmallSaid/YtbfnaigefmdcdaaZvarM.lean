/-
  Chapter 8, the plain part: blocks of short numbers, there and back.
-/
import Derived.Test.YtbfnaigefmdcdaaVarN
import Derived.Test.YtbfnaigefmdcdaaNumM
import Derived.Test.YtbfnaigefmdcdaaCodecB
import Derived.Test.YtbfnaigefmdcdaaRead
import Derived.Test.YtbfnaigefmdcdaaPlainK
namespace Go.Cor
open Go
/-- a block's form of short numbers -/
def zform (xs : List Int) : List Int := (xs.map fun x => vput (zig x).toNat).flatten
theorem zform_cons (x : Int) (r : List Int) : zform (x :: r) = vput (zig x).toNat ++ zform r := rfl
theorem zform_bytes (xs : List Int) : ∀ x ∈ zform xs, 0 ≤ x ∧ x ≤ 255 := by
  intro x hx
  unfold zform at hx
  rw [List.mem_flatten] at hx
  obtain ⟨y, hy, hx⟩ := hx
  obtain ⟨z, _, rfl⟩ := List.mem_map.1 hy
  exact vput_bytes _ x hx
def I64 (x : Int) : Prop := -9223372036854775808 ≤ x ∧ x ≤ 9223372036854775807
theorem zig_u64 {x : Int} (h : I64 x) : (zig x).toNat < 18446744073709551616 := by
  have h1 := zig_nonneg x; have h2 := zig_max x h.1 h.2; omega
theorem zform_len {xs : List Int} (h : ∀ x ∈ xs, I64 x) : xs.length ≤ (zform xs).length ∧ (zform xs).length ≤ 10 * xs.length := by
  induction xs with
  | nil => simp [zform]
  | cons x r ih =>
    have h1 := vput_pos (zig x).toNat
    have h2 := vput_len_u64 _ (zig_u64 (h x (by simp)))
    have h3 := ih fun y hy => h y (by simp [hy])
    rw [zform_cons, List.length_append, List.length_cons]
    omega
theorem zform_snoc {l : List Int} {k : Nat} (h : k < l.length) : zform (l.take k) ++ vput (zig (l[k]?.getD 0)).toNat = zform (l.take (k + 1)) := by
  unfold zform; rw [take_snoc h]; simp

/-- n short numbers of bytes: the numbers, how many bytes; the error -/
def zrun : Nat → List Int → List Int × Nat × Int
  | 0, _ => ([], 0, 0)
  | f + 1, b => if (vget 0 b).2.2 ≠ 0 then ([], 0, (vget 0 b).2.2) else
      if (zrun f (b.drop (vget 0 b).2.1.toNat)).2.2 ≠ 0 then ([], 0, (zrun f (b.drop (vget 0 b).2.1.toNat)).2.2)
      else (zag (vget 0 b).1 :: (zrun f (b.drop (vget 0 b).2.1.toNat)).1, (vget 0 b).2.1.toNat + (zrun f (b.drop (vget 0 b).2.1.toNat)).2.1, 0)
def zlift (l : List Int) (a : Nat) (r : List Int × Nat × Int) : List Int × Nat × Int := if r.2.2 ≠ 0 then ([], 0, r.2.2) else (l ++ r.1, a + r.2.1, 0)
theorem zlift_step (l : List Int) (a f : Nat) (b : List Int) (h : (vget 0 b).2.2 = 0) : zlift l a (zrun (f + 1) b) = zlift (l ++ [zag (vget 0 b).1]) (a + (vget 0 b).2.1.toNat) (zrun f (b.drop (vget 0 b).2.1.toNat)) := by
  rw [zrun, if_neg (by simp [h])]
  by_cases h2 : (zrun f (b.drop (vget 0 b).2.1.toNat)).2.2 = 0
  · rw [if_neg (by simp [h2]), zlift, zlift, if_neg (by simp), if_neg (by simp [h2])]
    simp; omega
  · rw [if_pos h2, zlift, zlift, if_pos h2, if_pos h2]
theorem zlift_err (l : List Int) (a f : Nat) (b : List Int) (h : (vget 0 b).2.2 ≠ 0) : zlift l a (zrun (f + 1) b) = ([], 0, (vget 0 b).2.2) := by
  rw [zrun, if_pos h, zlift, if_pos h]
theorem zlift_end (l : List Int) (a : Nat) (b : List Int) : zlift l a (zrun 0 b) = (l, a, 0) := by simp [zrun, zlift]
theorem zrun_err {f : Nat} {b : List Int} (h : (zrun f b).2.2 ≠ 0) : zrun f b = ([], 0, (zrun f b).2.2) := by
  cases f with
  | zero => simp [zrun] at h
  | succ f =>
    rw [zrun] at h ⊢
    split at h
    · simp [*]
    · split at h
      · simp [*]
      · simp at h
theorem zrun_start (f : Nat) (b : List Int) : zrun f b = zlift [] 0 (zrun f b) := by
  by_cases h : (zrun f b).2.2 = 0
  · rw [zlift, if_neg (by simp [h])]
    simp only [List.nil_append, Nat.zero_add, ← h]
  · rw [zlift, if_pos h]; exact zrun_err h

theorem zrun_form {xs : List Int} (h : ∀ x ∈ xs, I64 x) (r : List Int) : zrun xs.length (zform xs ++ r) = (xs, (zform xs).length, 0) := by
  induction xs with
  | nil => rfl
  | cons x t ih =>
    have e := vget_put (zig x).toNat 0 (zform t ++ r) (by omega) (zig_u64 (h x (by simp))) (by omega)
    have e2 : (0 : Int) + (vput (zig x).toNat).length = ((vput (zig x).toNat).length : Int) := by omega
    have hz : ((zig x).toNat : Int) = zig x := Int.toNat_of_nonneg (zig_nonneg x)
    rw [zform_cons, List.append_assoc, List.length_cons, zrun, e]
    simp only [Int.natCast_zero, e2, Int.toNat_natCast, List.drop_left, ih fun y hy => h y (by simp [hy])]
    simp [hz, zig_zag]
theorem zrun_less {xs : List Int} (h : ∀ x ∈ xs, I64 x) (hp : xs ≠ []) : (zrun xs.length ((zform xs).take ((zform xs).length - 1))).2.2 = 1 := by
  induction xs with
  | nil => exact absurd rfl hp
  | cons x t ih =>
    have hv := vput_len_u64 _ (zig_u64 (h x (by simp)))
    have hv1 := vput_pos (zig x).toNat
    cases t with
    | nil =>
      have e1 : zform [x] = vput (zig x).toNat := by simp [zform]
      rw [e1, List.length_cons, zrun, vget_cut _ 0 _ (by omega) (by omega)]
      simp
    | cons y s =>
      have ht := ih (fun z hz => h z (by simp [hz])) (by simp)
      have hl := (zform_len (xs := y :: s) fun z hz => h z (by simp [hz])).1
      simp only [List.length_cons] at hl
      have e : (zform (x :: y :: s)).take ((zform (x :: y :: s)).length - 1) = vput (zig x).toNat ++ (zform (y :: s)).take ((zform (y :: s)).length - 1) := by
        rw [zform_cons, List.length_append, List.take_append, List.take_of_length_le (by omega)]
        congr 2; omega
      have e3 := vget_put (zig x).toNat 0 ((zform (y :: s)).take ((zform (y :: s)).length - 1)) (by omega) (zig_u64 (h x (by simp))) (by omega)
      have e2 : (0 : Int) + (vput (zig x).toNat).length = ((vput (zig x).toNat).length : Int) := by omega
      rw [e, List.length_cons, zrun, e3]
      simp only [Int.natCast_zero, e2, Int.toNat_natCast, List.drop_left]
      rw [if_neg (by simp), if_pos (by rw [ht]; decide), ht]
/-- what is read of any bytes -/
theorem zrun_get {b : List Int} (hb : ∀ x ∈ b, 0 ≤ x ∧ x ≤ 255) (h : (vget 0 b).2.2 = 0) : 1 ≤ (vget 0 b).2.1.toNat ∧ (vget 0 b).2.1.toNat ≤ b.length ∧ ((vget 0 b).2.1.toNat : Int) = (vget 0 b).2.1 ∧ 0 ≤ (vget 0 b).1 ∧ (vget 0 b).1 ≤ 18446744073709551615 := by
  obtain ⟨y, m, e1, e2, e3, e4, _, e6, _⟩ := vget_back b hb 0 (by omega) h
  rw [e1, e2]
  simp at e6 ⊢
  omega
theorem zrun_ok {f : Nat} : ∀ {b : List Int}, (∀ x ∈ b, 0 ≤ x ∧ x ≤ 255) → (zrun f b).2.2 = 0 → (zrun f b).1.length = f ∧ (∀ x ∈ (zrun f b).1, I64 x) ∧ (zrun f b).2.1 ≤ b.length := by
  induction f with
  | zero => intro b hb h; simp [zrun]
  | succ f ih =>
    intro b hb h
    rw [zrun] at h ⊢
    by_cases h1 : (vget 0 b).2.2 = 0
    · have hg := zrun_get hb h1
      rw [if_neg (by simp [h1])] at h ⊢
      by_cases h2 : (zrun f (b.drop (vget 0 b).2.1.toNat)).2.2 = 0
      · rw [if_neg (by simp [h2])] at h ⊢
        have h3 := ih (fun x hx => hb x (List.mem_of_mem_drop hx)) h2
        rw [List.length_drop] at h3
        refine ⟨by simp [h3.1], ?_, by simp; omega⟩
        intro x hx
        rcases List.mem_cons.1 hx with rfl | hx
        · have := zag_min _ hg.2.2.2.1 hg.2.2.2.2; exact this
        · exact h3.2.1 x hx
      · rw [if_pos h2] at h; exact absurd h h2
    · rw [if_pos h1] at h; exact absurd h h1

def zdec (ys : List Int) (N : Int) : List Int × Int := (rlist N ys.length (zrun N.toNat ys).2.1 (zrun N.toNat ys).2.2 (zrun N.toNat ys).1, rerr N ys.length (zrun N.toNat ys).2.1 (zrun N.toNat ys).2.2)
theorem zdec_ok (ys : List Int) (N : Nat) (hb : ∀ x ∈ ys, 0 ≤ x ∧ x ≤ 255) : ((zdec ys N).2 = 0 → (zdec ys N).1.length = N ∧ ∀ x ∈ (zdec ys N).1, I64 x) ∧ ((zdec ys N).2 ≠ 0 → (zdec ys N).1 = []) := by
  have e : zdec ys N = (rlist N ys.length (zrun N ys).2.1 (zrun N ys).2.2 (zrun N ys).1, rerr N ys.length (zrun N ys).2.1 (zrun N ys).2.2) := rfl
  rw [e]
  refine ⟨fun h => ?_, fun h => by unfold rlist; rw [if_neg h]⟩
  have h' : rerr N ys.length (zrun N ys).2.1 (zrun N ys).2.2 = 0 := h
  have hz : (zrun N ys).2.2 = 0 := by
    apply Classical.byContradiction
    intro hne
    by_cases hbk : blk N = true
    · rw [(rerr_err (l := []) hbk hne).2] at h'; exact hne h'
    · rw [(rerr_blk (l := []) (by simpa using hbk)).2] at h'; exact absurd h' (by decide)
  have := zrun_ok hb hz
  unfold rlist
  rw [if_pos h']
  exact ⟨this.1, this.2.1⟩
theorem zvarBacks (xs : List Int) (h : ∀ x ∈ xs, I64 x) (ht : tak tkAll xs = true) : Go.Proofs.Ytbfnaigefmdcdaa.Backs tkAll zform zdec xs := by
  have hb : blk xs.length = true := by rw [tak_all] at ht; exact ht
  have hN := of_decide_eq_true hb
  have hlen := zform_len h
  have key : ∀ ys : List Int, zdec ys xs.length = (rlist xs.length ys.length (zrun xs.length ys).2.1 (zrun xs.length ys).2.2 (zrun xs.length ys).1, rerr xs.length ys.length (zrun xs.length ys).2.1 (zrun xs.length ys).2.2) := fun ys => rfl
  have e0 := zrun_form h []
  rw [List.append_nil] at e0
  have e2 := zrun_form h [0]
  refine ⟨zform_bytes xs, by omega, ?_, by omega, ?_, ?_⟩
  · rw [key, e0, (rerr_ok hb rfl (by simp)).1, (rerr_ok (l := []) hb rfl (by simp)).2]
  · have e1 := zrun_less h (by intro e; subst e; simp at hN)
    rw [key, (rerr_err hb (by rw [e1]; decide)).1, (rerr_err (l := []) hb (by rw [e1]; decide)).2, e1]
    exact ⟨by decide, rfl⟩
  · rw [key, e2, (rerr_long hb rfl (by simp)).1, (rerr_long (l := []) hb rfl (by simp)).2]
    exact ⟨by decide, rfl⟩
end Go.Cor
