/-
  Chapter 8, the plain part: blocks of short numbers, there and back.
  A decoder's loop, plain: steps, each of which gives some numbers, until all are there.
  Chapter 1, plain: a row of bits as a number. A writer that holds 'many' bits holds leb V (octets many) with V < 2^many; to put v is to make V + v * 2^many. A reader at 'at_' tells (num b / 2^at_) % 2^width.
  The number of a number's bytes.
  Chapter 1, plain: packed rows: pk is the number of a row of numbers of one width, unp its numbers again; bits as a list of truths.
  Chapter 1: is it a width? does a number fit?
  Chapter 1: how many bytes numbers need; a writer: what it holds, its making, its bytes; the reference's Fits.
  Chapter 1: Writer.Put. (lemmas: one cell of the call's own row is written)
-/
import Derived.Deep.LoopGhost
import Derived.Lib.SmallJoins
import Derived.Deep.Cut
import Derived.Deep.CutRange
import Derived.Test.YtbfnaigefmdcdaaG1
import Derived.Test.YtbfnaigefmdcdaaG4
import Derived.Test.YtbfnaigefmdcdaaG6
import Derived.Test.YtbfnaigefmdcdaaG7
namespace Go.Cor
open Go
/-- a block's form of short numbers -/
def zform (xs : List Int) : List Int := (xs.map fun x => vput (zig x).toNat).flatten
theorem zform_cons (x : Int) (r : List Int) : zform (x :: r) = vput (zig x).toNat ++ zform r := rfl
theorem zform_bytes (xs : List Int) : ∀ x ∈ zform xs, 0 ≤ x ∧ x ≤ 255 := by
  intro x hx
  unfold zform at hx
  rw [List.mem_flatten] at hx
  obtain ⟨y, hy, hx⟩ := hx
  obtain ⟨z, _, rfl⟩ := List.mem_map.1 hy
  exact vput_bytes _ x hx
def I64 (x : Int) : Prop := -9223372036854775808 ≤ x ∧ x ≤ 9223372036854775807
theorem zig_u64 {x : Int} (h : I64 x) : (zig x).toNat < 18446744073709551616 := by
  have h1 := zig_nonneg x; have h2 := zig_max x h.1 h.2; omega
theorem zform_len {xs : List Int} (h : ∀ x ∈ xs, I64 x) : xs.length ≤ (zform xs).length ∧ (zform xs).length ≤ 10 * xs.length := by
  induction xs with
  | nil => simp [zform]
  | cons x r ih =>
    have h1 := vput_pos (zig x).toNat
    have h2 := vput_len_u64 _ (zig_u64 (h x (by simp)))
    have h3 := ih fun y hy => h y (by simp [hy])
    rw [zform_cons, List.length_append, List.length_cons]
    omega
theorem zform_snoc {l : List Int} {k : Nat} (h : k < l.length) : zform (l.take k) ++ vput (zig (l[k]?.getD 0)).toNat = zform (l.take (k + 1)) := by
  unfold zform; rw [take_snoc h]; simp

/-- n short numbers of bytes: the numbers, how many bytes; the error -/
def zrun : Nat → List Int → List Int × Nat × Int
  | 0, _ => ([], 0, 0)
  | f + 1, b => if (vget 0 b).2.2 ≠ 0 then ([], 0, (vget 0 b).2.2) else
      if (zrun f (b.drop (vget 0 b).2.1.toNat)).2.2 ≠ 0 then ([], 0, (zrun f (b.drop (vget 0 b).2.1.toNat)).2.2)
      else (zag (vget 0 b).1 :: (zrun f (b.drop (vget 0 b).2.1.toNat)).1, (vget 0 b).2.1.toNat + (zrun f (b.drop (vget 0 b).2.1.toNat)).2.1, 0)
def zlift (l : List Int) (a : Nat) (r : List Int × Nat × Int) : List Int × Nat × Int := if r.2.2 ≠ 0 then ([], 0, r.2.2) else (l ++ r.1, a + r.2.1, 0)
theorem zlift_step (l : List Int) (a f : Nat) (b : List Int) (h : (vget 0 b).2.2 = 0) : zlift l a (zrun (f + 1) b) = zlift (l ++ [zag (vget 0 b).1]) (a + (vget 0 b).2.1.toNat) (zrun f (b.drop (vget 0 b).2.1.toNat)) := by
  rw [zrun, if_neg (by simp [h])]
  by_cases h2 : (zrun f (b.drop (vget 0 b).2.1.toNat)).2.2 = 0
  · rw [if_neg (by simp [h2]), zlift, zlift, if_neg (by simp), if_neg (by simp [h2])]
    simp; omega
  · rw [if_pos h2, zlift, zlift, if_pos h2, if_pos h2]
theorem zlift_err (l : List Int) (a f : Nat) (b : List Int) (h : (vget 0 b).2.2 ≠ 0) : zlift l a (zrun (f + 1) b) = ([], 0, (vget 0 b).2.2) := by
  rw [zrun, if_pos h, zlift, if_pos h]
theorem zlift_end (l : List Int) (a : Nat) (b : List Int) : zlift l a (zrun 0 b) = (l, a, 0) := by simp [zrun, zlift]
theorem zrun_err {f : Nat} {b : List Int} (h : (zrun f b).2.2 ≠ 0) : zrun f b = ([], 0, (zrun f b).2.2) := by
  cases f with
  | zero => simp [zrun] at h
  | succ f =>
    rw [zrun] at h ⊢
    split at h
    · simp [*]
    · split at h
      · simp [*]
      · simp at h
theorem zrun_start (f : Nat) (b : List Int) : zrun f b = zlift [] 0 (zrun f b) := by
  by_cases h : (zrun f b).2.2 = 0
  · rw [zlift, if_neg (by simp [h])]
    simp only [List.nil_append, Nat.zero_add, ← h]
  · rw [zlift, if_pos h]; exact zrun_err h

theorem zrun_form {xs : List Int} (h : ∀ x ∈ xs, I64 x) (r : List Int) : zrun xs.length (zform xs ++ r) = (xs, (zform xs).length, 0) := by
  induction xs with
  | nil => rfl
  | cons x t ih =>
    have e := vget_put (zig x).toNat 0 (zform t ++ r) (by omega) (zig_u64 (h x (by simp))) (by omega)
    have e2 : (0 : Int) + (vput (zig x).toNat).length = ((vput (zig x).toNat).length : Int) := by omega
    have hz : ((zig x).toNat : Int) = zig x := Int.toNat_of_nonneg (zig_nonneg x)
    rw [zform_cons, List.append_assoc, List.length_cons, zrun, e]
    simp only [Int.natCast_zero, e2, Int.toNat_natCast, List.drop_left, ih fun y hy => h y (by simp [hy])]
    simp [hz, zig_zag]
theorem zrun_less {xs : List Int} (h : ∀ x ∈ xs, I64 x) (hp : xs ≠ []) : (zrun xs.length ((zform xs).take ((zform xs).length - 1))).2.2 = 1 := by
  induction xs with
  | nil => exact absurd rfl hp
  | cons x t ih =>
    have hv := vput_len_u64 _ (zig_u64 (h x (by simp)))
    have hv1 := vput_pos (zig x).toNat
    cases t with
    | nil =>
      have e1 : zform [x] = vput (zig x).toNat := by simp [zform]
      rw [e1, List.length_cons, zrun, vget_cut _ 0 _ (by omega) (by omega)]
      simp
    | cons y s =>
      have ht := ih (fun z hz => h z (by simp [hz])) (by simp)
      have hl := (zform_len (xs := y :: s) fun z hz => h z (by simp [hz])).1
      simp only [List.length_cons] at hl
      have e : (zform (x :: y :: s)).take ((zform (x :: y :: s)).length - 1) = vput (zig x).toNat ++ (zform (y :: s)).take ((zform (y :: s)).length - 1) := by
        rw [zform_cons, List.length_append, List.take_append, List.take_of_length_le (by omega)]
        congr 2; omega
      have e3 := vget_put (zig x).toNat 0 ((zform (y :: s)).take ((zform (y :: s)).length - 1)) (by omega) (zig_u64 (h x (by simp))) (by omega)
      have e2 : (0 : Int) + (vput (zig x).toNat).length = ((vput (zig x).toNat).length : Int) := by omega
      rw [e, List.length_cons, zrun, e3]
      simp only [Int.natCast_zero, e2, Int.toNat_natCast, List.drop_left]
      rw [if_neg (by simp), if_pos (by rw [ht]; decide), ht]
/-- what is read of any bytes -/
theorem zrun_get {b : List Int} (hb : ∀ x ∈ b, 0 ≤ x ∧ x ≤ 255) (h : (vget 0 b).2.2 = 0) : 1 ≤ (vget 0 b).2.1.toNat ∧ (vget 0 b).2.1.toNat ≤ b.length ∧ ((vget 0 b).2.1.toNat : Int) = (vget 0 b).2.1 ∧ 0 ≤ (vget 0 b).1 ∧ (vget 0 b).1 ≤ 18446744073709551615 := by
  obtain ⟨y, m, e1, e2, e3, e4, _, e6, _⟩ := vget_back b hb 0 (by omega) h
  rw [e1, e2]
  simp at e6 ⊢
  omega
theorem zrun_ok {f : Nat} : ∀ {b : List Int}, (∀ x ∈ b, 0 ≤ x ∧ x ≤ 255) → (zrun f b).2.2 = 0 → (zrun f b).1.length = f ∧ (∀ x ∈ (zrun f b).1, I64 x) ∧ (zrun f b).2.1 ≤ b.length := by
  induction f with
  | zero => intro b hb h; simp [zrun]
  | succ f ih =>
    intro b hb h
    rw [zrun] at h ⊢
    by_cases h1 : (vget 0 b).2.2 = 0
    · have hg := zrun_get hb h1
      rw [if_neg (by simp [h1])] at h ⊢
      by_cases h2 : (zrun f (b.drop (vget 0 b).2.1.toNat)).2.2 = 0
      · rw [if_neg (by simp [h2])] at h ⊢
        have h3 := ih (fun x hx => hb x (List.mem_of_mem_drop hx)) h2
        rw [List.length_drop] at h3
        refine ⟨by simp [h3.1], ?_, by simp; omega⟩
        intro x hx
        rcases List.mem_cons.1 hx with rfl | hx
        · have := zag_min _ hg.2.2.2.1 hg.2.2.2.2; exact this
        · exact h3.2.1 x hx
      · rw [if_pos h2] at h; exact absurd h h2
    · rw [if_pos h1] at h; exact absurd h h1

def zdec (ys : List Int) (N : Int) : List Int × Int := (rlist N ys.length (zrun N.toNat ys).2.1 (zrun N.toNat ys).2.2 (zrun N.toNat ys).1, rerr N ys.length (zrun N.toNat ys).2.1 (zrun N.toNat ys).2.2)
theorem zdec_ok (ys : List Int) (N : Nat) (hb : ∀ x ∈ ys, 0 ≤ x ∧ x ≤ 255) : ((zdec ys N).2 = 0 → (zdec ys N).1.length = N ∧ ∀ x ∈ (zdec ys N).1, I64 x) ∧ ((zdec ys N).2 ≠ 0 → (zdec ys N).1 = []) := by
  have e : zdec ys N = (rlist N ys.length (zrun N ys).2.1 (zrun N ys).2.2 (zrun N ys).1, rerr N ys.length (zrun N ys).2.1 (zrun N ys).2.2) := rfl
  rw [e]
  refine ⟨fun h => ?_, fun h => by unfold rlist; rw [if_neg h]⟩
  have h' : rerr N ys.length (zrun N ys).2.1 (zrun N ys).2.2 = 0 := h
  have hz : (zrun N ys).2.2 = 0 := by
    apply Classical.byContradiction
    intro hne
    by_cases hbk : blk N = true
    · rw [(rerr_err (l := []) hbk hne).2] at h'; exact hne h'
    · rw [(rerr_blk (l := []) (by simpa using hbk)).2] at h'; exact absurd h' (by decide)
  have := zrun_ok hb hz
  unfold rlist
  rw [if_pos h']
  exact ⟨this.1, this.2.1⟩
theorem zvarBacks (xs : List Int) (h : ∀ x ∈ xs, I64 x) (ht : tak tkAll xs = true) : Go.Proofs.Ytbfnaigefmdcdaa.Backs tkAll zform zdec xs := by
  have hb : blk xs.length = true := by rw [tak_all] at ht; exact ht
  have hN := of_decide_eq_true hb
  have hlen := zform_len h
  have key : ∀ ys : List Int, zdec ys xs.length = (rlist xs.length ys.length (zrun xs.length ys).2.1 (zrun xs.length ys).2.2 (zrun xs.length ys).1, rerr xs.length ys.length (zrun xs.length ys).2.1 (zrun xs.length ys).2.2) := fun ys => rfl
  have e0 := zrun_form h []
  rw [List.append_nil] at e0
  have e2 := zrun_form h [0]
  refine ⟨zform_bytes xs, by omega, ?_, by omega, ?_, ?_⟩
  · rw [key, e0, (rerr_ok hb rfl (by simp)).1, (rerr_ok (l := []) hb rfl (by simp)).2]
  · have e1 := zrun_less h (by intro e; subst e; simp at hN)
    rw [key, (rerr_err hb (by rw [e1]; decide)).1, (rerr_err (l := []) hb (by rw [e1]; decide)).2, e1]
    exact ⟨by decide, rfl⟩
  · rw [key, e2, (rerr_long hb rfl (by simp)).1, (rerr_long (l := []) hb rfl (by simp)).2]
    exact ⟨by decide, rfl⟩
end Go.Cor

namespace Go.Cor
open Go
def dlift (l : List Int) (a : Nat) (r : List Int × Nat × Int) : List Int × Nat × Int := if r.2.2 ≠ 0 then ([], 0, r.2.2) else (l ++ r.1, a + r.2.1, 0)
/-- steps until 'lack' numbers are there: the numbers, how many bytes; the error -/
def drun (step : Nat → List Int → List Int × Nat × Int) (lack : Nat) (b : List Int) : List Int × Nat × Int :=
  if lack = 0 then ([], 0, 0)
  else if (step lack b).2.2 ≠ 0 then ([], 0, (step lack b).2.2)
  else if (step lack b).1.length = 0 then ([], 0, 1)
  else dlift (step lack b).1 (step lack b).2.1 (drun step (lack - (step lack b).1.length) (b.drop (step lack b).2.1))
termination_by lack
decreasing_by omega
section
variable {step : Nat → List Int → List Int × Nat × Int}
theorem dlift_err {l : List Int} {a : Nat} {r : List Int × Nat × Int} (h : (dlift l a r).2.2 ≠ 0) : dlift l a r = ([], 0, (dlift l a r).2.2) := by
  unfold dlift at h ⊢; split at h
  · rename_i h1; rw [if_pos h1]
  · simp at h
theorem drun_err {lack : Nat} {b : List Int} (h : (drun step lack b).2.2 ≠ 0) : drun step lack b = ([], 0, (drun step lack b).2.2) := by
  rw [drun] at h ⊢
  split at h
  · simp at h
  · rename_i h0
    rw [if_neg h0]
    split at h
    · rename_i h1; rw [if_pos h1]
    · rename_i h1; rw [if_neg h1]
      split at h
      · rename_i h2; rw [if_pos h2]
      · rename_i h2; rw [if_neg h2]; exact dlift_err h
theorem dlift_dlift (l m : List Int) (a c : Nat) (r : List Int × Nat × Int) : dlift l a (dlift m c r) = dlift (l ++ m) (a + c) r := by
  unfold dlift
  by_cases h : r.2.2 = 0
  · simp [h]; omega
  · simp [h]
theorem dlift_start {r : List Int × Nat × Int} (h : r.2.2 ≠ 0 → r = ([], 0, r.2.2)) : r = dlift [] 0 r := by
  unfold dlift
  by_cases h0 : r.2.2 = 0
  · rw [if_neg (by simp [h0])]; simp [← h0]
  · rw [if_pos h0]; exact h h0
theorem drun_start (lack : Nat) (b : List Int) : drun step lack b = dlift [] 0 (drun step lack b) := dlift_start drun_err
theorem drun_step (l : List Int) (a : Nat) {lack : Nat} {b : List Int} (hl : lack ≠ 0) (h : (step lack b).2.2 = 0) (h1 : (step lack b).1.length ≠ 0) :
    dlift l a (drun step lack b) = dlift (l ++ (step lack b).1) (a + (step lack b).2.1) (drun step (lack - (step lack b).1.length) (b.drop (step lack b).2.1)) := by
  conv => lhs; rw [drun, if_neg hl, if_neg (by simp [h]), if_neg h1, dlift_dlift]
theorem drun_bad (l : List Int) (a : Nat) {lack : Nat} {b : List Int} (hl : lack ≠ 0) (h : (step lack b).2.2 ≠ 0) : dlift l a (drun step lack b) = ([], 0, (step lack b).2.2) := by
  rw [drun, if_neg hl, if_pos h, dlift, if_pos h]
theorem drun_end (l : List Int) (a : Nat) (b : List Int) : dlift l a (drun step 0 b) = (l, a, 0) := by rw [drun, if_pos rfl]; simp [dlift]
theorem drun_ok {P : Int → Prop} {Q : List Int → Prop} (hQ : ∀ b k, Q b → Q (b.drop k)) (hs : ∀ lack b, Q b → lack ≠ 0 → (step lack b).2.2 = 0 → (step lack b).1.length ≤ lack ∧ (∀ x ∈ (step lack b).1, P x) ∧ (step lack b).2.1 ≤ b.length) :
    ∀ lack b, Q b → (drun step lack b).2.2 = 0 → (drun step lack b).1.length = lack ∧ (∀ x ∈ (drun step lack b).1, P x) ∧ (drun step lack b).2.1 ≤ b.length := by
  intro lack
  induction lack using Nat.strongRecOn with
  | ind lack ih =>
    intro b hb h
    rw [drun] at h ⊢
    by_cases h0 : lack = 0
    · rw [if_pos h0]; simp [h0]
    · rw [if_neg h0] at h ⊢
      by_cases h1 : (step lack b).2.2 = 0
      · rw [if_neg (by simp [h1])] at h ⊢
        by_cases h2 : (step lack b).1.length = 0
        · rw [if_pos h2] at h; simp at h
        · rw [if_neg h2] at h ⊢
          obtain ⟨g1, g2, g3⟩ := hs lack b hb h0 h1
          unfold dlift at h ⊢
          by_cases h3 : (drun step (lack - (step lack b).1.length) (b.drop (step lack b).2.1)).2.2 = 0
          · rw [if_neg (by simp [h3])]
            obtain ⟨k1, k2, k3⟩ := ih _ (by omega) _ (hQ _ _ hb) h3
            rw [List.length_drop] at k3
            refine ⟨by rw [List.length_append, k1]; omega, fun x hx => ?_, by show _ + _ ≤ _; omega⟩
            rcases List.mem_append.1 hx with hx | hx
            · exact g2 x hx
            · exact k2 x hx
          · rw [if_pos h3] at h; exact absurd h h3
      · rw [if_pos h1] at h; exact absurd h h1
end
/-- a decoder's answer, of what a run over its bytes comes to -/
def decOf (run : Nat → List Int → List Int × Nat × Int) (ys : List Int) (N : Int) : List Int × Int :=
  (rlist N ys.length (run N.toNat ys).2.1 (run N.toNat ys).2.2 (run N.toNat ys).1, rerr N ys.length (run N.toNat ys).2.1 (run N.toNat ys).2.2)
theorem decOf_ok {run : Nat → List Int → List Int × Nat × Int} (hr : ∀ n b, (∀ x ∈ b, 0 ≤ x ∧ x ≤ 255) → (run n b).2.2 = 0 → (run n b).1.length = n ∧ ∀ x ∈ (run n b).1, I64 x)
    (ys : List Int) (N : Nat) (hb : ∀ x ∈ ys, 0 ≤ x ∧ x ≤ 255) : ((decOf run ys N).2 = 0 → (decOf run ys N).1.length = N ∧ ∀ x ∈ (decOf run ys N).1, I64 x) ∧ ((decOf run ys N).2 ≠ 0 → (decOf run ys N).1 = []) := by
  have e : decOf run ys N = (rlist N ys.length (run N ys).2.1 (run N ys).2.2 (run N ys).1, rerr N ys.length (run N ys).2.1 (run N ys).2.2) := rfl
  rw [e]
  refine ⟨fun h => ?_, fun h => by unfold rlist; rw [if_neg h]⟩
  have h' : rerr N ys.length (run N ys).2.1 (run N ys).2.2 = 0 := h
  have hz : (run N ys).2.2 = 0 := by
    apply Classical.byContradiction
    intro hne
    by_cases hbk : blk N = true
    · rw [(rerr_err (l := []) hbk hne).2] at h'; exact hne h'
    · rw [(rerr_blk (l := []) (by simpa using hbk)).2] at h'; exact absurd h' (by decide)
  have := hr N ys hb hz
  unfold rlist
  rw [if_pos h']
  exact this
/-- what Back asks, of a run -/
theorem backsOf {tk : List Int → Bool} {enc : List Int → List Int} {run : Nat → List Int → List Int × Nat × Int} {xs : List Int} (hby : ∀ x ∈ enc xs, 0 ≤ x ∧ x ≤ 255) (hlen : (enc xs).length ≤ 20000) (hb : blk xs.length = true)
    (h0 : ∀ r, run xs.length (enc xs ++ r) = (xs, (enc xs).length, 0)) (h1 : (run xs.length ((enc xs).take ((enc xs).length - 1))).2.2 ≠ 0) (hp : 0 < (enc xs).length) : Go.Proofs.Ytbfnaigefmdcdaa.Backs tk enc (decOf run) xs := by
  have key : ∀ ys : List Int, decOf run ys xs.length = (rlist xs.length ys.length (run xs.length ys).2.1 (run xs.length ys).2.2 (run xs.length ys).1, rerr xs.length ys.length (run xs.length ys).2.1 (run xs.length ys).2.2) := fun ys => rfl
  have e0 := h0 []
  rw [List.append_nil] at e0
  have e2 := h0 [0]
  refine ⟨hby, hlen, ?_, hp, ?_, ?_⟩
  · rw [key, e0, (rerr_ok hb rfl (by simp)).1, (rerr_ok (l := []) hb rfl (by simp)).2]
  · rw [key, (rerr_err hb h1).1, (rerr_err (l := []) hb h1).2]
    exact ⟨h1, rfl⟩
  · rw [key, e2, (rerr_long hb rfl (by simp)).1, (rerr_long (l := []) hb rfl (by simp)).2]
    exact ⟨by decide, rfl⟩
end Go.Cor

namespace Go.Cor
theorem leb_at {V k j : Nat} (h : j < k) : (leb V k)[j]? = some (((V / 256 ^ j % 256 : Nat)) : Int) := by
  unfold leb
  rw [List.getElem?_map, List.getElem?_range h]; rfl
theorem two8 (k : Nat) : (256 : Nat) ^ k = 2 ^ (8 * k) := by rw [Nat.pow_mul]
theorem pow_split (many : Nat) : (2 : Nat) ^ many = 256 ^ (many / 8) * 2 ^ (many % 8) := by
  rw [two8, ← Nat.pow_add]; congr 1; omega
/-- a new byte is nought -/
theorem leb_open {V k : Nat} (h : V < 256 ^ k) : leb V k ++ [0] = leb V (k + 1) := by
  refine List.ext_getElem? fun j => ?_
  by_cases h1 : j < k
  · rw [List.getElem?_append_left (by rw [leb_len]; exact h1), leb_at h1, leb_at (by omega)]
  · by_cases h2 : j = k
    · subst h2
      rw [List.getElem?_append_right (by rw [leb_len]; omega), leb_len, leb_at (by omega), Nat.sub_self, Nat.div_eq_of_lt h]; rfl
    · rw [List.getElem?_eq_none (by simp [leb_len]; omega), List.getElem?_eq_none (by rw [leb_len]; omega)]
/-- the last byte takes more bits -/
theorem leb_more {V many u : Nat} (hV : V < 2 ^ many) (hu : u < 2 ^ (8 - many % 8)) :
    (leb V (many / 8 + 1)).set (many / 8) ((V / 256 ^ (many / 8) + u * 2 ^ (many % 8) : Nat) : Int) = leb (V + u * 2 ^ many) (many / 8 + 1) := by
  have hp := pow_split many
  obtain ⟨k, hk⟩ : ∃ k, many / 8 = k := ⟨_, rfl⟩
  obtain ⟨a, ha⟩ : ∃ a, many % 8 = a := ⟨_, rfl⟩
  have ha8 : a < 8 := by omega
  rw [hk, ha] at hp ⊢
  rw [ha] at hu
  rw [hp] at hV ⊢
  refine List.ext_getElem? fun j => ?_
  by_cases h1 : j < k
  · rw [List.getElem?_set_ne (by omega), leb_at (by omega), leb_at (by omega)]
    congr 2
    have e : u * (256 ^ k * 2 ^ a) = 256 ^ j * (256 * (256 ^ (k - j - 1) * u * 2 ^ a)) := by
      have : (256 : Nat) ^ k = 256 ^ j * (256 * 256 ^ (k - j - 1)) := by
        rw [← Nat.pow_succ', ← Nat.pow_add]; congr 1; omega
      rw [this]; simp only [Nat.mul_assoc, Nat.mul_left_comm, Nat.mul_comm]
    rw [e, Nat.add_mul_div_left _ _ (Nat.pow_pos (by decide)), Nat.add_mul_mod_self_left]
  · by_cases h2 : j = k
    · subst h2
      rw [List.getElem?_set_self (by rw [leb_len]; omega), leb_at (by omega)]
      congr 2
      have e : u * (256 ^ j * 2 ^ a) = 256 ^ j * (u * 2 ^ a) := by simp only [Nat.mul_assoc, Nat.mul_left_comm, Nat.mul_comm]
      rw [e, Nat.add_mul_div_left _ _ (Nat.pow_pos (by decide))]
      have h3 : V / 256 ^ j < 2 ^ a := Nat.div_lt_of_lt_mul hV
      have h4 : (u + 1) * 2 ^ a ≤ 2 ^ (8 - a) * 2 ^ a := Nat.mul_le_mul_right _ hu
      rw [← Nat.pow_add, show 8 - a + a = 8 by omega, Nat.add_mul] at h4
      rw [Nat.mod_eq_of_lt (by omega)]
    · rw [List.getElem?_eq_none (by simp [leb_len]; omega), List.getElem?_eq_none (by rw [leb_len]; omega)]
end Go.Cor

namespace Go.Cor
open Go Go.RowKit
theorem num_leb (v m : Nat) : num (leb v m) = ((v % 256 ^ m : Nat) : Int) := by
  induction m with
  | zero => simp [leb, num, Nat.mod_one]
  | succ m ih =>
    rw [← leb_snoc, num_snoc, ih, leb_len, Nat.pow_succ, Nat.mod_mul]
    simp
end Go.Cor

namespace Go.Cor
def octets (n : Nat) : Nat := (n + 7) / 8
theorem pow_pos2 (k : Nat) : 0 < 2 ^ k := Nat.pow_pos (by decide)
/-- a row of numbers of one width, as one number -/
def pk (k : Nat) : List Int → Nat
  | [] => 0
  | u :: r => u.toNat + 2 ^ k * pk k r
def Fitl (k : Nat) (l : List Int) : Prop := ∀ u ∈ l, 0 ≤ u ∧ u.toNat < 2 ^ k
theorem pk_app (k : Nat) (l m : List Int) : pk k (l ++ m) = pk k l + 2 ^ (k * l.length) * pk k m := by
  induction l with
  | nil => simp [pk]
  | cons u r ih => simp only [List.cons_append, pk, ih, List.length_cons, Nat.mul_add, Nat.pow_add, Nat.mul_one, Nat.add_assoc, Nat.mul_assoc, Nat.mul_comm, Nat.mul_left_comm]
theorem pk_snoc (k : Nat) (l : List Int) (u : Int) : pk k (l ++ [u]) = pk k l + u.toNat * 2 ^ (k * l.length) := by rw [pk_app]; simp [pk, Nat.mul_comm]
theorem pk_take (k : Nat) {l : List Int} {i : Nat} (h : i < l.length) : pk k (l.take (i + 1)) = pk k (l.take i) + (l[i]?.getD 0).toNat * 2 ^ (k * i) := by
  rw [take_snoc h, pk_snoc, List.length_take, Nat.min_eq_left (by omega)]
theorem pk_lt {k : Nat} {l : List Int} (h : Fitl k l) : pk k l < 2 ^ (k * l.length) := by
  induction l with
  | nil => simp [pk]
  | cons u r ih =>
    have h1 := (h u (by simp)).2
    have h2 := ih fun x hx => h x (by simp [hx])
    rw [pk, List.length_cons, Nat.mul_add, Nat.mul_one, Nat.pow_add, Nat.mul_comm (2 ^ (k * r.length))]
    have h3 : 2 ^ k * (pk k r + 1) ≤ 2 ^ k * 2 ^ (k * r.length) := Nat.mul_le_mul_left _ h2
    rw [Nat.mul_add] at h3
    omega
theorem pk_get {k : Nat} : ∀ {l : List Int}, Fitl k l → ∀ {i : Nat}, i < l.length → pk k l / 2 ^ (k * i) % 2 ^ k = (l[i]?.getD 0).toNat
  | [], _, i, hi => by simp at hi
  | u :: r, h, 0, _ => by
    simp only [pk, Nat.mul_zero, Nat.pow_zero, Nat.div_one]
    rw [Nat.add_mul_mod_self_left, Nat.mod_eq_of_lt (h u (by simp)).2]; rfl
  | u :: r, h, i + 1, hi => by
    rw [pk, Nat.mul_add, Nat.mul_one, Nat.add_comm (k * i), Nat.pow_add, ← Nat.div_div_eq_div_mul, Nat.add_mul_div_left _ _ (pow_pos2 k), Nat.div_eq_of_lt (h u (by simp)).2, Nat.zero_add,
      pk_get (fun x hx => h x (by simp [hx])) (by simpa using hi)]
    rfl
/-- the numbers of a width of a number -/
def unp (k n V : Nat) : List Int := (List.range n).map fun i => ((V / 2 ^ (k * i) % 2 ^ k : Nat) : Int)
theorem unp_len (k n V : Nat) : (unp k n V).length = n := by simp [unp]
theorem unp_snoc (k n V : Nat) : unp k n V ++ [((V / 2 ^ (k * n) % 2 ^ k : Nat) : Int)] = unp k (n + 1) V := range_map_snoc _ n
theorem unp_fit (k n V : Nat) : Fitl k (unp k n V) := by
  intro u hu
  obtain ⟨i, _, rfl⟩ := List.mem_map.1 hu
  exact ⟨by omega, by rw [Int.toNat_natCast]; exact Nat.mod_lt _ (pow_pos2 k)⟩
theorem unp_pk {k : Nat} {l : List Int} (h : Fitl k l) : unp k l.length (pk k l) = l := by
  apply List.ext_getElem (by simp [unp])
  intro i h1 h2
  simp only [unp, List.getElem_map, List.getElem_range]
  rw [pk_get h h2, List.getElem?_eq_getElem h2, Option.getD_some]
  have := (h _ (List.getElem_mem h2)).1
  omega
theorem unp_mod (k n V m : Nat) (h : k * n ≤ m) : unp k n (V % 2 ^ m) = unp k n V := by
  unfold unp
  refine List.map_congr_left fun i hi => ?_
  have hi := List.mem_range.1 hi
  congr 1
  have h1 : k * i + k ≤ m := by have : k * (i + 1) ≤ k * n := Nat.mul_le_mul_left _ hi; rw [Nat.mul_add] at this; omega
  rw [show (2 : Nat) ^ m = 2 ^ (k * i) * 2 ^ (m - k * i) by rw [← Nat.pow_add]; congr 1; omega, Nat.mod_mul_right_div_self]
  exact Nat.mod_mod_of_dvd _ (Nat.pow_dvd_pow 2 (by omega))

/-- what packed bytes are -/
def packed (k : Nat) (l : List Int) : List Int := leb (pk k l) (octets (l.length * k))
/-- a row of bytes as a number -/
def nums (b : List Int) : Nat := (num b).toNat
theorem nums_eq {b : List Int} (h : By b) : ((nums b : Nat) : Int) = num b := by unfold nums; have := (num_bd h).1; omega
theorem nums_lt {b : List Int} (h : By b) : nums b < 256 ^ b.length := by
  have h1 := (num_bd h).2
  have h2 := nums_eq h
  have h3 : ((256 ^ b.length : Nat) : Int) = (256 : Int) ^ b.length := Int.natCast_pow 256 _
  omega
theorem nums_nil : nums [] = 0 := rfl
theorem nums_cons {x : Int} {r : List Int} (h : By (x :: r)) : nums (x :: r) = x.toNat + 256 * nums r := by
  have h1 := nums_eq h
  have h2 := nums_eq (b := r) fun y hy => h y (by simp [hy])
  have h3 := h x (by simp)
  rw [num] at h1
  omega
/-- a bit of bytes is a bit of their number -/
theorem nums_at : ∀ {b : List Int}, By b → ∀ {j : Nat}, j < b.length → nums b / 256 ^ j % 256 = (b[j]?.getD 0).toNat
  | [], _, j, hj => by simp at hj
  | x :: r, h, 0, _ => by
    have h3 := h x (by simp)
    rw [nums_cons h]; simp; omega
  | x :: r, h, j + 1, hj => by
    have h3 := h x (by simp)
    rw [nums_cons h, Nat.pow_succ, Nat.mul_comm (256 ^ j), ← Nat.div_div_eq_div_mul, show (x.toNat + 256 * nums r) / 256 = nums r by omega, nums_at (fun y hy => h y (by simp [hy])) (by simpa using hj)]
    rfl
theorem nums_packed {k : Nat} {l : List Int} (h : Fitl k l) : nums (packed k l) = pk k l := by
  unfold nums packed
  rw [num_leb, Int.toNat_natCast, Nat.mod_eq_of_lt]
  refine Nat.lt_of_lt_of_le (pk_lt h) ?_
  rw [two8]
  refine Nat.pow_le_pow_right (by decide) ?_
  unfold octets
  rw [Nat.mul_comm l.length]; omega
theorem packed_len (k : Nat) (l : List Int) : (packed k l).length = octets (l.length * k) := leb_len _ _
/-- the bits of bytes from a place on lie in one byte and in what follows -/
theorem bit_at {b : List Int} (h : By b) {j : Nat} (hj : j / 8 < b.length) : nums b / 2 ^ j % 2 = (b[j / 8]?.getD 0).toNat / 2 ^ (j % 8) % 2 := by
  rw [pow_split, ← Nat.div_div_eq_div_mul, ← nums_at h hj]
  obtain ⟨V, hV⟩ : ∃ V, nums b / 256 ^ (j / 8) = V := ⟨_, rfl⟩
  rw [hV]
  have h8 : j % 8 < 8 := Nat.mod_lt _ (by decide)
  rw [show (256 : Nat) = 2 ^ (j % 8) * 2 ^ (8 - j % 8) by rw [← Nat.pow_add, show j % 8 + (8 - j % 8) = 8 by omega], Nat.mod_mul_right_div_self]
  exact (Nat.mod_mod_of_dvd _ ⟨2 ^ (7 - j % 8), by rw [← Nat.pow_succ']; congr 1; omega⟩).symm
/-- some bits of one byte -/
theorem part_at {b : List Int} (h : By b) {j s : Nat} (hj : j / 8 < b.length) (hs : j % 8 + s ≤ 8) : (b[j / 8]?.getD 0).toNat / 2 ^ (j % 8) % 2 ^ s = nums b / 2 ^ j % 2 ^ s := by
  rw [pow_split j, ← Nat.div_div_eq_div_mul, ← nums_at h hj]
  obtain ⟨V, hV⟩ : ∃ V, nums b / 256 ^ (j / 8) = V := ⟨_, rfl⟩
  rw [hV]
  rw [show (256 : Nat) = 2 ^ (j % 8) * 2 ^ (8 - j % 8) by rw [← Nat.pow_add, show j % 8 + (8 - j % 8) = 8 by omega], Nat.mod_mul_right_div_self]
  exact Nat.mod_mod_of_dvd _ (Nat.pow_dvd_pow 2 (by omega))
/-- a number's bits, in two parts -/
theorem mod_split (x k s : Nat) : x % 2 ^ (k + s) = x % 2 ^ k + 2 ^ k * (x / 2 ^ k % 2 ^ s) := by rw [Nat.pow_add, Nat.mod_mul]

/-- bits as a number -/
def nbs : List Bool → Nat
  | [] => 0
  | x :: r => x.toNat + 2 * nbs r
def bitsOf (v : Nat) : Nat → List Bool
  | 0 => []
  | k + 1 => decide (v % 2 = 1) :: bitsOf (v / 2) k
theorem bitsOf_len (v k : Nat) : (bitsOf v k).length = k := by
  induction k generalizing v with
  | zero => rfl
  | succ k ih => simp [bitsOf, ih]
theorem nbs_app (l m : List Bool) : nbs (l ++ m) = nbs l + 2 ^ l.length * nbs m := by
  induction l with
  | nil => simp [nbs]
  | cons x r ih => simp only [List.cons_append, nbs, ih, List.length_cons, Nat.mul_add, Nat.pow_succ]; rw [Nat.mul_comm (2 ^ r.length) 2, Nat.mul_assoc]; omega
theorem nbs_bits (v k : Nat) : nbs (bitsOf v k) = v % 2 ^ k := by
  induction k generalizing v with
  | zero => simp [bitsOf, nbs, Nat.mod_one]
  | succ k ih =>
    rw [bitsOf, nbs, ih, Nat.pow_succ', Nat.mod_mul]
    by_cases h : v % 2 = 1
    · simp [h]
    · simp [h]; omega
theorem nbs_lt (l : List Bool) : nbs l < 2 ^ l.length := by
  induction l with
  | nil => simp [nbs]
  | cons x r ih =>
    rw [nbs, List.length_cons, Nat.pow_succ]
    cases x <;> simp <;> omega
theorem bitsOf_snoc (v k : Nat) : bitsOf v k ++ [decide (v / 2 ^ k % 2 = 1)] = bitsOf v (k + 1) := by
  induction k generalizing v with
  | zero => simp [bitsOf]
  | succ k ih => rw [bitsOf, List.cons_append, bitsOf, Nat.pow_succ', ← Nat.div_div_eq_div_mul, ih]
/-- the bits of a row of numbers -/
def bitl (k : Nat) (l : List Int) : List Bool := (l.map fun u => bitsOf u.toNat k).flatten
theorem bitl_len (k : Nat) (l : List Int) : (bitl k l).length = k * l.length := by
  induction l with
  | nil => rfl
  | cons u r ih => rw [bitl, List.map_cons, List.flatten_cons, List.length_append, bitsOf_len, ← bitl, ih, List.length_cons, Nat.mul_add]; omega
theorem bitl_snoc (k : Nat) {l : List Int} {i : Nat} (h : i < l.length) : bitl k (l.take i) ++ bitsOf (l[i]?.getD 0).toNat k = bitl k (l.take (i + 1)) := by
  unfold bitl; rw [take_snoc h]; simp
theorem nbs_bitl {k : Nat} {l : List Int} (h : Fitl k l) : nbs (bitl k l) = pk k l := by
  induction l with
  | nil => rfl
  | cons u r ih => rw [bitl, List.map_cons, List.flatten_cons, nbs_app, bitsOf_len, nbs_bits, ← bitl, ih fun x hx => h x (by simp [hx]), pk, Nat.mod_eq_of_lt (h u (by simp)).2]
theorem nbs_take {l : List Bool} {i : Nat} (h : i < l.length) : nbs (l.take (i + 1)) = nbs (l.take i) + (l[i]?.getD false).toNat * 2 ^ i := by
  rw [List.take_add_one, List.getElem?_eq_getElem h]
  simp only [Option.toList_some, Option.getD_some]
  rw [nbs_app, List.length_take, Nat.min_eq_left (by omega)]
  simp [nbs, Nat.mul_comm]
/-- a bit goes into a row of bytes -/
theorem leb_bit {V i u M : Nat} (hV : V < 2 ^ i) (hu : u < 2) (hM : i / 8 < M) :
    (leb V M).set (i / 8) ((V / 256 ^ (i / 8) % 256 + u * 2 ^ (i % 8) : Nat) : Int) = leb (V + u * 2 ^ i) M ∧ V / 256 ^ (i / 8) % 256 + u * 2 ^ (i % 8) < 256 := by
  have hp := pow_split i
  obtain ⟨k, hk⟩ : ∃ k, i / 8 = k := ⟨_, rfl⟩
  obtain ⟨a, ha⟩ : ∃ a, i % 8 = a := ⟨_, rfl⟩
  have ha8 : a < 8 := by omega
  rw [hk, ha] at hp ⊢
  rw [hk] at hM
  rw [hp] at hV ⊢
  have h3 : V / 256 ^ k < 2 ^ a := Nat.div_lt_of_lt_mul hV
  have h4 : 2 * 2 ^ a ≤ 256 := by rw [← Nat.pow_succ']; exact Nat.pow_le_pow_right (n := 2) (by decide) (show a + 1 ≤ 8 by omega)
  have h5 : u * 2 ^ a ≤ 2 ^ a := by have := Nat.mul_le_mul_right (2 ^ a) (show u ≤ 1 by omega); omega
  have h6 : V / 256 ^ k % 256 = V / 256 ^ k := Nat.mod_eq_of_lt (by omega)
  rw [h6]
  refine ⟨List.ext_getElem? fun j => ?_, by omega⟩
  have key : (V + u * (256 ^ k * 2 ^ a)) / 256 ^ k = V / 256 ^ k + u * 2 ^ a := by
    rw [show u * (256 ^ k * 2 ^ a) = 256 ^ k * (u * 2 ^ a) by simp only [Nat.mul_assoc, Nat.mul_left_comm, Nat.mul_comm], Nat.add_mul_div_left _ _ (Nat.pow_pos (by decide))]
  by_cases h1 : j < k
  · rw [List.getElem?_set_ne (by omega), leb_at (by omega), leb_at (by omega)]
    congr 2
    have e : u * (256 ^ k * 2 ^ a) = 256 ^ j * (256 * (256 ^ (k - j - 1) * u * 2 ^ a)) := by
      have : (256 : Nat) ^ k = 256 ^ j * (256 * 256 ^ (k - j - 1)) := by
        rw [← Nat.pow_succ', ← Nat.pow_add]; congr 1; omega
      rw [this]; simp only [Nat.mul_assoc, Nat.mul_left_comm, Nat.mul_comm]
    rw [e, Nat.add_mul_div_left _ _ (Nat.pow_pos (by decide)), Nat.add_mul_mod_self_left]
  · by_cases h2 : j = k
    · subst h2
      rw [List.getElem?_set_self (by rw [leb_len]; omega), leb_at (by omega), key]
      congr 2
      omega
    · by_cases h7 : j < M
      · have h8 : ∀ y : Nat, y / 256 ^ k < 256 → y / 256 ^ j = 0 := by
          intro y hy
          rw [show j = k + (j - k) by omega, Nat.pow_add, ← Nat.div_div_eq_div_mul, Nat.div_eq_of_lt]
          have h9 : 256 ^ 1 ≤ 256 ^ (j - k) := Nat.pow_le_pow_right (by decide) (by omega)
          omega
        rw [List.getElem?_set_ne (by omega), leb_at h7, leb_at h7, h8 V (by omega), h8 _ (by omega)]
      · rw [List.getElem?_eq_none (by simp [leb_len]; omega), List.getElem?_eq_none (by rw [leb_len]; omega)]
end Go.Cor

namespace Go.Cor
theorem shr_nat (v k : Nat) : (v : Int) / 2 ^ k = ((v / 2 ^ k : Nat) : Int) := by simp
theorem shr_nought (v k : Nat) : ((v : Int) / 2 ^ k == 0) = decide (v < 2 ^ k) := by
  rw [shr_nat, Bool.eq_iff_iff]
  simp only [beq_iff_eq, decide_eq_true_eq]
  have hp : 0 < 2 ^ k := Nat.pow_pos (by decide)
  rw [show (((v / 2 ^ k : Nat) : Int) = 0) ↔ v / 2 ^ k = 0 by omega, Nat.div_eq_zero_iff]
  omega
end Go.Cor
namespace Go.Proofs.Ytbfnaigefmdcdaa
open Go.RowKit Go.Cor Go.Free

theorem bwide_any (n : Int) (w : World) : Calls Try.prog 98 #[.int .i64 n] w fun e w' => e = .returned (.bool (decide (0 ≤ n ∧ n ≤ 64))) ∧ w = w' := by
  by_cases h1 : 0 ≤ n
  · by_cases h2 : n ≤ 64
    · rw [show decide (0 ≤ n ∧ n ≤ 64) = true by simp; omega]
      go_enter Try.func98, Try.ntmps98
      go_wp2
      go_ret
      exact ⟨rfl, rfl⟩
    · rw [show decide (0 ≤ n ∧ n ≤ 64) = false by simp; omega]
      go_enter Try.func98, Try.ntmps98
      go_wp2
      go_ret
      exact ⟨rfl, rfl⟩
  · rw [show decide (0 ≤ n ∧ n ≤ 64) = false by simp; omega]
    go_enter Try.func98, Try.ntmps98
    go_wp2
    go_ret
    exact ⟨rfl, rfl⟩
theorem rwide_any (n : Int) (w : World) : Calls Try.prog 79 #[.int .i64 n] w fun e w' => e = .returned (.bool (decide (0 ≤ n ∧ n ≤ 64))) ∧ w = w' := by
  by_cases h1 : 0 ≤ n
  · by_cases h2 : n ≤ 64
    · rw [show decide (0 ≤ n ∧ n ≤ 64) = true by simp; omega]
      go_enter Try.func79, Try.ntmps79
      go_wp2
      go_ret
      exact ⟨rfl, rfl⟩
    · rw [show decide (0 ≤ n ∧ n ≤ 64) = false by simp; omega]
      go_enter Try.func79, Try.ntmps79
      go_wp2
      go_ret
      exact ⟨rfl, rfl⟩
  · rw [show decide (0 ≤ n ∧ n ≤ 64) = false by simp; omega]
    go_enter Try.func79, Try.ntmps79
    go_wp2
    go_ret
    exact ⟨rfl, rfl⟩
theorem fits_any (v k : Nat) (hk : k ≤ 64) (hv : v < 2 ^ 64) (w : World) : Calls Try.prog 108 #[.int .u64 v, .int .i64 k] w fun e w' => e = .returned (.bool (decide (v < 2 ^ k))) ∧ w = w' := by
  by_cases h1 : k = 64
  · subst h1
    rw [decide_eq_true hv]
    go_enter Try.func108, Try.ntmps108
    go_wp2
    go_ret
    exact ⟨rfl, rfl⟩
  · have h2 : ((k : Int) == 64) = false := by simp; omega
    go_enter Try.func108, Try.ntmps108
    go_wp2
    go_ret
    exact ⟨ret_b (shr_nought v k), rfl⟩
end Go.Proofs.Ytbfnaigefmdcdaa

namespace Go.Proofs.Ytbfnaigefmdcdaa
open Go.RowKit Go.Cor Go.Free

set_option maxHeartbeats 1000000 in
theorem need_any (n k : Nat) (hn : n ≤ 1024) (hk : k ≤ 64) (w : World) : Calls Try.prog 99 #[.int .i64 n, .int .i64 k] w fun e w' => e = .returned (.int .i64 (octets (n * k) : Nat)) ∧ w = w' := by
  have hb := fun w => bwide_any (k : Int) w
  rw [show decide (0 ≤ (k : Int) ∧ (k : Int) ≤ 64) = true by simp; omega] at hb
  have HB := Lib.hid hb
  clear hb
  have hm : n * k ≤ 1024 * 64 := Nat.mul_le_mul hn hk
  have e0 : (n : Int) * (k : Int) = ((n * k : Nat) : Int) := by simp
  obtain ⟨q, hq⟩ : ∃ q, n * k = q := ⟨_, rfl⟩
  rw [hq] at hm e0 ⊢
  have e1 : IntKind.i64.wrap (q : Int) = (q : Int) := wrapi64_in _ (by omega) (by omega)
  have e2 : IntKind.i64.wrap ((q : Int) + 8) = (q : Int) + 8 := wrapi64_in _ (by omega) (by omega)
  have e3 : IntKind.i64.wrap ((q : Int) + 8 - 1) = (q : Int) + 7 := by rw [wrapi64_in _ (by omega) (by omega)]; omega
  have e4 : IntKind.i64.wrap (((q : Int) + 7).tdiv 8) = ((octets q : Nat) : Int) := by
    unfold octets
    rw [Int.tdiv_eq_ediv_of_nonneg (by omega), wrapi64_in _ (by omega) (by omega)]; omega
  clear hq
  go_enter Try.func99, Try.ntmps99
  go_wp2_with fail
  refine (HB.out _).mono ?_
  rintro e w' ⟨rfl, rfl⟩
  go_wp2
  go_ret
  exact ⟨ret_i (by unfold octets; omega), rfl⟩
set_option maxHeartbeats 1000000 in
theorem refFits_any (v k : Nat) (hk : k ≤ 64) (hv : (v : Int) ≤ 18446744073709551615) (w : World) : Calls Try.prog 65 #[.int .u64 v, .int .i64 k] w fun e w' => e = .returned (.bool (decide (v < 2 ^ k))) ∧ w = w' := by
  go_enter Try.func65, Try.ntmps65
  go_wp2
  go_loopg [0, 5] k (fun g v0 v5 wr => ∃ i u : Nat, v5 = .int .i64 i ∧ i ≤ k ∧ g = k - i ∧ v0 = .int .u64 u ∧ u = v / 2 ^ i ∧ w = wr)
  case atStart => exact ⟨0, v, rfl, by omega, by omega, rfl, by simp, rfl⟩
  case round =>
    obtain ⟨i, u, rfl, hi, rfl, rfl, hu, rfl⟩ := hrel
    by_cases hlt : i < k
    · have hu2 : u ≤ v := by rw [hu]; exact Nat.div_le_self _ _
      have e1 : IntKind.u64.wrap ((u : Int).tdiv 2) = ((u / 2 : Nat) : Int) := by rw [Int.tdiv_eq_ediv_of_nonneg (by omega), wrapu64_in _ (by omega) (by omega)]; omega
      have HU := Lib.hid (show u / 2 = v / 2 ^ (i + 1) by rw [hu, Nat.pow_succ, Nat.div_div_eq_div_mul])
      clear hu
      go_wp2
      go_roundg (k - (i + 1))
      case measure => omega
      case rel => exact ⟨i + 1, u / 2, by go_num, by omega, rfl, by first | rfl | (refine val_i ?_; omega), HU.out, rfl⟩
    · obtain rfl : i = k := by omega
      have HU := Lib.hid (show ((u : Int) == 0) = decide (v < 2 ^ i) by
        rw [hu, ← shr_nought, shr_nat])
      clear hu
      go_wp2
      go_ret
      exact ⟨ret_b HU.out, rfl⟩

/-- a writer at p of 'many' bits, the number V, its row the call's own from block B on -/
structure Wr (w : World) (B p V many : Nat) : Prop where
  blk : ∃ A c, w.heap[p]? = some (.cells #[.slice A (octets many) c, .int .i64 many] 131 (0, 0)) ∧ Owns w B 5 .u8 A (octets many) c (leb V (octets many)) ∧ ∀ b o, A = some ⟨b, o, none⟩ → b ≠ p
  own : B ≤ p
  lt : V < 2 ^ many
  small : many ≤ 65536
set_option maxHeartbeats 1000000 in
theorem newWriter_any (w : World) : Calls Try.prog 104 #[] w fun e w' => ∃ p, e = .returned (.pointer (some ⟨p, 0, none⟩)) ∧ Wr w' w.heap.size p 0 0 ∧ Below w.heap.size w w' := by
  go_enter Try.func104, Try.ntmps104
  go_wp2
  go_ret
  exact ⟨w.heap.size, rfl, ⟨⟨none, 0, heap_alloc_new w _, owns_nil _ _ _ _, fun _ _ h => by cases h⟩, Nat.le_refl _, by decide, by decide⟩, (Below.refl _ _).alloc (Nat.le_refl _) _⟩
set_option maxHeartbeats 1000000 in
theorem wbytes_any {w : World} {B p V many : Nat} (h : Wr w B p V many) : Calls Try.prog 106 #[.pointer (some ⟨p, 0, none⟩)] w (RetRow w.heap.size 5 .u8 w (leb V (octets many))) := by
  obtain ⟨A, c, hb, ho, _⟩ := h.blk
  have k0 : w.cell? ⟨p, 0, none⟩ = some (.slice A (octets many) c) := by simp [World.cell?, hb]
  have hsm := h.small
  have HC := Lib.hid (clone_any A (octets many) c _ w (Rd.own ho) (by unfold octets; omega))
  clear hb ho h
  go_enter Try.func106, Try.ntmps106
  go_wp2_with fail
  refine HC.out.mono ?_
  rintro e w' ⟨A', n', c', rfl, ho, hb⟩
  have HO := Lib.hid ho
  have HB := Lib.hid hb
  clear ho hb
  go_wp2
  go_ret
  exact ⟨A', n', c', rfl, HO.out, HB.out⟩
end Go.Proofs.Ytbfnaigefmdcdaa

namespace Go.Cor
open Go Go.RowKit
/-- one cell of a row that the call owns is written -/
theorem owns_put {w : World} {B k i : Nat} {E : TypeId} {kd : IntKind} {v : Value} {xs : List Int} {y : Int} (h : w.ownsRow B E 1 v k (xs.map (.int kd))) (hi : i < k) :
    ∃ g c, v = .slice (some ⟨g, 0, none⟩) k c ∧ B ≤ g ∧ g < w.heap.size ∧ w.cell? ⟨g, i, none⟩ = (xs[i]?).map (.int kd) ∧ w.frozen? ⟨g, i, none⟩ = false ∧ (w.setCell ⟨g, i, none⟩ (.int kd y)).ownsRow B E 1 v k ((xs.set i y).map (.int kd)) := by
  obtain ⟨hl, h2⟩ := h
  rcases h2 with ⟨_, rfl⟩ | ⟨g, c, cur, rfl, hB, hg, hnc, hcm, hcs, ht⟩
  · omega
  have hcur : i < cur.size := by omega
  rw [Nat.mul_one] at ht
  refine ⟨g, c, rfl, hB, lt_of_block hg, ?_, by simp [World.frozen?, hg], by simpa using hl, .inr ⟨g, c, cur.setIfInBounds i (.int kd y), rfl, hB, Joins.block_setCell hg _, hnc, hcm, by simpa using hcs, ?_⟩⟩
  · have e : (xs.map (Value.int kd))[i]? = cur[i]? := by
      rw [← ht, List.getElem?_take_of_lt hi]; simp
    rw [List.getElem?_map] at e
    simp [World.cell?, hg, e]
  · rw [Nat.mul_one, Array.toList_setIfInBounds, List.take_set, ht, List.map_set]
/-- a row that the call owns is no block of another type -/
theorem owns_ne {w : World} {B k p size : Nat} {E T : TypeId} {v : Value} {xs : List Value} {cs : Array Value} (h : w.ownsRow B E size v k xs) (hp : w.heap[p]? = some (.cells cs T (0, 0))) (hT : E ≠ T) : v.ownBlock ≠ some p := by
  intro e
  rcases h.2 with ⟨rfl, _⟩ | ⟨g, c, cur, rfl, _, hg, _⟩
  · cases e
  · injection e with e
    simp only at e
    subst e
    rw [hp] at hg
    injection hg with hg
    injection hg with _ h2
    exact hT h2.symm
end Go.Cor
namespace Go.Proofs.Ytbfnaigefmdcdaa
open Go.RowKit Go.Cor Go.Free

/-- a writer whose last byte stands open: the row has a byte for the next bit -/
def WrO (w : World) (B p V many : Nat) : Prop :=
  ∃ A c, w.heap[p]? = some (.cells #[.slice A (many / 8 + 1) c, .int .i64 many] 131 (0, 0)) ∧ Owns w B 5 .u8 A (many / 8 + 1) c (leb V (many / 8 + 1)) ∧ ∀ b o, A = some ⟨b, o, none⟩ → b ≠ p
theorem octets_open {m : Nat} (h : ¬ m % 8 = 0) : octets m = m / 8 + 1 := by unfold octets; omega
theorem octets_shut {m : Nat} (h : m % 8 = 0) : octets m = m / 8 := by unfold octets; omega
theorem Wr.opened {w : World} {B p V m : Nat} (h : Wr w B p V m) (hm : ¬ m % 8 = 0) : WrO w B p V m := by
  obtain ⟨A, c, hb, ho, hne⟩ := h.blk
  rw [octets_open hm] at hb ho
  exact ⟨A, c, hb, ho, hne⟩
end Go.Proofs.Ytbfnaigefmdcdaa
