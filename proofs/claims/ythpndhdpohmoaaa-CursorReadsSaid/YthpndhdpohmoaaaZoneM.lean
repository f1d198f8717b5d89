/-
  Chapter 25, the plain part: the zone of numbers.
-/
import Derived.Test.YthpndhdpohmoaaaWidM
namespace Go.Cor
open Go
structure Zn where
  n : Int
  lo : Int
  hi : Int
  s : Int
def zjoin (a b : Zn) : Zn := ⟨w64 (a.n + b.n), min a.lo b.lo, max a.hi b.hi, w64 (a.s + b.s)⟩
def zone1 (x : Int) : Zn := ⟨1, x, x, x⟩
def maxOf (a : Int) (l : List Int) : Int := l.foldl max a
def znf (x0 : Int) (l : List Int) : Zn := ⟨l.length, minOf x0 l, maxOf x0 l, w64 l.sum⟩
/-- the zone of numbers -/
def zn (l : List Int) : Zn := if l.length = 0 then ⟨0, 0, 0, 0⟩ else znf (l[0]?.getD 0) l
theorem maxOf_snoc (a : Int) {l : List Int} {k : Nat} (h : k < l.length) : maxOf a (l.take (k + 1)) = max (maxOf a (l.take k)) (l[k]?.getD 0) := by
  unfold maxOf; rw [take_snoc h, List.foldl_append]; rfl
theorem znf_snoc (a : Int) {l : List Int} {k : Nat} (h : k < l.length) (hl : l.length ≤ 1000000) : znf a (l.take (k + 1)) = zjoin (znf a (l.take k)) (zone1 (l[k]?.getD 0)) := by
  unfold znf zjoin zone1
  simp only [minOf_snoc a h, maxOf_snoc a h, Zn.mk.injEq, true_and]
  rw [take_snoc h, List.length_append, List.sum_append, List.length_take]
  simp only [List.length_cons, List.length_nil, List.sum_cons, List.sum_nil, w64]
  omega
theorem znf_one (x : Int) (h1 : -9223372036854775808 ≤ x) (h2 : x ≤ 9223372036854775807) : znf x [x] = zone1 x := by
  unfold znf zone1 minOf maxOf
  simp only [List.length_cons, List.length_nil, List.foldl_cons, List.foldl_nil, List.sum_cons, List.sum_nil, Zn.mk.injEq]
  rw [w64_in _ (by omega) (by omega)]
  omega
theorem maxOf_le (a : Int) (l : List Int) : a ≤ maxOf a l ∧ ∀ x ∈ l, x ≤ maxOf a l := by
  induction l generalizing a with
  | nil => simp [maxOf]
  | cons x r ih =>
    have := ih (max a x)
    unfold maxOf at this ⊢
    simp only [List.foldl_cons, List.mem_cons, forall_eq_or_imp]
    refine ⟨by omega, by omega, this.2⟩
theorem maxOf_mem (a : Int) (l : List Int) : maxOf a l = a ∨ maxOf a l ∈ l := by
  induction l generalizing a with
  | nil => simp [maxOf]
  | cons x r ih =>
    have := ih (max a x)
    unfold maxOf at this ⊢
    simp only [List.foldl_cons, List.mem_cons]
    rcases this with h | h
    · rw [h]; omega
    · exact .inr (.inr h)
theorem zn_app {l m : List Int} (hl : 0 < l.length) (hm : 0 < m.length) (h1 : l.length ≤ 300) (h2 : m.length ≤ 300) : zjoin (zn l) (zn m) = zn (l ++ m) := by
  unfold zn
  rw [if_neg (by omega), if_neg (by omega), if_neg (by rw [List.length_append]; omega)]
  have e0 : (l ++ m)[0]?.getD 0 = l[0]?.getD 0 := by rw [List.getElem?_append_left hl]
  rw [e0]
  have hm0 : m[0]?.getD 0 ∈ m := by rw [List.getElem?_eq_getElem hm]; exact List.getElem_mem _
  unfold znf zjoin
  simp only [Zn.mk.injEq]
  refine ⟨by rw [List.length_append]; unfold w64; omega, ?_, ?_, ?_⟩
  · have e : minOf (l[0]?.getD 0) (l ++ m) = minOf (minOf (l[0]?.getD 0) l) m := by unfold minOf; rw [List.foldl_append]
    rw [e]
    generalize minOf (l[0]?.getD 0) l = a
    have a1 := minOf_le a m
    have a2 := minOf_mem a m
    have b1 := minOf_le (m[0]?.getD 0) m
    have b2 := minOf_mem (m[0]?.getD 0) m
    have b3 : minOf (m[0]?.getD 0) m ∈ m := by rcases b2 with e | e
                                               · rw [e]; exact hm0
                                               · exact e
    have c1 := a1.2 _ b3
    rcases a2 with e | e
    · omega
    · have := b1.2 _ e; omega
  · have e : maxOf (l[0]?.getD 0) (l ++ m) = maxOf (maxOf (l[0]?.getD 0) l) m := by unfold maxOf; rw [List.foldl_append]
    rw [e]
    generalize maxOf (l[0]?.getD 0) l = a
    have a1 := maxOf_le a m
    have a2 := maxOf_mem a m
    have b1 := maxOf_le (m[0]?.getD 0) m
    have b2 := maxOf_mem (m[0]?.getD 0) m
    have b3 : maxOf (m[0]?.getD 0) m ∈ m := by rcases b2 with e | e
                                               · rw [e]; exact hm0
                                               · exact e
    have c1 := a1.2 _ b3
    rcases a2 with e | e
    · omega
    · have := b1.2 _ e; omega
  · rw [List.sum_append]; unfold w64; omega
end Go.Cor
