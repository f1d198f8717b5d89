/-
  Chapter 6, the plain part: widths, offsets, deltas, sums, the least.
-/
import Derived.Lib.BitFns
import Derived.Test.YtaohdbagcfgoeaaDoorG1
import Derived.Test.YtaohdbagcfgoeaaDoorG7
namespace Go.Cor
open Go

theorem bitLenAux_nbits : ∀ (k v : Nat), v < 2 ^ k → Lib.bitLenAux k v = nbits v
  | 0, v, h => by have : v = 0 := by simpa using h
                  subst this; simp [Lib.bitLenAux, nbits_zero]
  | k + 1, v, h => by
    unfold Lib.bitLenAux
    by_cases h0 : v = 0
    · subst h0; simp [nbits_zero]
    · rw [nbits_pos (by omega), ← bitLenAux_nbits k (v / 2) (by rw [Nat.pow_succ] at h; omega)]
      simp [h0] <;> omega
theorem bitLen_nbits (v : Nat) (h : v < 18446744073709551616) : Lib.bitLen v = nbits v := bitLenAux_nbits 64 v h

/-- a number's width, as an int -/
def bw (v : Int) : Int := (nbits v.toNat : Int)
theorem bw_bound (v : Int) (h : v ≤ 18446744073709551615) : 0 ≤ bw v ∧ bw v ≤ 64 := by
  have := nbits_u64 v.toNat (by omega)
  unfold bw; omega

def w64 (x : Int) : Int := (x + 9223372036854775808) % 18446744073709551616 - 9223372036854775808
def wu64 (x : Int) : Int := x % 18446744073709551616
theorem w64_in (x : Int) (h1 : -9223372036854775808 ≤ x) (h2 : x ≤ 9223372036854775807) : w64 x = x := by unfold w64; omega
theorem w64_bd (x : Int) : -9223372036854775808 ≤ w64 x ∧ w64 x ≤ 9223372036854775807 := by unfold w64; omega
theorem wu64_bd (x : Int) : 0 ≤ wu64 x ∧ wu64 x ≤ 18446744073709551615 := by unfold wu64; omega

def offsets (f : Int) (l : List Int) : List Int := l.map fun v => wu64 (v - f)
def backs (f : Int) (l : List Int) : List Int := l.map fun x => w64 (x + f)
def delta (l : List Int) (k : Nat) : Int := w64 (l[k + 1]?.getD 0 - l[k]?.getD 0)
def deltas (l : List Int) : List Int := (List.range (l.length - 1)).map (delta l)
def sumAt (f : Int) (l : List Int) (i : Nat) : Int := w64 (f + (l.take i).sum)
def sums (f : Int) (l : List Int) : List Int := (List.range (l.length + 1)).map (sumAt f l)
def minOf (a : Int) (l : List Int) : Int := l.foldl min a
def least (l : List Int) : Int := minOf (l[0]?.getD 0) l
def most (l : List Int) : Int := l.foldl (fun m v => max m (bw v)) 0

theorem take_snoc {l : List Int} {k : Nat} (h : k < l.length) : l.take (k + 1) = l.take k ++ [l[k]?.getD 0] := by
  rw [List.take_add_one, List.getElem?_eq_getElem h]; simp
theorem map_take_snoc {l : List Int} {k : Nat} (g : Int → Int) (h : k < l.length) : (l.take k).map g ++ [g (l[k]?.getD 0)] = (l.take (k + 1)).map g := by
  rw [take_snoc h]; simp
theorem range_map_snoc (g : Nat → Int) (k : Nat) : (List.range k).map g ++ [g k] = (List.range (k + 1)).map g := by
  rw [List.range_succ]; simp
theorem minOf_snoc (a : Int) {l : List Int} {k : Nat} (h : k < l.length) : minOf a (l.take (k + 1)) = min (minOf a (l.take k)) (l[k]?.getD 0) := by
  unfold minOf; rw [take_snoc h, List.foldl_append]; rfl
theorem most_snoc {l : List Int} {k : Nat} (h : k < l.length) : most (l.take (k + 1)) = max (most (l.take k)) (bw (l[k]?.getD 0)) := by
  unfold most; rw [take_snoc h, List.foldl_append]; rfl
theorem sumAt_succ (f : Int) {l : List Int} {k : Nat} (h : k < l.length) : w64 (sumAt f l k + l[k]?.getD 0) = sumAt f l (k + 1) := by
  unfold sumAt
  rw [take_snoc h, List.sum_append]
  simp only [w64, List.sum_cons, List.sum_nil]
  omega
theorem sumAt_zero (f : Int) (l : List Int) (h1 : -9223372036854775808 ≤ f) (h2 : f ≤ 9223372036854775807) : sumAt f l 0 = f := by
  unfold sumAt; rw [w64_in _ (by simp; omega) (by simp; omega)]; simp

theorem minOf_le (a : Int) (l : List Int) : minOf a l ≤ a ∧ ∀ x ∈ l, minOf a l ≤ x := by
  induction l generalizing a with
  | nil => simp [minOf]
  | cons x r ih =>
    have := ih (min a x)
    unfold minOf at this ⊢
    simp only [List.foldl_cons, List.mem_cons, forall_eq_or_imp]
    refine ⟨by omega, by omega, this.2⟩
theorem minOf_mem (a : Int) (l : List Int) : minOf a l = a ∨ minOf a l ∈ l := by
  induction l generalizing a with
  | nil => simp [minOf]
  | cons x r ih =>
    have := ih (min a x)
    unfold minOf at this ⊢
    simp only [List.foldl_cons, List.mem_cons]
    rcases this with h | h
    · rw [h]; omega
    · exact .inr (.inr h)
theorem least_mem {l : List Int} (h : l ≠ []) : least l ∈ l := by
  unfold least
  cases l with
  | nil => exact absurd rfl h
  | cons x r =>
    rcases minOf_mem ((x :: r)[0]?.getD 0) (x :: r) with e | e
    · rw [e]; simp
    · exact e
theorem least_le {l : List Int} : ∀ x ∈ l, least l ≤ x := (minOf_le _ _).2

/-- numbers come back from their offsets -/
theorem backs_offsets (f : Int) (l : List Int) (h : ∀ x ∈ l, -9223372036854775808 ≤ x ∧ x ≤ 9223372036854775807) : backs f (offsets f l) = l := by
  unfold backs offsets
  rw [List.map_map]
  conv => rhs; rw [← List.map_id l]
  refine List.map_congr_left fun x hx => ?_
  have := h x hx
  simp only [Function.comp, w64, wu64, id]
  omega
theorem sums_len (f : Int) (l : List Int) : (sums f l).length = l.length + 1 := by simp [sums]
theorem sums_get (f : Int) (l : List Int) {k : Nat} (h : k ≤ l.length) : (sums f l)[k]? = some (sumAt f l k) := by
  unfold sums; rw [List.getElem?_map, List.getElem?_range (by omega)]; rfl
theorem deltas_sums (f : Int) (l : List Int) (h : ∀ x ∈ l, -9223372036854775808 ≤ x ∧ x ≤ 9223372036854775807) : deltas (sums f l) = l := by
  unfold deltas
  apply List.ext_getElem?
  intro k
  rw [sums_len, show l.length + 1 - 1 = l.length by omega, List.getElem?_map]
  by_cases hk : k < l.length
  · have hx := h l[k] (List.getElem_mem _)
    rw [List.getElem?_range hk, List.getElem?_eq_getElem hk]
    simp only [Option.map_some, delta]
    rw [sums_get f l (by omega), sums_get f l (by omega), Option.getD_some, Option.getD_some]
    rw [← sumAt_succ f hk, List.getElem?_eq_getElem hk, Option.getD_some]
    simp only [w64]
    congr 1
    omega
  · rw [List.getElem?_eq_none (by simp; omega), List.getElem?_eq_none (by omega)]; rfl
theorem sumAt_deltas (l : List Int) (h : ∀ x ∈ l, -9223372036854775808 ≤ x ∧ x ≤ 9223372036854775807) : ∀ k, k < l.length → sumAt (l[0]?.getD 0) (deltas l) k = l[k]?.getD 0
  | 0, hk => by
    have := h l[0] (List.getElem_mem _)
    rw [sumAt_zero _ _ (by rw [List.getElem?_eq_getElem hk]; exact this.1) (by rw [List.getElem?_eq_getElem hk]; exact this.2)]
  | k + 1, hk => by
    have ih := sumAt_deltas l h k (by omega)
    have h1 := h l[k + 1] (List.getElem_mem _)
    rw [← sumAt_succ _ (by unfold deltas; simp; omega), ih]
    have e : (deltas l)[k]?.getD 0 = delta l k := by unfold deltas; rw [List.getElem?_map, List.getElem?_range (by omega)]; rfl
    rw [e]
    unfold delta
    rw [List.getElem?_eq_getElem hk] at *
    simp only [Option.getD_some, w64]
    omega
theorem sums_deltas (l : List Int) (h : ∀ x ∈ l, -9223372036854775808 ≤ x ∧ x ≤ 9223372036854775807) (hl : l ≠ []) : sums (l[0]?.getD 0) (deltas l) = l := by
  have hp : 0 < l.length := List.length_pos_iff.2 hl
  apply List.ext_getElem?
  intro k
  have e : (deltas l).length + 1 = l.length := by unfold deltas; simp; omega
  by_cases hk : k < l.length
  · rw [sums_get _ _ (by omega), sumAt_deltas l h k hk, List.getElem?_eq_getElem hk]; rfl
  · rw [List.getElem?_eq_none (by rw [sums_len]; omega), List.getElem?_eq_none (by omega)]
end Go.Cor
