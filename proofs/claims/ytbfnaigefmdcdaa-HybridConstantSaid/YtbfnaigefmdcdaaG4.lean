/-
  Bits as arithmetic: and with a mask, or of parts that lie apart, xor with nought and with all ones.
  Chapter 6, the plain part: widths, offsets, deltas, sums, the least.
  bytes.Clone; what the tables say of rows of bytes and numbers. (Printed by wip/genput.py.)
  Chapter 7: may a block have so many numbers?
  Slices of slices: s[l:j], s[l:], s[:j] read as parts of what s reads as. Nothing here speaks of a program.
  A codec, as an interface's value: Wrong, Told, Back, whatever the codec.
-/
import Derived.Laws.Entries
import Derived.Laws.Bits64
import Derived.Laws.World
import Derived.Lib.BitFns
import Derived.Test.YtbfnaigefmdcdaaRows
import Derived.WalkKit
import Derived.WalkSpells
import Derived.WalkLawsBesides
import Derived.ProofKit
import Derived.OpenShut
import Derived.Deep.Draws
import Derived.Laws.Slices
import Derived.Laws.Strings
import Derived.Test.YtbfnaigefmdcdaaG1
import Derived.Test.YtbfnaigefmdcdaaG3
namespace Go.Cor
open Go

theorem wrapu8 (x : Int) : IntKind.u8.wrap x = x % 256 := by simp [IntKind.wrap, IntKind.bits, IntKind.signed]
theorem wrapu16 (x : Int) : IntKind.u16.wrap x = x % 65536 := by simp [IntKind.wrap, IntKind.bits, IntKind.signed]
theorem wrapu32 (x : Int) : IntKind.u32.wrap x = x % 4294967296 := by simp [IntKind.wrap, IntKind.bits, IntKind.signed]
theorem wrapu64 (x : Int) : IntKind.u64.wrap x = x % 18446744073709551616 := by simp [IntKind.wrap, IntKind.bits, IntKind.signed]
theorem wrapi64 (x : Int) : IntKind.i64.wrap x = (x + 9223372036854775808) % 18446744073709551616 - 9223372036854775808 := by
  simp [IntKind.wrap, IntKind.bits, IntKind.signed]
  split <;> omega
theorem wrapi64_in (x : Int) (h1 : -9223372036854775808 ≤ x) (h2 : x ≤ 9223372036854775807) : IntKind.i64.wrap x = x := by rw [wrapi64]; omega
theorem wrapu64_in (x : Int) (h1 : 0 ≤ x) (h2 : x ≤ 18446744073709551615) : IntKind.u64.wrap x = x := by rw [wrapu64]; omega
theorem wrapu8_in (x : Int) (h1 : 0 ≤ x) (h2 : x ≤ 255) : IntKind.u8.wrap x = x := by rw [wrapu8]; omega

theorem bits_u8 (op : BinOp) (a b : Nat) (ha : a < 256) (hb : b < 256) : bits op .u8 a b = (match op with | .and => (a &&& b : Nat) | .or => (a ||| b : Nat) | .xor => (a ^^^ b : Nat) | _ => bits op .u8 a b) := by
  have ha' : (BitVec.ofInt IntKind.u8.bits (a : Int)).toNat = a := by simp [BitVec.ofInt, IntKind.bits]; omega
  have hb' : (BitVec.ofInt IntKind.u8.bits (b : Int)).toNat = b := by simp [BitVec.ofInt, IntKind.bits]; omega
  have hor := Nat.or_lt_two_pow (n := 8) ha hb
  have hxor := Nat.xor_lt_two_pow (n := 8) ha hb
  have hand : a &&& b ≤ a := Nat.and_le_left
  cases op <;> simp only [] <;> simp only [bits, BitVec.toNat_and, BitVec.toNat_or, BitVec.toNat_xor, ha', hb'] <;> rw [wrapu8] <;> omega
theorem bits_u64 (op : BinOp) (a b : Nat) (ha : a < 18446744073709551616) (hb : b < 18446744073709551616) : bits op .u64 a b = (match op with | .and => (a &&& b : Nat) | .or => (a ||| b : Nat) | .xor => (a ^^^ b : Nat) | _ => bits op .u64 a b) := by
  have ha' : (BitVec.ofInt IntKind.u64.bits (a : Int)).toNat = a := by simp [BitVec.ofInt, IntKind.bits]; omega
  have hb' : (BitVec.ofInt IntKind.u64.bits (b : Int)).toNat = b := by simp [BitVec.ofInt, IntKind.bits]; omega
  have hor := Nat.or_lt_two_pow (n := 64) ha hb
  have hxor := Nat.xor_lt_two_pow (n := 64) ha hb
  have hand : a &&& b ≤ a := Nat.and_le_left
  cases op <;> simp only [] <;> simp only [bits, BitVec.toNat_and, BitVec.toNat_or, BitVec.toNat_xor, ha', hb'] <;> rw [wrapu64] <;> omega

theorem and_mask_u8 (x : Int) (n : Nat) (hn : n ≤ 8) (h0 : 0 ≤ x) (h1 : x ≤ 255) : bits .and .u8 x (2 ^ n - 1) = x % 2 ^ n := by
  obtain ⟨a, rfl⟩ := Int.eq_ofNat_of_zero_le h0
  have hp : 2 ^ n ≤ 2 ^ 8 := Nat.pow_le_pow_right (by decide) hn
  have hp0 : 0 < 2 ^ n := Nat.two_pow_pos n
  have e : ((2 : Int) ^ n - 1) = ((2 ^ n - 1 : Nat) : Int) := by rw [Int.ofNat_sub hp0]; simp
  rw [e, bits_u8 .and a (2 ^ n - 1) (by omega) (by omega)]
  simp only [Nat.and_two_pow_sub_one_eq_mod]
  simp
theorem and_mask_u64 (x : Int) (n : Nat) (hn : n ≤ 64) (h0 : 0 ≤ x) (h1 : x ≤ 18446744073709551615) : bits .and .u64 x (2 ^ n - 1) = x % 2 ^ n := by
  obtain ⟨a, rfl⟩ := Int.eq_ofNat_of_zero_le h0
  have hp : 2 ^ n ≤ 2 ^ 64 := Nat.pow_le_pow_right (by decide) hn
  have hp0 : 0 < 2 ^ n := Nat.two_pow_pos n
  have e : ((2 : Int) ^ n - 1) = ((2 ^ n - 1 : Nat) : Int) := by rw [Int.ofNat_sub hp0]; simp
  rw [e, bits_u64 .and a (2 ^ n - 1) (by omega) (by omega)]
  simp only [Nat.and_two_pow_sub_one_eq_mod]
  simp
/-- the low part and the high part lie apart -/
theorem or_parts_u64 (x y : Int) (n : Nat) (hx0 : 0 ≤ x) (hx : x < 2 ^ n) (hy0 : 0 ≤ y) (h : x + 2 ^ n * y ≤ 18446744073709551615) : bits .or .u64 x (2 ^ n * y) = x + 2 ^ n * y := by
  obtain ⟨a, rfl⟩ := Int.eq_ofNat_of_zero_le hx0
  obtain ⟨b, rfl⟩ := Int.eq_ofNat_of_zero_le hy0
  have e : ((2 : Int) ^ n * (b : Int)) = ((2 ^ n * b : Nat) : Int) := by simp
  have ha : a < 2 ^ n := by
    have h2 : ((2 ^ n : Nat) : Int) = 2 ^ n := by simp
    omega
  rw [e] at h ⊢
  rw [bits_u64 .or a (2 ^ n * b) (by omega) (by omega)]
  simp only []
  rw [Nat.or_comm, ← Nat.two_pow_add_eq_or_of_lt ha]
  omega
theorem or_parts_u8 (x y : Int) (n : Nat) (hx0 : 0 ≤ x) (hx : x < 2 ^ n) (hy0 : 0 ≤ y) (h : x + 2 ^ n * y ≤ 255) : bits .or .u8 x (2 ^ n * y) = x + 2 ^ n * y := by
  obtain ⟨a, rfl⟩ := Int.eq_ofNat_of_zero_le hx0
  obtain ⟨b, rfl⟩ := Int.eq_ofNat_of_zero_le hy0
  have e : ((2 : Int) ^ n * (b : Int)) = ((2 ^ n * b : Nat) : Int) := by simp
  have ha : a < 2 ^ n := by
    have h2 : ((2 ^ n : Nat) : Int) = 2 ^ n := by simp
    omega
  rw [e] at h ⊢
  rw [bits_u8 .or a (2 ^ n * b) (by omega) (by omega)]
  simp only []
  rw [Nat.or_comm, ← Nat.two_pow_add_eq_or_of_lt ha]
  omega
theorem xor_zero_u64 (x : Int) (h0 : 0 ≤ x) (h1 : x ≤ 18446744073709551615) : bits .xor .u64 x 0 = x := by
  obtain ⟨a, rfl⟩ := Int.eq_ofNat_of_zero_le h0
  have := bits_u64 .xor a 0 (by omega) (by omega)
  simpa using this
theorem nat_xor_ones (a n : Nat) (h : a < 2 ^ n) : a ^^^ (2 ^ n - 1) = 2 ^ n - 1 - a := by
  apply Nat.eq_of_testBit_eq
  intro i
  rw [Nat.testBit_xor, Nat.testBit_two_pow_sub_one, Nat.sub_sub, Nat.add_comm, Nat.testBit_two_pow_sub_succ h]
  by_cases hi : i < n
  · simp [hi]
  · have : a.testBit i = false := Nat.testBit_lt_two_pow (Nat.lt_of_lt_of_le h (Nat.pow_le_pow_right (by decide) (by omega)))
    simp [hi, this]
theorem xor_ones_u64 (x : Int) (h0 : 0 ≤ x) (h1 : x ≤ 18446744073709551615) : bits .xor .u64 x 18446744073709551615 = 18446744073709551615 - x := by
  obtain ⟨a, rfl⟩ := Int.eq_ofNat_of_zero_le h0
  have h2 := bits_u64 .xor a 18446744073709551615 (by omega) (by omega)
  simp only [] at h2
  rw [show (18446744073709551615 : Nat) = 2 ^ 64 - 1 by decide, nat_xor_ones a 64 (by omega)] at h2
  rw [show ((2 ^ 64 - 1 : Nat) : Int) = 18446744073709551615 by decide] at h2
  rw [h2]; omega
theorem bits_xor_i64_zero (x : Int) (h0 : -9223372036854775808 ≤ x) (h1 : x ≤ 9223372036854775807) : bits .xor .i64 x 0 = x := by
  show IntKind.i64.wrap (((BitVec.ofInt 64 x ^^^ BitVec.ofInt 64 0).toNat : Nat) : Int) = x
  have e : BitVec.ofInt 64 0 = 0#64 := by decide
  rw [e, BitVec.xor_zero, wrapi64, BitVec.toNat_ofInt]
  omega
theorem bits_xor_i64_ones (x : Int) (h0 : -9223372036854775808 ≤ x) (h1 : x ≤ 9223372036854775807) : bits .xor .i64 x (-1) = -1 - x := by
  show IntKind.i64.wrap (((BitVec.ofInt 64 x ^^^ BitVec.ofInt 64 (-1)).toNat : Nat) : Int) = -1 - x
  have e : BitVec.ofInt 64 (-1) = BitVec.allOnes 64 := by decide
  rw [e, BitVec.xor_allOnes, wrapi64, BitVec.toNat_not, BitVec.toNat_ofInt]
  omega
end Go.Cor

namespace Go.Cor
open Go

theorem bitLenAux_nbits : ∀ (k v : Nat), v < 2 ^ k → Lib.bitLenAux k v = nbits v
  | 0, v, h => by have : v = 0 := by simpa using h
                  subst this; simp [Lib.bitLenAux, nbits_zero]
  | k + 1, v, h => by
    unfold Lib.bitLenAux
    by_cases h0 : v = 0
    · subst h0; simp [nbits_zero]
    · rw [nbits_pos (by omega), ← bitLenAux_nbits k (v / 2) (by rw [Nat.pow_succ] at h; omega)]
      simp [h0] <;> omega
theorem bitLen_nbits (v : Nat) (h : v < 18446744073709551616) : Lib.bitLen v = nbits v := bitLenAux_nbits 64 v h

/-- a number's width, as an int -/
def bw (v : Int) : Int := (nbits v.toNat : Int)
theorem bw_bound (v : Int) (h : v ≤ 18446744073709551615) : 0 ≤ bw v ∧ bw v ≤ 64 := by
  have := nbits_u64 v.toNat (by omega)
  unfold bw; omega

def w64 (x : Int) : Int := (x + 9223372036854775808) % 18446744073709551616 - 9223372036854775808
def wu64 (x : Int) : Int := x % 18446744073709551616
theorem w64_in (x : Int) (h1 : -9223372036854775808 ≤ x) (h2 : x ≤ 9223372036854775807) : w64 x = x := by unfold w64; omega
theorem w64_bd (x : Int) : -9223372036854775808 ≤ w64 x ∧ w64 x ≤ 9223372036854775807 := by unfold w64; omega
theorem wu64_bd (x : Int) : 0 ≤ wu64 x ∧ wu64 x ≤ 18446744073709551615 := by unfold wu64; omega

def offsets (f : Int) (l : List Int) : List Int := l.map fun v => wu64 (v - f)
def backs (f : Int) (l : List Int) : List Int := l.map fun x => w64 (x + f)
def delta (l : List Int) (k : Nat) : Int := w64 (l[k + 1]?.getD 0 - l[k]?.getD 0)
def deltas (l : List Int) : List Int := (List.range (l.length - 1)).map (delta l)
def sumAt (f : Int) (l : List Int) (i : Nat) : Int := w64 (f + (l.take i).sum)
def sums (f : Int) (l : List Int) : List Int := (List.range (l.length + 1)).map (sumAt f l)
def minOf (a : Int) (l : List Int) : Int := l.foldl min a
def least (l : List Int) : Int := minOf (l[0]?.getD 0) l
def most (l : List Int) : Int := l.foldl (fun m v => max m (bw v)) 0

theorem take_snoc {l : List Int} {k : Nat} (h : k < l.length) : l.take (k + 1) = l.take k ++ [l[k]?.getD 0] := by
  rw [List.take_add_one, List.getElem?_eq_getElem h]; simp
theorem map_take_snoc {l : List Int} {k : Nat} (g : Int → Int) (h : k < l.length) : (l.take k).map g ++ [g (l[k]?.getD 0)] = (l.take (k + 1)).map g := by
  rw [take_snoc h]; simp
theorem range_map_snoc (g : Nat → Int) (k : Nat) : (List.range k).map g ++ [g k] = (List.range (k + 1)).map g := by
  rw [List.range_succ]; simp
theorem minOf_snoc (a : Int) {l : List Int} {k : Nat} (h : k < l.length) : minOf a (l.take (k + 1)) = min (minOf a (l.take k)) (l[k]?.getD 0) := by
  unfold minOf; rw [take_snoc h, List.foldl_append]; rfl
theorem most_snoc {l : List Int} {k : Nat} (h : k < l.length) : most (l.take (k + 1)) = max (most (l.take k)) (bw (l[k]?.getD 0)) := by
  unfold most; rw [take_snoc h, List.foldl_append]; rfl
theorem sumAt_succ (f : Int) {l : List Int} {k : Nat} (h : k < l.length) : w64 (sumAt f l k + l[k]?.getD 0) = sumAt f l (k + 1) := by
  unfold sumAt
  rw [take_snoc h, List.sum_append]
  simp only [w64, List.sum_cons, List.sum_nil]
  omega
theorem sumAt_zero (f : Int) (l : List Int) (h1 : -9223372036854775808 ≤ f) (h2 : f ≤ 9223372036854775807) : sumAt f l 0 = f := by
  unfold sumAt; rw [w64_in _ (by simp; omega) (by simp; omega)]; simp

theorem minOf_le (a : Int) (l : List Int) : minOf a l ≤ a ∧ ∀ x ∈ l, minOf a l ≤ x := by
  induction l generalizing a with
  | nil => simp [minOf]
  | cons x r ih =>
    have := ih (min a x)
    unfold minOf at this ⊢
    simp only [List.foldl_cons, List.mem_cons, forall_eq_or_imp]
    refine ⟨by omega, by omega, this.2⟩
theorem minOf_mem (a : Int) (l : List Int) : minOf a l = a ∨ minOf a l ∈ l := by
  induction l generalizing a with
  | nil => simp [minOf]
  | cons x r ih =>
    have := ih (min a x)
    unfold minOf at this ⊢
    simp only [List.foldl_cons, List.mem_cons]
    rcases this with h | h
    · rw [h]; omega
    · exact .inr (.inr h)
theorem least_mem {l : List Int} (h : l ≠ []) : least l ∈ l := by
  unfold least
  cases l with
  | nil => exact absurd rfl h
  | cons x r =>
    rcases minOf_mem ((x :: r)[0]?.getD 0) (x :: r) with e | e
    · rw [e]; simp
    · exact e
theorem least_le {l : List Int} : ∀ x ∈ l, least l ≤ x := (minOf_le _ _).2

/-- numbers come back from their offsets -/
theorem backs_offsets (f : Int) (l : List Int) (h : ∀ x ∈ l, -9223372036854775808 ≤ x ∧ x ≤ 9223372036854775807) : backs f (offsets f l) = l := by
  unfold backs offsets
  rw [List.map_map]
  conv => rhs; rw [← List.map_id l]
  refine List.map_congr_left fun x hx => ?_
  have := h x hx
  simp only [Function.comp, w64, wu64, id]
  omega
theorem sums_len (f : Int) (l : List Int) : (sums f l).length = l.length + 1 := by simp [sums]
theorem sums_get (f : Int) (l : List Int) {k : Nat} (h : k ≤ l.length) : (sums f l)[k]? = some (sumAt f l k) := by
  unfold sums; rw [List.getElem?_map, List.getElem?_range (by omega)]; rfl
theorem deltas_sums (f : Int) (l : List Int) (h : ∀ x ∈ l, -9223372036854775808 ≤ x ∧ x ≤ 9223372036854775807) : deltas (sums f l) = l := by
  unfold deltas
  apply List.ext_getElem?
  intro k
  rw [sums_len, show l.length + 1 - 1 = l.length by omega, List.getElem?_map]
  by_cases hk : k < l.length
  · have hx := h l[k] (List.getElem_mem _)
    rw [List.getElem?_range hk, List.getElem?_eq_getElem hk]
    simp only [Option.map_some, delta]
    rw [sums_get f l (by omega), sums_get f l (by omega), Option.getD_some, Option.getD_some]
    rw [← sumAt_succ f hk, List.getElem?_eq_getElem hk, Option.getD_some]
    simp only [w64]
    congr 1
    omega
  · rw [List.getElem?_eq_none (by simp; omega), List.getElem?_eq_none (by omega)]; rfl
theorem sumAt_deltas (l : List Int) (h : ∀ x ∈ l, -9223372036854775808 ≤ x ∧ x ≤ 9223372036854775807) : ∀ k, k < l.length → sumAt (l[0]?.getD 0) (deltas l) k = l[k]?.getD 0
  | 0, hk => by
    have := h l[0] (List.getElem_mem _)
    rw [sumAt_zero _ _ (by rw [List.getElem?_eq_getElem hk]; exact this.1) (by rw [List.getElem?_eq_getElem hk]; exact this.2)]
  | k + 1, hk => by
    have ih := sumAt_deltas l h k (by omega)
    have h1 := h l[k + 1] (List.getElem_mem _)
    rw [← sumAt_succ _ (by unfold deltas; simp; omega), ih]
    have e : (deltas l)[k]?.getD 0 = delta l k := by unfold deltas; rw [List.getElem?_map, List.getElem?_range (by omega)]; rfl
    rw [e]
    unfold delta
    rw [List.getElem?_eq_getElem hk] at *
    simp only [Option.getD_some, w64]
    omega
theorem sums_deltas (l : List Int) (h : ∀ x ∈ l, -9223372036854775808 ≤ x ∧ x ≤ 9223372036854775807) (hl : l ≠ []) : sums (l[0]?.getD 0) (deltas l) = l := by
  have hp : 0 < l.length := List.length_pos_iff.2 hl
  apply List.ext_getElem?
  intro k
  have e : (deltas l).length + 1 = l.length := by unfold deltas; simp; omega
  by_cases hk : k < l.length
  · rw [sums_get _ _ (by omega), sumAt_deltas l h k hk, List.getElem?_eq_getElem hk]; rfl
  · rw [List.getElem?_eq_none (by rw [sums_len]; omega), List.getElem?_eq_none (by omega)]
end Go.Cor

namespace Go.Cor
open Go Go.RowKit Go.Free
theorem Owns.below {w w' : World} {B : Nat} {E : TypeId} {k : IntKind} {A : Option Addr} {n c : Nat} {xs : List Int} (h : Owns w B E k A n c xs) (hb : Below w.heap.size w w') : Owns w' B E k A n c xs :=
  owns_keep (S := fun _ _ => True) h (.of_below hb) (fun _ _ _ => trivial)
theorem owns_weak {w : World} {B B' : Nat} {E : TypeId} {size : Nat} {v : Value} {n : Nat} {xs : List Value} (h : w.ownsRow B E size v n xs) (hb : B' ≤ B) : w.ownsRow B' E size v n xs := by
  refine ⟨h.1, ?_⟩
  rcases h.2 with ⟨rfl, rfl⟩ | ⟨g, cap, cur, rfl, hB, hg, hnc, hcm, hcs, ht⟩
  · exact .inl ⟨rfl, rfl⟩
  · exact .inr ⟨g, cap, cur, rfl, Nat.le_trans hb hB, hg, hnc, hcm, hcs, ht⟩
theorem row_len {w : World} {B : Nat} {E : TypeId} {k : IntKind} {A : Option Addr} {n c : Nat} {xs : List Int} (h : Owns w B E k A n c xs) : xs.length = n := by
  have := h.1; simpa using this
theorem owns_start {w : World} {B : Nat} {E : TypeId} {k : IntKind} {A : Option Addr} {n c : Nat} {xs : List Int} (h : w.ownsRow B E 1 (.slice A (0 + n) c) (0 + n) ([] ++ xs.map (.int k))) : Owns w B E k A n c xs := by rw [Nat.zero_add] at h; exact h
/-- a number's bytes, the least first -/
def leb (v m : Nat) : List Int := (List.range m).map fun j => ((v / 256 ^ j % 256 : Nat) : Int)
theorem leb_len (v m : Nat) : (leb v m).length = m := by simp [leb]
theorem leb_snoc (v m : Nat) : leb v m ++ [((v / 256 ^ m % 256 : Nat) : Int)] = leb v (m + 1) := range_map_snoc _ m
theorem leb_bytes (v m : Nat) : ∀ x ∈ leb v m, 0 ≤ x ∧ x ≤ 255 := by
  intro x hx
  simp only [leb, List.mem_map] at hx
  obtain ⟨j, _, rfl⟩ := hx
  have := Nat.mod_lt (v / 256 ^ j) (show 0 < 256 by decide)
  omega
end Go.Cor
namespace Go.Proofs.Ytbfnaigefmdcdaa
open Go.RowKit Go.Cor Go.Free

theorem elemU8 : ElemT Try.prog 29 5 (.int .u8 0) 1 1 := ⟨Try.underlying29, by kernel_rfl, rfl, by decide⟩

set_option maxHeartbeats 1000000 in
theorem clone_any (A : Option Addr) (n c : Nat) (xs : List Int) (w : World) (h : Rd w .u8 A n c xs) (hn : n ≤ 1000000) :
    Calls Try.prog 73 #[.slice A n c] w (RetRow w.heap.size 5 .u8 w xs) := by
  cases A with
  | none =>
    have hc := h.nil rfl
    have hn0 : n = 0 := by have := h.cap; omega
    subst hc hn0
    have hx : xs = [] := List.eq_nil_of_length_eq_zero (by have := h.len; omega)
    subst hx
    have hnl := fun (w : World) => Lib.run_eql_slice_nil (P := Try.prog) w 29 5 none 0 0 0 0 Try.underlying29
    go_enter Try.func73, Try.ntmps73
    go_wp2
    go_ret
    exact ⟨none, 0, 0, rfl, owns_nil _ _ _ _, Below.refl _ _⟩
  | some ad =>
    have H := Lib.hid h
    have HN := Lib.hid hn
    clear h hn
    have hnl := fun (w : World) => Lib.run_eql_slice_nil (P := Try.prog) w 29 5 (some ad) n c 0 0 Try.underlying29
    go_enter Try.func73, Try.ntmps73
    go_wp2_with (at_builtin; refine wpList_append_r rfl rfl elemU8 (owns_lit0 (Nat.le_refl _)) rfl (Rd.toV (H.out.alloc _)) rfl ints_one (by have := HN.out; omega) (by have := HN.out; omega) (by simp) ?_; intro A' c' w' hown hg _)
    go_ret
    exact ⟨A', n, c', rfl, by simpa using hown, below_grown ((Below.refl _ _).alloc (Nat.le_refl _) _) (owns_lit0 (size := 1) (Nat.le_refl _)) hg (by simp)⟩

theorem elemI64 : ElemT Try.prog 22 2 (.int .i64 0) 1 8 := ⟨Try.underlying22, by kernel_rfl, rfl, by decide⟩
end Go.Proofs.Ytbfnaigefmdcdaa

namespace Go.Cor
def blk (n : Int) : Bool := decide (1 ≤ n ∧ n ≤ 1024)
end Go.Cor
namespace Go.Proofs.Ytbfnaigefmdcdaa
open Go.RowKit Go.Cor Go.Free

theorem block_any (n : Int) (w : World) : Calls Try.prog 46 #[.int .i64 n] w fun e w' => e = .returned (.bool (blk n)) ∧ w = w' := by
  by_cases h1 : 1 ≤ n
  · by_cases h2 : n ≤ 1024
    · have hb : blk n = true := by unfold blk; simp; omega
      rw [hb]
      clear hb
      go_enter Try.func46, Try.ntmps46
      go_wp2
      go_ret
      exact ⟨rfl, rfl⟩
    · have hb : blk n = false := by unfold blk; simp; omega
      rw [hb]
      clear hb
      go_enter Try.func46, Try.ntmps46
      go_wp2
      go_ret
      exact ⟨ret_b (by simp <;> omega), rfl⟩
  · have hb : blk n = false := by unfold blk; simp; omega
    rw [hb]
    clear hb
    go_enter Try.func46, Try.ntmps46
    go_wp2
    go_ret
    exact ⟨rfl, rfl⟩
theorem refBlock_any (n : Int) (w : World) : Calls Try.prog 37 #[.int .i64 n] w fun e w' => e = .returned (.bool (blk n)) ∧ w = w' := by
  by_cases h1 : 1 ≤ n
  · by_cases h2 : n ≤ 1024
    · have hb : blk n = true := by unfold blk; simp; omega
      rw [hb]
      clear hb
      go_enter Try.func37, Try.ntmps37
      go_wp2
      go_ret
      exact ⟨rfl, rfl⟩
    · have hb : blk n = false := by unfold blk; simp; omega
      rw [hb]
      clear hb
      go_enter Try.func37, Try.ntmps37
      go_wp2
      go_ret
      exact ⟨ret_b (by simp <;> omega), rfl⟩
  · have hb : blk n = false := by unfold blk; simp; omega
    rw [hb]
    clear hb
    go_enter Try.func37, Try.ntmps37
    go_wp2
    go_ret
    exact ⟨rfl, rfl⟩
end Go.Proofs.Ytbfnaigefmdcdaa

namespace Go.Cor
open Go Go.RowKit

theorem str_size (xs : List Int) : (strOfNums xs).size = xs.length := by simp [strOfNums, ByteArray.size]
/-- two strings of bytes are alike just where the bytes are -/
theorem str_beq {xs ys : List Int} (hx : ∀ x ∈ xs, 0 ≤ x ∧ x ≤ 255) (hy : ∀ x ∈ ys, 0 ≤ x ∧ x ≤ 255) : ((strOfNums xs).toList == (strOfNums ys).toList) = decide (xs = ys) := by
  rw [ByteArray.toList_eq, ByteArray.toList_eq, Bool.eq_iff_iff]
  simp only [beq_iff_eq, decide_eq_true_eq]
  exact ⟨fun e => strOfNums_inj hx hy (ByteArray.ext (Array.toList_inj.1 e)), fun e => by rw [e]⟩
theorem below_drewN {B : Nat} {w w' : World} (h : Below B w w') (k : Nat) : Below B w (w'.drewN k) := ⟨h.os, h.tape, h.output, h.size, h.block⟩

section
variable {w : World} {k : IntKind} {A : Option Addr} {n c : Nat} {xs : List Int} {vs : List Value} {s : Nat}
theorem RdV.sliced (h : RdV w s A n c vs) {l j : Nat} (hlj : l ≤ j) (hj : j ≤ n) : RdV w s (if c = l then A else A.map (·.add (l * s))) (j - l) (c - l) ((vs.drop (l * s)).take ((j - l) * s)) := by
  have hc := h.cap
  refine ⟨?_, by omega, by have := h.max; omega, ?_, fun hp => ?_⟩
  · have := h.len
    rw [List.length_take, List.length_drop, this, ← Nat.sub_mul]
    exact Nat.min_eq_left (Nat.mul_le_mul_right _ (by omega))
  · intro e
    split at e
    · omega
    · cases A with
      | none => have := h.nil rfl; omega
      | some a => simp at e
  · obtain ⟨b, o, rfl, hb, hg⟩ := h.get (by omega)
    rw [if_neg (by omega)]
    refine ⟨b, o + l * s, by simp [Addr.add], hb, fun i u hu => ?_⟩
    rw [List.getElem?_take] at hu
    split at hu
    · rw [List.getElem?_drop] at hu
      rw [Nat.add_assoc]; exact hg _ u hu
    · cases hu
theorem Rd.sliced (h : Rd w k A n c xs) {l j : Nat} (hlj : l ≤ j) (hj : j ≤ n) : Rd w k (if c = l then A else A.map (·.add (l * 1))) (j - l) (c - l) ((xs.drop l).take (j - l)) := by
  have hc := h.cap
  refine ⟨?_, by omega, by have := h.max; omega, ?_, fun hp => ?_⟩
  · have := h.len
    rw [List.length_take, List.length_drop, this]; omega
  · intro e
    split at e
    · omega
    · cases A with
      | none => have := h.nil rfl; omega
      | some a => simp at e
  · obtain ⟨b, o, rfl, hb, hg⟩ := h.get (by omega)
    rw [if_neg (by omega)]
    refine ⟨b, o + l, by simp [Addr.add], hb, fun i hi => ?_⟩
    rw [Nat.add_assoc, hg _ (by omega)]
    simp [List.getD_eq_getElem?_getD, List.getElem?_take, List.getElem?_drop, hi]
/-- s[l:], as the walk spells it -/
theorem Rd.tail (h : Rd w k A n c xs) {l : Nat} (hl : l ≤ n) : Rd w k (if c = l then A else A.map fun x => x.add l) (n - l) (c - l) (xs.drop l) := by
  have := h.sliced hl (Nat.le_refl n)
  rw [List.take_of_length_le (by have := h.len; simp; omega), Nat.mul_one] at this
  exact this
end
section
variable {P : Program} {w : World} {t e : TypeId} {z : Value} {size bytes : Nat} (ht : ElemT P t e z size bytes) (A : Option Addr) (n c : Nat)
include ht
theorem ElemT.elem : P.elem t = e := by simp [Program.elem, ht.und]
theorem ElemT.und' : P.underlying t = some (.slice (P.elem t)) := by rw [ht.elem]; exact ht.und
theorem ElemT.size' : (sizeOf (P.elem t)).run P w = .ok size w := by
  obtain ⟨i, hi, hz, hsize, hby⟩ := info_parts ht.info
  rw [ht.elem]; simp [sizeOf, typeInfo, hi, hsize]
theorem run_lh {l j : Nat} (hlj : l ≤ j) (hj : j ≤ c) (kl kh : IntKind) : (Instr.sliceAt t (.slice A n c) (some (.int kl l)) (some (.int kh j)) none).run P w = .ok (.slice (if c = l then A else A.map (·.add (l * size))) (j - l) (c - l)) w := by
  rw [run_sliceAt_slice _ _ _ _ _ _ ht.und', run_slice_lh _ _ _ _ _ ht.und' _ _ _ _ (by omega) (by omega) (by omega), ht.size']
  simp [Result.andThen, Go.sliced]
theorem run_l {l : Nat} (hl : l ≤ n) (kl : IntKind) : (Instr.sliceAt t (.slice A n c) (some (.int kl l)) none none).run P w = .ok (.slice (if c = l then A else A.map (·.add (l * size))) (n - l) (c - l)) w := by
  rw [run_sliceAt_slice _ _ _ _ _ _ ht.und', run_slice_l _ _ _ _ _ ht.und' _ _ (by omega) (by omega), ht.size']
  simp [Result.andThen, Go.sliced]
theorem run_h {j : Nat} (hj : j ≤ c) (kh : IntKind) : (Instr.sliceAt t (.slice A n c) none (some (.int kh j)) none).run P w = .ok (.slice A j c) w := by
  rw [run_sliceAt_slice _ _ _ _ _ _ ht.und', run_slice_h _ _ _ _ _ ht.und' _ _ (by omega) (by omega), ht.size']
  simp only [Result.andThen, Go.sliced, Int.toNat_natCast, Nat.sub_zero, Nat.zero_mul]
  split
  · rfl
  · cases A <;> simp [Addr.add]
end
/-- s[l:j] of numbers, on a walk -/
theorem wpList_slice_lh {P : Program} {w w0 : World} {ops : Array Oper} {rest : List Oper} {o : Oper} {a : Act} {Q : Exit → Act → World → Prop} (hgd : o.guard = none) {s lo hi : Operand} {t : TypeId}
    (ho : o.op = .slice t s (some lo) (some hi) none) {e : TypeId} {z : Value} {bytes : Nat} (ht : ElemT P t e z 1 bytes) {k : IntKind} {A : Option Addr} {n c : Nat} {xs : List Int} (hr : Rd w0 k A n c xs)
    (hs : a.eval s = .slice A n c) {kl kh : IntKind} {l j : Nat} (hl : a.eval lo = .int kl l) (hh : a.eval hi = .int kh j) (hlj : l ≤ j) (hj : j ≤ n)
    (h : ∀ A' c', Rd w0 k A' (j - l) c' ((xs.drop l).take (j - l)) → wpList P ops Q rest (a.put o.dst (.slice A' (j - l) c')) w) : wpList P ops Q (o :: rest) a w := by
  refine wpList_plain hgd fun K hK => ?_
  unfold Oper.wp execOp
  simp only [ho, Option.map, hs, hl, hh, Sem.run_bind, run_lh ht A n c hlj (Nat.le_trans hj hr.cap), Result.andThen_ok, Sem.run_pure]
  exact hK _ _ (h _ _ (hr.sliced hlj hj))
/-- s[l:] -/
theorem wpList_slice_l {P : Program} {w w0 : World} {ops : Array Oper} {rest : List Oper} {o : Oper} {a : Act} {Q : Exit → Act → World → Prop} (hgd : o.guard = none) {s lo : Operand} {t : TypeId}
    (ho : o.op = .slice t s (some lo) none none) {e : TypeId} {z : Value} {bytes : Nat} (ht : ElemT P t e z 1 bytes) {k : IntKind} {A : Option Addr} {n c : Nat} {xs : List Int} (hr : Rd w0 k A n c xs)
    (hs : a.eval s = .slice A n c) {kl : IntKind} {l : Nat} (hl : a.eval lo = .int kl l) (hj : l ≤ n)
    (h : ∀ A' c', Rd w0 k A' (n - l) c' (xs.drop l) → wpList P ops Q rest (a.put o.dst (.slice A' (n - l) c')) w) : wpList P ops Q (o :: rest) a w := by
  refine wpList_plain hgd fun K hK => ?_
  unfold Oper.wp execOp
  simp only [ho, Option.map, hs, hl, Sem.run_bind, run_l ht A n c hj, Result.andThen_ok, Sem.run_pure]
  have := hr.sliced hj (Nat.le_refl n)
  rw [List.take_of_length_le (by have := hr.len; simp; omega)] at this
  exact hK _ _ (h _ _ this)
/-- s[:j] -/
theorem wpList_slice_h {P : Program} {w w0 : World} {ops : Array Oper} {rest : List Oper} {o : Oper} {a : Act} {Q : Exit → Act → World → Prop} (hgd : o.guard = none) {s hi : Operand} {t : TypeId}
    (ho : o.op = .slice t s none (some hi) none) {e : TypeId} {z : Value} {bytes : Nat} (ht : ElemT P t e z 1 bytes) {k : IntKind} {A : Option Addr} {n c : Nat} {xs : List Int} (hr : Rd w0 k A n c xs)
    (hs : a.eval s = .slice A n c) {kh : IntKind} {j : Nat} (hh : a.eval hi = .int kh j) (hj : j ≤ n)
    (h : Rd w0 k A j c (xs.take j) → wpList P ops Q rest (a.put o.dst (.slice A j c)) w) : wpList P ops Q (o :: rest) a w := by
  refine wpList_plain hgd fun K hK => ?_
  unfold Oper.wp execOp
  simp only [ho, Option.map, hs, hh, Sem.run_bind, run_h ht A n c (Nat.le_trans hj hr.cap), Result.andThen_ok, Sem.run_pure]
  exact hK _ _ (h (hr.take hj))
end Go.Cor

namespace Go.Cor
/-- are numbers taken? -/
def tak (tk : List Int → Bool) (xs : List Int) : Bool := blk xs.length && tk xs
/-- what is wrong with a block -/
def wrg (tk : List Int → Bool) (xs : List Int) : Int := if blk xs.length then (if tk xs then 0 else 10) else 7
theorem wrg_tak {tk : List Int → Bool} {xs : List Int} (h : tak tk xs = true) : wrg tk xs = 0 := by
  unfold tak at h; unfold wrg; simp at h; simp [h]
theorem wrg_not {tk : List Int → Bool} {xs : List Int} (h : tak tk xs = false) : wrg tk xs ≠ 0 := by
  unfold tak at h; unfold wrg; simp at h; split
  · rename_i h1; rw [h h1]; decide
  · decide
end Go.Cor
namespace Go.Proofs.Ytbfnaigefmdcdaa
open Go.RowKit Go.Cor Go.Free

/-- a codec whose value is the empty struct: Takes -/
structure Taker (T : TypeId) (fT : FuncId) (tk : List Int → Bool) : Prop where
  m : ∀ w, (method 248 T (.agg #[]) "Takes").run Try.prog w = .ok (fT, .agg #[]) w
  e : ∀ args w, (callFunc fT args).run Try.prog w = .ok (.enter fT args) w
  c : ∀ w A n c xs, Rd w .i64 A n c xs → In .i64 xs → n ≤ 1100 → Calls Try.prog fT #[.agg #[], .slice A n c] w fun e w' => e = .returned (.bool (tak tk xs)) ∧ Below w.heap.size w w'

set_option maxRecDepth 100000 in
set_option maxHeartbeats 1000000 in
theorem wrongG {T : TypeId} {fT : FuncId} {tk : List Int → Bool} (C : Taker T fT tk) (A : Option Addr) (n c : Nat) (xs : List Int) (w : World) (h : Rd w .i64 A n c xs) (hi : In .i64 xs) (hn : n ≤ 1100) :
    Calls Try.prog 38 #[.iface T (.agg #[]), .slice A n c] w fun e w' => e = .returned (.int .i64 (wrg tk xs)) ∧ Below w.heap.size w w' := by
  have hlen := h.len
  have hb := block_any n
  have hm := C.m
  have he := C.e
  have HT := Lib.hid (C.c w A n c xs h hi hn)
  unfold tak at HT
  unfold wrg
  rw [hlen] at HT ⊢
  obtain ⟨q, hq⟩ : ∃ q, blk n = q := ⟨_, rfl⟩
  obtain ⟨r, hr⟩ : ∃ r, tk xs = r := ⟨_, rfl⟩
  rw [hq] at hb HT ⊢
  rw [hr] at HT ⊢
  have HB := Lib.hid hb
  clear h hi hb hq hr hlen
  cases q with
  | true =>
    cases r with
    | true =>
      go_enter Try.func38, Try.ntmps38
      go_wp2_with fail
      refine (HB.out w).mono ?_
      rintro e w' ⟨rfl, rfl⟩
      go_wp2_with fail
      refine HT.out.mono ?_
      rintro e w1 ⟨rfl, hb⟩
      go_wp2
      go_ret
      exact ⟨rfl, hb⟩
    | false =>
      go_enter Try.func38, Try.ntmps38
      go_wp2_with fail
      refine (HB.out w).mono ?_
      rintro e w' ⟨rfl, rfl⟩
      go_wp2_with fail
      refine HT.out.mono ?_
      rintro e w1 ⟨rfl, hb⟩
      go_wp2
      go_ret
      exact ⟨rfl, hb⟩
  | false =>
    go_enter Try.func38, Try.ntmps38
    go_wp2_with fail
    refine (HB.out w).mono ?_
    rintro e w' ⟨rfl, rfl⟩
    go_wp2
    go_ret
    exact ⟨rfl, Below.refl _ _⟩

/-- what Encode hands out -/
def EncG (B : Nat) (w : World) (tk : List Int → Bool) (enc : List Int → List Int) (xs : List Int) (e : Ending) (w' : World) : Prop :=
  ∃ A m c, e = .returned (.tuple #[.slice A m c, .int .i64 (wrg tk xs)]) ∧ Owns w' B 5 .u8 A m c (if tak tk xs then enc xs else []) ∧ Below B w w'
/-- Encode -/
structure Encer (T : TypeId) (fE : FuncId) (tk : List Int → Bool) (enc : List Int → List Int) : Prop where
  m : ∀ w, (method 248 T (.agg #[]) "Encode").run Try.prog w = .ok (fE, .agg #[]) w
  e : ∀ args w, (callFunc fE args).run Try.prog w = .ok (.enter fE args) w
  c : ∀ w A n c xs, Rd w .i64 A n c xs → In .i64 xs → n ≤ 1100 → Calls Try.prog fE #[.agg #[], .slice A n c] w (EncG w.heap.size w tk enc xs)
/-- Size -/
structure Sizer (T : TypeId) (fS : FuncId) (tk : List Int → Bool) (enc : List Int → List Int) : Prop where
  m : ∀ w, (method 248 T (.agg #[]) "Size").run Try.prog w = .ok (fS, .agg #[]) w
  e : ∀ args w, (callFunc fS args).run Try.prog w = .ok (.enter fS args) w
  c : ∀ w A n c xs, Rd w .i64 A n c xs → In .i64 xs → n ≤ 1100 → Calls Try.prog fS #[.agg #[], .slice A n c] w fun e w' => e = .returned (.int .i64 (if tak tk xs then ((enc xs).length : Int) else 0)) ∧ Below w.heap.size w w'

set_option maxRecDepth 100000 in
set_option maxHeartbeats 3000000 in
theorem toldG {T : TypeId} {fT fE fS : FuncId} {tk : List Int → Bool} {enc : List Int → List Int} (CT : Taker T fT tk) (CE : Encer T fE tk enc) (CS : Sizer T fS tk enc)
    (A : Option Addr) (n c : Nat) (xs : List Int) (w : World) (h : Rd w .i64 A n c xs) (hi : In .i64 xs) (hn : n ≤ 1100) (B : Option Addr) (m d : Nat) (ys : List Int) (hB : Rd w .u8 B m d ys) (hy : tak tk xs = true → ys = enc xs) (t : Bool) (ht : t = tk xs) :
    Calls Try.prog 15 #[.iface T (.agg #[]), .slice A n c, .bool t, .slice B m d] w fun e w' => e = .returned (.bool true) ∧ Below w.heap.size w w' := by
  have hlen := h.len
  have hb := refBlock_any n
  have m1 := CT.m
  have e1 := CT.e
  have m2 := CE.m
  have e2 := CE.e
  have m3 := CS.m
  have e3 := CS.e
  have hT := CT.c
  have hE := CE.c w A n c xs h hi hn
  have hS := CS.c
  have hW := wrongG CT A n c xs
  have hk : tak tk xs = (blk n && tk xs) := by unfold tak; rw [hlen]
  have hkw : wrg tk xs = if blk n then (if tk xs then 0 else 10) else 7 := by unfold wrg; rw [hlen]
  unfold EncG at hE
  obtain ⟨q, hq⟩ : ∃ q, blk n = q := ⟨_, rfl⟩
  obtain ⟨r, hr⟩ : ∃ r, tk xs = r := ⟨_, rfl⟩
  rw [hr] at ht
  subst ht
  rw [hq, hr] at hk hkw
  rw [hq] at hb
  have hT' := fun w A n c h hi hn => hT w A n c xs h hi hn
  have hS' := fun w A n c h hi hn => hS w A n c xs h hi hn
  rw [hk] at hT' hS' hE hy
  rw [hkw] at hE hW
  have HE := Lib.hid hE
  have HB := Lib.hid hb
  have HW := Lib.hid hW
  have HT := Lib.hid hT'
  have HS := Lib.hid hS'
  have HR := Lib.hid hB
  have HX := Lib.hid h
  have HI := Lib.hid hi
  have HY := Lib.hid hy
  clear hE hb hW hT hS hT' hS' hq hr h hB hi hy hk hkw hlen
  cases q with
  | true =>
    cases t with
    | true =>
      go_enter Try.func15, Try.ntmps15
      go_wp2_with fail
      refine HE.out.mono ?_
      rintro e w1 ⟨A1, m1', c1, rfl, hown, hb1⟩
      simp only [Bool.and_self, if_true] at hown ⊢
      have HO := Lib.hid (Rd.own hown)
      have HB1 := Lib.hid hb1
      clear hown hb1
      go_wp2_with fail
      refine (HB.out _).mono ?_
      rintro e w' ⟨rfl, rfl⟩
      go_wp2_with fail
      refine (HW.out _ (HX.out.below HB1.out) HI.out hn).mono ?_
      rintro e w2 ⟨rfl, hb2⟩
      have HO2 := Lib.hid (HO.out.below hb2)
      have HB2 := Lib.hid (HB1.out.trans (hb2.mono HB1.out.size))
      clear hb2
      go_wp2_with fail
      refine (HT.out _ _ _ _ (HX.out.below HB2.out) HI.out hn).mono ?_
      rintro e w3 ⟨rfl, hb3⟩
      have ho3 := HO2.out.below hb3
      have HB3 := Lib.hid (HB2.out.trans (hb3.mono HB2.out.size))
      have hcv := conv_bytes ho3 29 5 9 Try.underlying29 Try.underlying5 Try.underlying9
      have hcv2 := conv_bytes (HR.out.below HB3.out) 29 5 9 Try.underlying29 Try.underlying5 Try.underlying9
      rw [HY.out rfl] at hcv2
      have hml : m = (enc xs).length := by have := HR.out.len; rw [HY.out rfl] at this; exact this.symm
      have HM := Lib.hid hml
      clear hb3 ho3 hml
      go_wp2_with fail
      refine (HS.out _ _ _ _ (HX.out.below HB3.out) HI.out hn).mono ?_
      rintro e w4 ⟨rfl, hb4⟩
      go_wp2
      go_ret
      exact ⟨ret_b (by simp [HM.out]), HB3.out.trans (hb4.mono HB3.out.size)⟩
    | false =>
      go_enter Try.func15, Try.ntmps15
      go_wp2_with fail
      refine HE.out.mono ?_
      rintro e w1 ⟨A1, m1', c1, rfl, hown, hb1⟩
      simp only [Bool.and_false, Bool.false_eq_true, if_false] at hown ⊢
      obtain rfl : m1' = 0 := by have := hown.1; simpa using this.symm
      have HB1 := Lib.hid hb1
      clear hown hb1
      go_wp2_with fail
      refine (HB.out _).mono ?_
      rintro e w' ⟨rfl, rfl⟩
      go_wp2_with fail
      refine (HW.out _ (HX.out.below HB1.out) HI.out hn).mono ?_
      rintro e w2 ⟨rfl, hb2⟩
      have HB2 := Lib.hid (HB1.out.trans (hb2.mono HB1.out.size))
      clear hb2
      go_wp2_with fail
      refine (HT.out _ _ _ _ (HX.out.below HB2.out) HI.out hn).mono ?_
      rintro e w3 ⟨rfl, hb3⟩
      have HB3 := Lib.hid (HB2.out.trans (hb3.mono HB2.out.size))
      clear hb3
      go_wp2_with fail
      refine (HS.out _ _ _ _ (HX.out.below HB3.out) HI.out hn).mono ?_
      rintro e w4 ⟨rfl, hb4⟩
      go_wp2
      go_ret
      exact ⟨rfl, HB3.out.trans (hb4.mono HB3.out.size)⟩
  | false =>
    go_enter Try.func15, Try.ntmps15
    go_wp2_with fail
    refine HE.out.mono ?_
    rintro e w1 ⟨A1, m1', c1, rfl, hown, hb1⟩
    simp only [Bool.false_and, Bool.false_eq_true, if_false] at hown ⊢
    obtain rfl : m1' = 0 := by have := hown.1; simpa using this.symm
    have HB1 := Lib.hid hb1
    clear hown hb1
    go_wp2_with fail
    refine (HB.out _).mono ?_
    rintro e w' ⟨rfl, rfl⟩
    go_wp2_with fail
    refine (HW.out _ (HX.out.below HB1.out) HI.out hn).mono ?_
    rintro e w2 ⟨rfl, hb2⟩
    have HB2 := Lib.hid (HB1.out.trans (hb2.mono HB1.out.size))
    clear hb2
    go_wp2_with fail
    refine (HT.out _ _ _ _ (HX.out.below HB2.out) HI.out hn).mono ?_
    rintro e w3 ⟨rfl, hb3⟩
    have HB3 := Lib.hid (HB2.out.trans (hb3.mono HB2.out.size))
    clear hb3
    go_wp2_with fail
    refine (HS.out _ _ _ _ (HX.out.below HB3.out) HI.out hn).mono ?_
    rintro e w4 ⟨rfl, hb4⟩
    go_wp2
    go_ret
    exact ⟨rfl, HB3.out.trans (hb4.mono HB3.out.size)⟩
end Go.Proofs.Ytbfnaigefmdcdaa
