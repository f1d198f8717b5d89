/-
  Bits as arithmetic: and with a mask, or of parts that lie apart, xor with nought and with all ones.
-/
import Derived.Laws.Entries
import Derived.Laws.Bits64
import Derived.Laws.World
namespace Go.Cor
open Go

theorem wrapu8 (x : Int) : IntKind.u8.wrap x = x % 256 := by simp [IntKind.wrap, IntKind.bits, IntKind.signed]
theorem wrapu16 (x : Int) : IntKind.u16.wrap x = x % 65536 := by simp [IntKind.wrap, IntKind.bits, IntKind.signed]
theorem wrapu32 (x : Int) : IntKind.u32.wrap x = x % 4294967296 := by simp [IntKind.wrap, IntKind.bits, IntKind.signed]
theorem wrapu64 (x : Int) : IntKind.u64.wrap x = x % 18446744073709551616 := by simp [IntKind.wrap, IntKind.bits, IntKind.signed]
theorem wrapi64 (x : Int) : IntKind.i64.wrap x = (x + 9223372036854775808) % 18446744073709551616 - 9223372036854775808 := by
  simp [IntKind.wrap, IntKind.bits, IntKind.signed]
  split <;> omega
theorem wrapi64_in (x : Int) (h1 : -9223372036854775808 ≤ x) (h2 : x ≤ 9223372036854775807) : IntKind.i64.wrap x = x := by rw [wrapi64]; omega
theorem wrapu64_in (x : Int) (h1 : 0 ≤ x) (h2 : x ≤ 18446744073709551615) : IntKind.u64.wrap x = x := by rw [wrapu64]; omega
theorem wrapu8_in (x : Int) (h1 : 0 ≤ x) (h2 : x ≤ 255) : IntKind.u8.wrap x = x := by rw [wrapu8]; omega

theorem bits_u8 (op : BinOp) (a b : Nat) (ha : a < 256) (hb : b < 256) : bits op .u8 a b = (match op with | .and => (a &&& b : Nat) | .or => (a ||| b : Nat) | .xor => (a ^^^ b : Nat) | _ => bits op .u8 a b) := by
  have ha' : (BitVec.ofInt IntKind.u8.bits (a : Int)).toNat = a := by simp [BitVec.ofInt, IntKind.bits]; omega
  have hb' : (BitVec.ofInt IntKind.u8.bits (b : Int)).toNat = b := by simp [BitVec.ofInt, IntKind.bits]; omega
  have hor := Nat.or_lt_two_pow (n := 8) ha hb
  have hxor := Nat.xor_lt_two_pow (n := 8) ha hb
  have hand : a &&& b ≤ a := Nat.and_le_left
  cases op <;> simp only [] <;> simp only [bits, BitVec.toNat_and, BitVec.toNat_or, BitVec.toNat_xor, ha', hb'] <;> rw [wrapu8] <;> omega
theorem bits_u64 (op : BinOp) (a b : Nat) (ha : a < 18446744073709551616) (hb : b < 18446744073709551616) : bits op .u64 a b = (match op with | .and => (a &&& b : Nat) | .or => (a ||| b : Nat) | .xor => (a ^^^ b : Nat) | _ => bits op .u64 a b) := by
  have ha' : (BitVec.ofInt IntKind.u64.bits (a : Int)).toNat = a := by simp [BitVec.ofInt, IntKind.bits]; omega
  have hb' : (BitVec.ofInt IntKind.u64.bits (b : Int)).toNat = b := by simp [BitVec.ofInt, IntKind.bits]; omega
  have hor := Nat.or_lt_two_pow (n := 64) ha hb
  have hxor := Nat.xor_lt_two_pow (n := 64) ha hb
  have hand : a &&& b ≤ a := Nat.and_le_left
  cases op <;> simp only [] <;> simp only [bits, BitVec.toNat_and, BitVec.toNat_or, BitVec.toNat_xor, ha', hb'] <;> rw [wrapu64] <;> omega

theorem and_mask_u8 (x : Int) (n : Nat) (hn : n ≤ 8) (h0 : 0 ≤ x) (h1 : x ≤ 255) : bits .and .u8 x (2 ^ n - 1) = x % 2 ^ n := by
  obtain ⟨a, rfl⟩ := Int.eq_ofNat_of_zero_le h0
  have hp : 2 ^ n ≤ 2 ^ 8 := Nat.pow_le_pow_right (by decide) hn
  have hp0 : 0 < 2 ^ n := Nat.two_pow_pos n
  have e : ((2 : Int) ^ n - 1) = ((2 ^ n - 1 : Nat) : Int) := by rw [Int.ofNat_sub hp0]; simp
  rw [e, bits_u8 .and a (2 ^ n - 1) (by omega) (by omega)]
  simp only [Nat.and_two_pow_sub_one_eq_mod]
  simp
theorem and_mask_u64 (x : Int) (n : Nat) (hn : n ≤ 64) (h0 : 0 ≤ x) (h1 : x ≤ 18446744073709551615) : bits .and .u64 x (2 ^ n - 1) = x % 2 ^ n := by
  obtain ⟨a, rfl⟩ := Int.eq_ofNat_of_zero_le h0
  have hp : 2 ^ n ≤ 2 ^ 64 := Nat.pow_le_pow_right (by decide) hn
  have hp0 : 0 < 2 ^ n := Nat.two_pow_pos n
  have e : ((2 : Int) ^ n - 1) = ((2 ^ n - 1 : Nat) : Int) := by rw [Int.ofNat_sub hp0]; simp
  rw [e, bits_u64 .and a (2 ^ n - 1) (by omega) (by omega)]
  simp only [Nat.and_two_pow_sub_one_eq_mod]
  simp
/-- the low part and the high part lie apart -/
theorem or_parts_u64 (x y : Int) (n : Nat) (hx0 : 0 ≤ x) (hx : x < 2 ^ n) (hy0 : 0 ≤ y) (h : x + 2 ^ n * y ≤ 18446744073709551615) : bits .or .u64 x (2 ^ n * y) = x + 2 ^ n * y := by
  obtain ⟨a, rfl⟩ := Int.eq_ofNat_of_zero_le hx0
  obtain ⟨b, rfl⟩ := Int.eq_ofNat_of_zero_le hy0
  have e : ((2 : Int) ^ n * (b : Int)) = ((2 ^ n * b : Nat) : Int) := by simp
  have ha : a < 2 ^ n := by
    have h2 : ((2 ^ n : Nat) : Int) = 2 ^ n := by simp
    omega
  rw [e] at h ⊢
  rw [bits_u64 .or a (2 ^ n * b) (by omega) (by omega)]
  simp only []
  rw [Nat.or_comm, ← Nat.two_pow_add_eq_or_of_lt ha]
  omega
theorem or_parts_u8 (x y : Int) (n : Nat) (hx0 : 0 ≤ x) (hx : x < 2 ^ n) (hy0 : 0 ≤ y) (h : x + 2 ^ n * y ≤ 255) : bits .or .u8 x (2 ^ n * y) = x + 2 ^ n * y := by
  obtain ⟨a, rfl⟩ := Int.eq_ofNat_of_zero_le hx0
  obtain ⟨b, rfl⟩ := Int.eq_ofNat_of_zero_le hy0
  have e : ((2 : Int) ^ n * (b : Int)) = ((2 ^ n * b : Nat) : Int) := by simp
  have ha : a < 2 ^ n := by
    have h2 : ((2 ^ n : Nat) : Int) = 2 ^ n := by simp
    omega
  rw [e] at h ⊢
  rw [bits_u8 .or a (2 ^ n * b) (by omega) (by omega)]
  simp only []
  rw [Nat.or_comm, ← Nat.two_pow_add_eq_or_of_lt ha]
  omega
theorem xor_zero_u64 (x : Int) (h0 : 0 ≤ x) (h1 : x ≤ 18446744073709551615) : bits .xor .u64 x 0 = x := by
  obtain ⟨a, rfl⟩ := Int.eq_ofNat_of_zero_le h0
  have := bits_u64 .xor a 0 (by omega) (by omega)
  simpa using this
theorem nat_xor_ones (a n : Nat) (h : a < 2 ^ n) : a ^^^ (2 ^ n - 1) = 2 ^ n - 1 - a := by
  apply Nat.eq_of_testBit_eq
  intro i
  rw [Nat.testBit_xor, Nat.testBit_two_pow_sub_one, Nat.sub_sub, Nat.add_comm, Nat.testBit_two_pow_sub_succ h]
  by_cases hi : i < n
  · simp [hi]
  · have : a.testBit i = false := Nat.testBit_lt_two_pow (Nat.lt_of_lt_of_le h (Nat.pow_le_pow_right (by decide) (by omega)))
    simp [hi, this]
theorem xor_ones_u64 (x : Int) (h0 : 0 ≤ x) (h1 : x ≤ 18446744073709551615) : bits .xor .u64 x 18446744073709551615 = 18446744073709551615 - x := by
  obtain ⟨a, rfl⟩ := Int.eq_ofNat_of_zero_le h0
  have h2 := bits_u64 .xor a 18446744073709551615 (by omega) (by omega)
  simp only [] at h2
  rw [show (18446744073709551615 : Nat) = 2 ^ 64 - 1 by decide, nat_xor_ones a 64 (by omega)] at h2
  rw [show ((2 ^ 64 - 1 : Nat) : Int) = 18446744073709551615 by decide] at h2
  rw [h2]; omega
theorem bits_xor_i64_zero (x : Int) (h0 : -9223372036854775808 ≤ x) (h1 : x ≤ 9223372036854775807) : bits .xor .i64 x 0 = x := by
  show IntKind.i64.wrap (((BitVec.ofInt 64 x ^^^ BitVec.ofInt 64 0).toNat : Nat) : Int) = x
  have e : BitVec.ofInt 64 0 = 0#64 := by decide
  rw [e, BitVec.xor_zero, wrapi64, BitVec.toNat_ofInt]
  omega
theorem bits_xor_i64_ones (x : Int) (h0 : -9223372036854775808 ≤ x) (h1 : x ≤ 9223372036854775807) : bits .xor .i64 x (-1) = -1 - x := by
  show IntKind.i64.wrap (((BitVec.ofInt 64 x ^^^ BitVec.ofInt 64 (-1)).toNat : Nat) : Int) = -1 - x
  have e : BitVec.ofInt 64 (-1) = BitVec.allOnes 64 := by decide
  rw [e, BitVec.xor_allOnes, wrapi64, BitVec.toNat_not, BitVec.toNat_ofInt]
  omega
end Go.Cor
