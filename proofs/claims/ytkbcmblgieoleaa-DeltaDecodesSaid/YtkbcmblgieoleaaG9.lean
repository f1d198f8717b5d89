/-
  bytes.Clone; what the tables say of rows of bytes and numbers. (Printed by wip/genput.py.)
  Chapter 7: may a block have so many numbers?
  The bytes of a number: cursor.put at its kinds, the reference's Put. (Printed by wip/genput.py.)
  Contracts: chapter 4's functions, the program's and the reference's.
-/
import Derived.Test.YtkbcmblgieoleaaRows
import Derived.WalkKit
import Derived.WalkSpells
import Derived.WalkLawsBesides
import Derived.ProofKit
import Derived.OpenShut
import Derived.Test.YtkbcmblgieoleaaG1
import Derived.Test.YtkbcmblgieoleaaG5
import Derived.Test.YtkbcmblgieoleaaG6
import Derived.Test.YtkbcmblgieoleaaG7
import Derived.Test.YtkbcmblgieoleaaG8
namespace Go.Cor
open Go Go.RowKit Go.Free
theorem Owns.below {w w' : World} {B : Nat} {E : TypeId} {k : IntKind} {A : Option Addr} {n c : Nat} {xs : List Int} (h : Owns w B E k A n c xs) (hb : Below w.heap.size w w') : Owns w' B E k A n c xs :=
  owns_keep (S := fun _ _ => True) h (.of_below hb) (fun _ _ _ => trivial)
theorem owns_weak {w : World} {B B' : Nat} {E : TypeId} {size : Nat} {v : Value} {n : Nat} {xs : List Value} (h : w.ownsRow B E size v n xs) (hb : B' ≤ B) : w.ownsRow B' E size v n xs := by
  refine ⟨h.1, ?_⟩
  rcases h.2 with ⟨rfl, rfl⟩ | ⟨g, cap, cur, rfl, hB, hg, hnc, hcm, hcs, ht⟩
  · exact .inl ⟨rfl, rfl⟩
  · exact .inr ⟨g, cap, cur, rfl, Nat.le_trans hb hB, hg, hnc, hcm, hcs, ht⟩
theorem row_len {w : World} {B : Nat} {E : TypeId} {k : IntKind} {A : Option Addr} {n c : Nat} {xs : List Int} (h : Owns w B E k A n c xs) : xs.length = n := by
  have := h.1; simpa using this
theorem owns_start {w : World} {B : Nat} {E : TypeId} {k : IntKind} {A : Option Addr} {n c : Nat} {xs : List Int} (h : w.ownsRow B E 1 (.slice A (0 + n) c) (0 + n) ([] ++ xs.map (.int k))) : Owns w B E k A n c xs := by rw [Nat.zero_add] at h; exact h
/-- a number's bytes, the least first -/
def leb (v m : Nat) : List Int := (List.range m).map fun j => ((v / 256 ^ j % 256 : Nat) : Int)
theorem leb_len (v m : Nat) : (leb v m).length = m := by simp [leb]
theorem leb_snoc (v m : Nat) : leb v m ++ [((v / 256 ^ m % 256 : Nat) : Int)] = leb v (m + 1) := range_map_snoc _ m
theorem leb_bytes (v m : Nat) : ∀ x ∈ leb v m, 0 ≤ x ∧ x ≤ 255 := by
  intro x hx
  simp only [leb, List.mem_map] at hx
  obtain ⟨j, _, rfl⟩ := hx
  have := Nat.mod_lt (v / 256 ^ j) (show 0 < 256 by decide)
  omega
end Go.Cor
namespace Go.Proofs.Ytkbcmblgieoleaa
open Go.RowKit Go.Cor Go.Free

theorem elemU8 : ElemT Try.prog 30 5 (.int .u8 0) 1 1 := ⟨Try.underlying30, by kernel_rfl, rfl, by decide⟩

set_option maxHeartbeats 1000000 in
theorem clone_any (A : Option Addr) (n c : Nat) (xs : List Int) (w : World) (h : Rd w .u8 A n c xs) (hn : n ≤ 1000000) :
    Calls Try.prog 103 #[.slice A n c] w (RetRow w.heap.size 5 .u8 w xs) := by
  cases A with
  | none =>
    have hc := h.nil rfl
    have hn0 : n = 0 := by have := h.cap; omega
    subst hc hn0
    have hx : xs = [] := List.eq_nil_of_length_eq_zero (by have := h.len; omega)
    subst hx
    have hnl := fun (w : World) => Lib.run_eql_slice_nil (P := Try.prog) w 30 5 none 0 0 0 0 Try.underlying30
    go_enter Try.func103, Try.ntmps103
    go_wp2
    go_ret
    exact ⟨none, 0, 0, rfl, owns_nil _ _ _ _, Below.refl _ _⟩
  | some ad =>
    have H := Lib.hid h
    have HN := Lib.hid hn
    clear h hn
    have hnl := fun (w : World) => Lib.run_eql_slice_nil (P := Try.prog) w 30 5 (some ad) n c 0 0 Try.underlying30
    go_enter Try.func103, Try.ntmps103
    go_wp2_with (at_builtin; refine wpList_append_r rfl rfl elemU8 (owns_lit0 (Nat.le_refl _)) rfl (Rd.toV (H.out.alloc _)) rfl ints_one (by have := HN.out; omega) (by have := HN.out; omega) (by simp) ?_; intro A' c' w' hown hg _)
    go_ret
    exact ⟨A', n, c', rfl, by simpa using hown, below_grown ((Below.refl _ _).alloc (Nat.le_refl _) _) (owns_lit0 (size := 1) (Nat.le_refl _)) hg (by simp)⟩

theorem elemI64 : ElemT Try.prog 22 2 (.int .i64 0) 1 8 := ⟨Try.underlying22, by kernel_rfl, rfl, by decide⟩
end Go.Proofs.Ytkbcmblgieoleaa

namespace Go.Cor
def blk (n : Int) : Bool := decide (1 ≤ n ∧ n ≤ 1024)
end Go.Cor
namespace Go.Proofs.Ytkbcmblgieoleaa
open Go.RowKit Go.Cor Go.Free

theorem block_any (n : Int) (w : World) : Calls Try.prog 60 #[.int .i64 n] w fun e w' => e = .returned (.bool (blk n)) ∧ w = w' := by
  by_cases h1 : 1 ≤ n
  · by_cases h2 : n ≤ 1024
    · have hb : blk n = true := by unfold blk; simp; omega
      rw [hb]
      clear hb
      go_enter Try.func60, Try.ntmps60
      go_wp2
      go_ret
      exact ⟨rfl, rfl⟩
    · have hb : blk n = false := by unfold blk; simp; omega
      rw [hb]
      clear hb
      go_enter Try.func60, Try.ntmps60
      go_wp2
      go_ret
      exact ⟨ret_b (by simp <;> omega), rfl⟩
  · have hb : blk n = false := by unfold blk; simp; omega
    rw [hb]
    clear hb
    go_enter Try.func60, Try.ntmps60
    go_wp2
    go_ret
    exact ⟨rfl, rfl⟩
theorem refBlock_any (n : Int) (w : World) : Calls Try.prog 50 #[.int .i64 n] w fun e w' => e = .returned (.bool (blk n)) ∧ w = w' := by
  by_cases h1 : 1 ≤ n
  · by_cases h2 : n ≤ 1024
    · have hb : blk n = true := by unfold blk; simp; omega
      rw [hb]
      clear hb
      go_enter Try.func50, Try.ntmps50
      go_wp2
      go_ret
      exact ⟨rfl, rfl⟩
    · have hb : blk n = false := by unfold blk; simp; omega
      rw [hb]
      clear hb
      go_enter Try.func50, Try.ntmps50
      go_wp2
      go_ret
      exact ⟨ret_b (by simp <;> omega), rfl⟩
  · have hb : blk n = false := by unfold blk; simp; omega
    rw [hb]
    clear hb
    go_enter Try.func50, Try.ntmps50
    go_wp2
    go_ret
    exact ⟨rfl, rfl⟩
end Go.Proofs.Ytkbcmblgieoleaa

namespace Go.Proofs.Ytkbcmblgieoleaa
open Go.RowKit Go.Cor Go.Free



set_option maxHeartbeats 1000000 in
theorem put64_any (A : Option Addr) (n c : Nat) (xs : List Int) (v m : Nat) (w : World) (h : Rd w .u8 A n c xs) (hn : n ≤ 100000) (_hv : (v : Int) ≤ 18446744073709551615) (hm : m ≤ 8) :
    Calls Try.prog 117 #[.slice A n c, .int .u64 v, .int .i64 m] w (RetRow w.heap.size 5 .u8 w (xs ++ leb v m)) := by
  have H := Lib.hid h
  clear h
  go_enter Try.func117, Try.ntmps117
  go_wp2_with fail
  refine (clone_any A n c xs w H.out (by omega)).mono ?_
  rintro e w1 ⟨A1, n1, c1, rfl, hown1, hb1⟩
  obtain rfl : n1 = n := by have := row_len hown1; have := H.out.len; omega
  have HO := Lib.hid hown1
  have HB := Lib.hid hb1
  clear hown1 hb1
  go_wp2
  go_loopw [7, 8, 12, 13, 14, 15, 16, 17, 18, 19, 20, 21, 22, 23] (fun v7 _ v12 _ _ _ _ _ _ _ _ _ _ _ wr => ∃ i : Nat, v12 = .int .i64 i ∧ i ≤ m ∧ ∃ A' c', v7 = .slice A' (n1 + i) c' ∧ Hid (Owns wr w.heap.size 5 .u8 A' (n1 + i) c' (xs ++ leb v i) ∧ Below w.heap.size w wr))
    (fun _ _ v12 _ _ _ _ _ _ _ _ _ _ _ _ => m - (intOf v12).toNat)
  case atStart => exact ⟨0, rfl, by omega, A1, c1, rfl, Lib.hid ⟨by simpa [leb] using HO.out, HB.out⟩⟩
  case round =>
    obtain ⟨i, rfl, hi, A', c', rfl, hI⟩ := hrel
    by_cases hlt : i < m
    · have hpow : (2 : Int) ^ (8 * i) = ((256 ^ i : Nat) : Int) := by rw [Int.natCast_pow, Int.pow_mul]; rfl
      go_wp2_with (at_builtin; refine wpList_append_r rfl rfl elemU8 (hI.out.1.alloc _) rfl (RdV.one (Box.new _ _ _)) rfl one_one (by omega) (by omega) (by have := hI.out.2.size; simp; omega) ?_; intro A2 c2 w2 hown hg _)
      go_roundw
      case rel =>
        refine ⟨i + 1, by go_num, by omega, A2, c2, rfl, Lib.hid ⟨?_, below_grown (hI.out.2.alloc hI.out.2.size _) (hI.out.1.alloc _) hg (by have := hI.out.2.size; simp; omega)⟩⟩
        have := owns_snoc hown
        rw [List.append_assoc] at this
        rw [← leb_snoc]
        exact this
      case measure => simp [intOf] <;> omega
    · go_wp2
      go_ret
      obtain rfl : i = m := by omega
      exact ⟨A', n1 + i, c', rfl, hI.out.1, hI.out.2⟩
theorem Put64_any (A : Option Addr) (n c : Nat) (xs : List Int) (v : Nat) (w : World) (h : Rd w .u8 A n c xs) (hn : n ≤ 100000) (hv : (v : Int) ≤ 18446744073709551615) :
    Calls Try.prog 75 #[.slice A n c, .int .u64 v] w (RetRow w.heap.size 5 .u8 w (xs ++ leb v 8)) := by
  have HC := Lib.hid (put64_any A n c xs v 8 w h hn hv (by decide))
  clear h
  go_enter Try.func75, Try.ntmps75
  go_wp2_with fail
  refine HC.out.mono ?_
  rintro e w1 ⟨A1, n1, c1, rfl, hown1, hb1⟩
  go_wp2
  go_ret
  exact ⟨A1, n1, c1, rfl, hown1, hb1⟩

set_option maxHeartbeats 1000000 in
theorem refPut_any (v m : Nat) (w : World) (hv : (v : Int) ≤ 18446744073709551615) (hm : m ≤ 8) :
    Calls Try.prog 119 #[.int .u64 v, .int .i64 m] w (RetRow w.heap.size 5 .u8 w (leb v m)) := by
  go_enter Try.func119, Try.ntmps119
  go_wp2
  go_loopw [0, 5, 6, 7, 8, 9, 10, 11, 12, 13, 14, 15, 16, 17, 18, 19] (fun v0 v5 v6 _ _ _ _ _ _ _ _ _ _ _ _ _ wr => ∃ i : Nat, v6 = .int .i64 i ∧ i ≤ m ∧ (∃ u : Nat, v0 = .int .u64 u ∧ (u : Int) ≤ 18446744073709551615 ∧ Hid (u = v / 256 ^ i)) ∧ ∃ A' c', v5 = .slice A' i c' ∧ Hid (Owns wr w.heap.size 5 .u8 A' i c' (leb v i) ∧ Below w.heap.size w wr))
    (fun _ _ v6 _ _ _ _ _ _ _ _ _ _ _ _ _ _ => m - (intOf v6).toNat)
  case atStart => exact ⟨0, rfl, by omega, ⟨v, rfl, hv, Lib.hid (by simp)⟩, none, 0, rfl, Lib.hid ⟨owns_nil _ _ _ _, Below.refl _ _⟩⟩
  case round =>
    obtain ⟨i, rfl, hi, ⟨u, rfl, hu, hU⟩, A', c', rfl, hI⟩ := hrel
    by_cases hlt : i < m
    · go_wp2_with (at_builtin; refine wpList_append_r rfl rfl elemU8 (hI.out.1.alloc _) rfl (RdV.one (Box.new _ _ _)) rfl one_one (by omega) (by omega) (by have := hI.out.2.size; simp; omega) ?_; intro A2 c2 w2 hown hg _)
      go_roundw
      case rel =>
        refine ⟨i + 1, by go_num, by omega, ⟨u / 256, val_i (by omega), by omega, Lib.hid (by rw [hU.out, Nat.div_div_eq_div_mul, Nat.pow_succ])⟩, A2, c2, rfl, Lib.hid ⟨?_, below_grown (hI.out.2.alloc hI.out.2.size _) (hI.out.1.alloc _) hg (by have := hI.out.2.size; simp; omega)⟩⟩
        have := owns_snoc hown
        rw [← leb_snoc, ← hU.out]
        exact this
      case measure => simp [intOf] <;> omega
    · go_wp2
      go_ret
      obtain rfl : i = m := by omega
      exact ⟨A', i, c', rfl, hI.out.1, hI.out.2⟩
end Go.Proofs.Ytkbcmblgieoleaa

namespace Go.Proofs.Ytkbcmblgieoleaa
open Go.RowKit Go.Cor

/-- one digit laid above what there is -/
theorem or_digit (acc x : Int) (k : Nat) (h0 : 0 ≤ acc) (h1 : acc < 128 ^ k) (hx0 : 0 ≤ x) (hx : x ≤ 255) (hk : k ≤ 9) (h9 : k = 9 → x ≤ 1) :
    bits .or .u64 acc (IntKind.u64.wrap (IntKind.u64.wrap (bits .and .u8 x 127) * 2 ^ (7 * k))) = acc + 128 ^ k * (x % 128) := by
  have e1 : bits .and .u8 x 127 = x % 128 := by have := and_mask_u8 x 7 (by decide) hx0 hx; simpa using this
  have e3 : (2 : Int) ^ (7 * k) = 128 ^ k := by rw [Int.pow_mul]; rfl
  have hp : (0 : Int) < 128 ^ k := Int.pow_pos (by decide)
  have hb : acc + 128 ^ k * (x % 128) ≤ 18446744073709551615 := by
    by_cases hk9 : k = 9
    · subst hk9; have := h9 rfl; omega
    · have : k = 0 ∨ k = 1 ∨ k = 2 ∨ k = 3 ∨ k = 4 ∨ k = 5 ∨ k = 6 ∨ k = 7 ∨ k = 8 := by omega
      rcases this with rfl | rfl | rfl | rfl | rfl | rfl | rfl | rfl | rfl <;> simp at h1 ⊢ <;> omega
  have hm : (0 : Int) ≤ 128 ^ k * (x % 128) := Int.mul_nonneg (by omega) (by omega)
  rw [e1, wrapu64_in (x % 128) (by omega) (by omega), e3, Int.mul_comm, wrapu64_in _ hm (by omega), ← e3]
  exact or_parts_u64 acc (x % 128) (7 * k) h0 (by rw [e3]; exact h1) (by omega) (by rw [e3]; exact hb)
theorem or_digit9 (acc x : Int) (h0 : 0 ≤ acc) (h1 : acc < 128 ^ 9) (hx0 : 0 ≤ x) (hx : x ≤ 1) :
    bits .or .u64 acc (IntKind.u64.wrap (IntKind.u64.wrap (bits .and .u8 x 127) * 9223372036854775808)) = acc + 128 ^ 9 * (x % 128) := by
  have := or_digit acc x 9 h0 h1 hx0 (by omega) (by decide) (fun _ => hx)
  rw [← this]; rfl

set_option maxHeartbeats 1000000 in
theorem get_any (A : Option Addr) (n c : Nat) (xs : List Int) (w : World) (h : Rd w .u8 A n c xs) (hb : ∀ x ∈ xs, 0 ≤ x ∧ x ≤ 255) :
    Calls Try.prog 96 #[.slice A n c] w fun e w' => e = .returned (.tuple #[.int .u64 (vget 0 xs).1, .int .i64 (vget 0 xs).2.1, .int .i64 (vget 0 xs).2.2]) ∧ w = w' := by
  have hn : n ≤ maxLen := Nat.le_trans h.cap h.max
  unfold maxLen at hn
  have H := Lib.hid h
  clear h
  have HB := Lib.hid hb
  clear hb
  go_enter Try.func96, Try.ntmps96
  go_wp2
  go_loop [5, 6, 7, 8, 11, 13, 14, 15, 12, 16, 17] (fun v6 i6 x7 l8 i11 _ _ _ _ _ _ => ∃ k : Nat, k ≤ n ∧ k ≤ 9 ∧ i11 = .int .i64 k ∧ ∃ acc : Int, v6 = .int .u64 acc ∧ 0 ≤ acc ∧ Hid (acc < 128 ^ k ∧ vget 0 xs = vlift acc k (vget k (xs.drop k))))
                 (fun _ _ _ _ i _ _ _ _ _ _ => n - (intOf i).toNat)
  case atStart => exact ⟨0, by omega, by omega, rfl, 0, rfl, by omega, Lib.hid ⟨by simp, by rw [List.drop_zero]; exact vget_start xs⟩⟩
  case round =>
    obtain ⟨k, hk, hk9, rfl, acc, rfl, hacc0, hI⟩ := hrel
    have h7 : (0 : Int) ≤ 7 * (k : Int) := by omega
    by_cases hlt : k < n
    · obtain ⟨b, o, rfl, _, hc⟩ := H.out.get (by omega)
      have hcell := hc k hlt
      clear hc
      have hl := H.out.len
      have hx := HB.out (xs[k]?.getD 0) (by rw [List.getElem?_eq_getElem (by omega)]; exact List.getElem_mem _)
      obtain ⟨hx0, hx1⟩ := hx
      have HL : Hid (k < xs.length) := by rw [hl]; exact hlt
      clear hl
      go_wp2
      · go_ret3; rw [get_over hI.out.2 HL.out (by omega) (by assumption)]; exact ⟨rfl, rfl⟩
      · go_ret3; rw [get_nought hI.out.2 HL.out (by omega) (by assumption)]; exact ⟨rfl, rfl⟩
      · obtain rfl : k = 9 := by omega
        go_ret3
        rw [get_last hI.out.2 HL.out (by omega) (by omega) (by omega)]
        exact ⟨ret3i (by rw [or_digit9 acc _ hacc0 hI.out.1 hx0 (by assumption)]; omega) rfl rfl, rfl⟩
      · go_ret3; rw [get_nought hI.out.2 HL.out (by omega) (by assumption)]; exact ⟨rfl, rfl⟩
      · obtain rfl : k = 0 := by omega
        have hz : xs[0]?.getD 0 = 0 := by assumption
        go_ret3
        rw [get_last hI.out.2 HL.out (by omega) (by omega) (by omega)]
        exact ⟨ret3i (by rw [or_digit acc 0 0 hacc0 hI.out.1 (by omega) (by omega) (by omega) (by omega), hz]; omega) rfl rfl, rfl⟩
      · go_ret3
        rw [get_last hI.out.2 HL.out (by omega) (by omega) (by omega)]
        exact ⟨ret3i (by rw [or_digit acc _ k hacc0 hI.out.1 hx0 hx1 hk9 (by omega), Int.emod_eq_of_lt hx0 (by assumption)]) rfl rfl, rfl⟩
      · have hg := get_on hI.out HL.out (by omega) (by omega) (by omega)
        have hm : (0 : Int) ≤ 128 ^ k * (xs[k]?.getD 0 % 128) := Int.mul_nonneg (Int.pow_nonneg (by decide)) (by omega)
        go_round
        case rel => exact ⟨k + 1, by omega, by omega, by go_num, _, val_i (or_digit acc _ k hacc0 hI.out.1 hx0 hx1 hk9 (by omega)), by omega, hg⟩
        case measure => simp [intOf] <;> omega
    · go_wp2
      go_ret3; rw [get_end hI.out.2 (by have := H.out.len; omega)]; exact ⟨rfl, rfl⟩

/-! ### zigzags -/
theorem zig_bits (v : Int) (h1 : -9223372036854775808 ≤ v) (h2 : v ≤ 9223372036854775807) :
    bits .xor .u64 (IntKind.u64.wrap (IntKind.u64.wrap v * 2)) (IntKind.u64.wrap (v / 9223372036854775808)) = zig v := by
  unfold zig
  simp only [wrapu64]
  split
  · have e : v / 9223372036854775808 % 18446744073709551616 = 0 := by omega
    rw [e, xor_zero_u64 _ (by omega) (by omega)]
    omega
  · have e : v / 9223372036854775808 % 18446744073709551616 = 18446744073709551615 := by omega
    rw [e, xor_ones_u64 _ (by omega) (by omega)]
    omega
theorem zag_bits (z : Int) (h1 : 0 ≤ z) (h2 : z ≤ 18446744073709551615) (y : Int) (hy : y = -(z % 2)) : bits .xor .i64 (z / 2) y = zag z := by
  subst hy
  unfold zag
  split
  · have e : z % 2 = 0 := by assumption
    rw [e]
    exact bits_xor_i64_zero _ (by omega) (by omega)
  · have e : z % 2 = 1 := by omega
    rw [e]
    rw [show (-(1 : Int)) = -1 from rfl, bits_xor_i64_ones _ (by omega) (by omega)]
    omega
set_option maxHeartbeats 400000 in
theorem zig_any (v : Int) (w : World) (h1 : -9223372036854775808 ≤ v) (h2 : v ≤ 9223372036854775807) :
    Calls Try.prog 38 #[.int .i64 v] w fun e w' => e = .returned (.int .u64 (zig v)) ∧ w = w' := by
  go_enter Try.func38, Try.ntmps38
  go_wp2
  go_ret
  exact ⟨ret_i (zig_bits v h1 h2), rfl⟩
set_option maxHeartbeats 400000 in
theorem zag_any (z : Int) (w : World) (h1 : 0 ≤ z) (h2 : z ≤ 18446744073709551615) :
    Calls Try.prog 99 #[.int .u64 z] w fun e w' => e = .returned (.int .i64 (zag z)) ∧ w = w' := by
  go_enter Try.func99, Try.ntmps99
  go_wp2
  go_ret
  refine ⟨ret_i (zag_bits z h1 h2 _ ?_), rfl⟩
  have e1 : bits .and .u64 z 1 = z % 2 := by have := and_mask_u64 z 1 (by decide) h1 h2; simpa using this
  rw [e1, IntWalk.wrap64_in (z % 2) ⟨by omega, by omega⟩, IntWalk.wrap64_in _ ⟨by omega, by omega⟩]
set_option maxHeartbeats 400000 in
theorem refZig_any (v : Int) (w : World) (h1 : -9223372036854775808 ≤ v) (h2 : v ≤ 9223372036854775807) :
    Calls Try.prog 17 #[.int .i64 v] w fun e w' => e = .returned (.int .u64 (zig v)) ∧ w = w' := by
  by_cases h : 0 ≤ v
  · go_enter Try.func17, Try.ntmps17
    go_wp2
    go_ret
    exact ⟨ret_i (by unfold zig; omega), rfl⟩
  · go_enter Try.func17, Try.ntmps17
    go_wp2
    go_ret
    exact ⟨ret_i (by unfold zig; omega), rfl⟩
set_option maxHeartbeats 400000 in
theorem refZag_any (z : Int) (w : World) (h1 : 0 ≤ z) (h2 : z ≤ 18446744073709551615) :
    Calls Try.prog 52 #[.int .u64 z] w fun e w' => e = .returned (.int .i64 (zag z)) ∧ w = w' := by
  by_cases h : z % 2 = 0
  · have H := Lib.hid h
    have hb : (z % 2 == 0) = true := by simp [h]
    clear h
    go_enter Try.func52, Try.ntmps52
    go_wp2
    go_ret
    exact ⟨ret_i (by have := H.out; unfold zag; omega), rfl⟩
  · have H := Lib.hid h
    have hb : (z % 2 == 0) = false := by simp; omega
    clear h
    go_enter Try.func52, Try.ntmps52
    go_wp2
    go_ret
    exact ⟨ret_i (by have := H.out; unfold zag; omega), rfl⟩

theorem vput_split (v : Nat) (h : 128 ≤ v) (pre : List Int) : pre ++ vput v = pre ++ [((v : Int) % 128 + 128)] ++ vput (v / 128) := by
  rw [vput_big h]; simp
set_option maxHeartbeats 1000000 in
theorem refVPut_any (v : Nat) (w : World) (h2 : (v : Int) ≤ 18446744073709551615) :
    Calls Try.prog 16 #[.int .u64 v] w (RetRow w.heap.size 5 .u8 w (vput v)) := by
  have hl : (vput v).length ≤ 10 := vput_len_u64 v (by omega)
  have HL := Lib.hid hl
  clear hl
  go_enter Try.func16, Try.ntmps16
  go_wp2
  go_loopw [0, 3, 4, 5, 6, 7, 8, 9, 10, 11, 12, 13, 14] (fun v0 o3 _ _ _ _ _ _ _ _ _ _ _ wr => ∃ u : Nat, v0 = .int .u64 u ∧ (u : Int) ≤ 18446744073709551615 ∧ ∃ A n c pre, o3 = .slice A n c ∧ Hid (Owns wr w.heap.size 5 .u8 A n c pre ∧ vput v = pre ++ vput u ∧ Below w.heap.size w wr))
    (fun v0 _ _ _ _ _ _ _ _ _ _ _ _ _ => (intOf v0).toNat)
  case atStart => exact ⟨v, rfl, h2, none, 0, 0, [], rfl, Lib.hid ⟨owns_nil _ _ _ _, rfl, Below.refl _ _⟩⟩
  case round =>
    obtain ⟨u, rfl, hu, A, n, c, pre, rfl, hI⟩ := hrel
    have hn : n ≤ 9 := by
      have h1 := hI.out.1.1
      have h2 := hI.out.2.1
      have h3 := HL.out
      have h4 := vput_pos u
      rw [h2, List.length_append] at h3
      simp at h1; omega
    by_cases hlt : 128 ≤ u
    · go_wp2_with (at_builtin; refine wpList_append_r rfl rfl elemU8 (hI.out.1.alloc _) rfl (RdV.one (Box.new _ _ _)) rfl one_one (by omega) (by omega) (by have := hI.out.2.2.size; simp; omega) ?_; intro A' c' w' hown hg _)
      go_roundw
      case rel =>
        exact ⟨u / 128, val_i (by omega), by omega, A', n + 1, c', pre ++ [(u : Int) % 128 + 128], rfl, Lib.hid ⟨owns_snoc hown, by rw [hI.out.2.1, vput_split u hlt], below_grown ((hI.out.2.2).alloc hI.out.2.2.size _) (hI.out.1.alloc _) hg (by have := hI.out.2.2.size; simp; omega)⟩⟩
      case measure => simp [intOf] <;> omega
    · go_wp2_with (at_builtin; refine wpList_append_r rfl rfl elemU8 (hI.out.1.alloc _) rfl (RdV.one (Box.new _ _ _)) rfl one_one (by omega) (by omega) (by have := hI.out.2.2.size; simp; omega) ?_; intro A' c' w' hown hg _)
      go_ret
      refine ⟨A', n + 1, c', rfl, ?_, below_grown ((hI.out.2.2).alloc hI.out.2.2.size _) (hI.out.1.alloc _) hg (by have := hI.out.2.2.size; simp; omega)⟩
      rw [hI.out.2.1, vput_small (by omega)]
      exact owns_snoc hown
end Go.Proofs.Ytkbcmblgieoleaa
