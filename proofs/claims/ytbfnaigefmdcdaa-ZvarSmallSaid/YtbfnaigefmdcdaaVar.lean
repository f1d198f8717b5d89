/-
  Contracts: chapter 4's functions, the program's and the reference's.
-/
import Derived.Test.YtbfnaigefmdcdaaRows
import Derived.Test.YtbfnaigefmdcdaaApp
import Derived.Test.YtbfnaigefmdcdaaBits
import Derived.Test.YtbfnaigefmdcdaaVarM
import Derived.Test.YtbfnaigefmdcdaaClo
import Derived.WalkKit
import Derived.WalkSpells
import Derived.WalkLawsBesides
namespace Go.Proofs.Ytbfnaigefmdcdaa
open Go.RowKit Go.Cor

/-- one digit laid above what there is -/
theorem or_digit (acc x : Int) (k : Nat) (h0 : 0 ≤ acc) (h1 : acc < 128 ^ k) (hx0 : 0 ≤ x) (hx : x ≤ 255) (hk : k ≤ 9) (h9 : k = 9 → x ≤ 1) :
    bits .or .u64 acc (IntKind.u64.wrap (IntKind.u64.wrap (bits .and .u8 x 127) * 2 ^ (7 * k))) = acc + 128 ^ k * (x % 128) := by
  have e1 : bits .and .u8 x 127 = x % 128 := by have := and_mask_u8 x 7 (by decide) hx0 hx; simpa using this
  have e3 : (2 : Int) ^ (7 * k) = 128 ^ k := by rw [Int.pow_mul]; rfl
  have hp : (0 : Int) < 128 ^ k := Int.pow_pos (by decide)
  have hb : acc + 128 ^ k * (x % 128) ≤ 18446744073709551615 := by
    by_cases hk9 : k = 9
    · subst hk9; have := h9 rfl; omega
    · have : k = 0 ∨ k = 1 ∨ k = 2 ∨ k = 3 ∨ k = 4 ∨ k = 5 ∨ k = 6 ∨ k = 7 ∨ k = 8 := by omega
      rcases this with rfl | rfl | rfl | rfl | rfl | rfl | rfl | rfl | rfl <;> simp at h1 ⊢ <;> omega
  have hm : (0 : Int) ≤ 128 ^ k * (x % 128) := Int.mul_nonneg (by omega) (by omega)
  rw [e1, wrapu64_in (x % 128) (by omega) (by omega), e3, Int.mul_comm, wrapu64_in _ hm (by omega), ← e3]
  exact or_parts_u64 acc (x % 128) (7 * k) h0 (by rw [e3]; exact h1) (by omega) (by rw [e3]; exact hb)
theorem or_digit9 (acc x : Int) (h0 : 0 ≤ acc) (h1 : acc < 128 ^ 9) (hx0 : 0 ≤ x) (hx : x ≤ 1) :
    bits .or .u64 acc (IntKind.u64.wrap (IntKind.u64.wrap (bits .and .u8 x 127) * 9223372036854775808)) = acc + 128 ^ 9 * (x % 128) := by
  have := or_digit acc x 9 h0 h1 hx0 (by omega) (by decide) (fun _ => hx)
  rw [← this]; rfl

set_option maxHeartbeats 1000000 in
theorem get_any (A : Option Addr) (n c : Nat) (xs : List Int) (w : World) (h : Rd w .u8 A n c xs) (hb : ∀ x ∈ xs, 0 ≤ x ∧ x ≤ 255) :
    Calls Try.prog 58 #[.slice A n c] w fun e w' => e = .returned (.tuple #[.int .u64 (vget 0 xs).1, .int .i64 (vget 0 xs).2.1, .int .i64 (vget 0 xs).2.2]) ∧ w = w' := by
  have hn : n ≤ maxLen := Nat.le_trans h.cap h.max
  unfold maxLen at hn
  have H := Lib.hid h
  clear h
  have HB := Lib.hid hb
  clear hb
  go_enter Try.func58, Try.ntmps58
  go_wp2
  go_loop [5, 6, 7, 8, 11, 13, 14, 15, 12, 16, 17] (fun v6 i6 x7 l8 i11 _ _ _ _ _ _ => ∃ k : Nat, k ≤ n ∧ k ≤ 9 ∧ i11 = .int .i64 k ∧ ∃ acc : Int, v6 = .int .u64 acc ∧ 0 ≤ acc ∧ Hid (acc < 128 ^ k ∧ vget 0 xs = vlift acc k (vget k (xs.drop k))))
                 (fun _ _ _ _ i _ _ _ _ _ _ => n - (intOf i).toNat)
  case atStart => exact ⟨0, by omega, by omega, rfl, 0, rfl, by omega, Lib.hid ⟨by simp, by rw [List.drop_zero]; exact vget_start xs⟩⟩
  case round =>
    obtain ⟨k, hk, hk9, rfl, acc, rfl, hacc0, hI⟩ := hrel
    have h7 : (0 : Int) ≤ 7 * (k : Int) := by omega
    by_cases hlt : k < n
    · obtain ⟨b, o, rfl, _, hc⟩ := H.out.get (by omega)
      have hcell := hc k hlt
      clear hc
      have hl := H.out.len
      have hx := HB.out (xs[k]?.getD 0) (by rw [List.getElem?_eq_getElem (by omega)]; exact List.getElem_mem _)
      obtain ⟨hx0, hx1⟩ := hx
      have HL : Hid (k < xs.length) := by rw [hl]; exact hlt
      clear hl
      go_wp2
      · go_ret3; rw [get_over hI.out.2 HL.out (by omega) (by assumption)]; exact ⟨rfl, rfl⟩
      · go_ret3; rw [get_nought hI.out.2 HL.out (by omega) (by assumption)]; exact ⟨rfl, rfl⟩
      · obtain rfl : k = 9 := by omega
        go_ret3
        rw [get_last hI.out.2 HL.out (by omega) (by omega) (by omega)]
        exact ⟨ret3i (by rw [or_digit9 acc _ hacc0 hI.out.1 hx0 (by assumption)]; omega) rfl rfl, rfl⟩
      · go_ret3; rw [get_nought hI.out.2 HL.out (by omega) (by assumption)]; exact ⟨rfl, rfl⟩
      · obtain rfl : k = 0 := by omega
        have hz : xs[0]?.getD 0 = 0 := by assumption
        go_ret3
        rw [get_last hI.out.2 HL.out (by omega) (by omega) (by omega)]
        exact ⟨ret3i (by rw [or_digit acc 0 0 hacc0 hI.out.1 (by omega) (by omega) (by omega) (by omega), hz]; omega) rfl rfl, rfl⟩
      · go_ret3
        rw [get_last hI.out.2 HL.out (by omega) (by omega) (by omega)]
        exact ⟨ret3i (by rw [or_digit acc _ k hacc0 hI.out.1 hx0 hx1 hk9 (by omega), Int.emod_eq_of_lt hx0 (by assumption)]) rfl rfl, rfl⟩
      · have hg := get_on hI.out HL.out (by omega) (by omega) (by omega)
        have hm : (0 : Int) ≤ 128 ^ k * (xs[k]?.getD 0 % 128) := Int.mul_nonneg (Int.pow_nonneg (by decide)) (by omega)
        go_round
        case rel => exact ⟨k + 1, by omega, by omega, by go_num, _, val_i (or_digit acc _ k hacc0 hI.out.1 hx0 hx1 hk9 (by omega)), by omega, hg⟩
        case measure => simp [intOf] <;> omega
    · go_wp2
      go_ret3; rw [get_end hI.out.2 (by have := H.out.len; omega)]; exact ⟨rfl, rfl⟩

/-! ### zigzags -/
theorem zig_bits (v : Int) (h1 : -9223372036854775808 ≤ v) (h2 : v ≤ 9223372036854775807) :
    bits .xor .u64 (IntKind.u64.wrap (IntKind.u64.wrap v * 2)) (IntKind.u64.wrap (v / 9223372036854775808)) = zig v := by
  unfold zig
  simp only [wrapu64]
  split
  · have e : v / 9223372036854775808 % 18446744073709551616 = 0 := by omega
    rw [e, xor_zero_u64 _ (by omega) (by omega)]
    omega
  · have e : v / 9223372036854775808 % 18446744073709551616 = 18446744073709551615 := by omega
    rw [e, xor_ones_u64 _ (by omega) (by omega)]
    omega
theorem zag_bits (z : Int) (h1 : 0 ≤ z) (h2 : z ≤ 18446744073709551615) (y : Int) (hy : y = -(z % 2)) : bits .xor .i64 (z / 2) y = zag z := by
  subst hy
  unfold zag
  split
  · have e : z % 2 = 0 := by assumption
    rw [e]
    exact bits_xor_i64_zero _ (by omega) (by omega)
  · have e : z % 2 = 1 := by omega
    rw [e]
    rw [show (-(1 : Int)) = -1 from rfl, bits_xor_i64_ones _ (by omega) (by omega)]
    omega
set_option maxHeartbeats 400000 in
theorem zig_any (v : Int) (w : World) (h1 : -9223372036854775808 ≤ v) (h2 : v ≤ 9223372036854775807) :
    Calls Try.prog 36 #[.int .i64 v] w fun e w' => e = .returned (.int .u64 (zig v)) ∧ w = w' := by
  go_enter Try.func36, Try.ntmps36
  go_wp2
  go_ret
  exact ⟨ret_i (zig_bits v h1 h2), rfl⟩
set_option maxHeartbeats 400000 in
theorem zag_any (z : Int) (w : World) (h1 : 0 ≤ z) (h2 : z ≤ 18446744073709551615) :
    Calls Try.prog 41 #[.int .u64 z] w fun e w' => e = .returned (.int .i64 (zag z)) ∧ w = w' := by
  go_enter Try.func41, Try.ntmps41
  go_wp2
  go_ret
  refine ⟨ret_i (zag_bits z h1 h2 _ ?_), rfl⟩
  have e1 : bits .and .u64 z 1 = z % 2 := by have := and_mask_u64 z 1 (by decide) h1 h2; simpa using this
  rw [e1, IntWalk.wrap64_in (z % 2) ⟨by omega, by omega⟩, IntWalk.wrap64_in _ ⟨by omega, by omega⟩]
set_option maxHeartbeats 400000 in
theorem refZig_any (v : Int) (w : World) (h1 : -9223372036854775808 ≤ v) (h2 : v ≤ 9223372036854775807) :
    Calls Try.prog 25 #[.int .i64 v] w fun e w' => e = .returned (.int .u64 (zig v)) ∧ w = w' := by
  by_cases h : 0 ≤ v
  · go_enter Try.func25, Try.ntmps25
    go_wp2
    go_ret
    exact ⟨ret_i (by unfold zig; omega), rfl⟩
  · go_enter Try.func25, Try.ntmps25
    go_wp2
    go_ret
    exact ⟨ret_i (by unfold zig; omega), rfl⟩
set_option maxHeartbeats 400000 in
theorem refZag_any (z : Int) (w : World) (h1 : 0 ≤ z) (h2 : z ≤ 18446744073709551615) :
    Calls Try.prog 44 #[.int .u64 z] w fun e w' => e = .returned (.int .i64 (zag z)) ∧ w = w' := by
  by_cases h : z % 2 = 0
  · have H := Lib.hid h
    have hb : (z % 2 == 0) = true := by simp [h]
    clear h
    go_enter Try.func44, Try.ntmps44
    go_wp2
    go_ret
    exact ⟨ret_i (by have := H.out; unfold zag; omega), rfl⟩
  · have H := Lib.hid h
    have hb : (z % 2 == 0) = false := by simp; omega
    clear h
    go_enter Try.func44, Try.ntmps44
    go_wp2
    go_ret
    exact ⟨ret_i (by have := H.out; unfold zag; omega), rfl⟩

theorem vput_split (v : Nat) (h : 128 ≤ v) (pre : List Int) : pre ++ vput v = pre ++ [((v : Int) % 128 + 128)] ++ vput (v / 128) := by
  rw [vput_big h]; simp
set_option maxHeartbeats 1000000 in
theorem refVPut_any (v : Nat) (w : World) (h2 : (v : Int) ≤ 18446744073709551615) :
    Calls Try.prog 27 #[.int .u64 v] w (RetRow w.heap.size 5 .u8 w (vput v)) := by
  have hl : (vput v).length ≤ 10 := vput_len_u64 v (by omega)
  have HL := Lib.hid hl
  clear hl
  go_enter Try.func27, Try.ntmps27
  go_wp2
  go_loopw [0, 3, 4, 5, 6, 7, 8, 9, 10, 11, 12, 13, 14] (fun v0 o3 _ _ _ _ _ _ _ _ _ _ _ wr => ∃ u : Nat, v0 = .int .u64 u ∧ (u : Int) ≤ 18446744073709551615 ∧ ∃ A n c pre, o3 = .slice A n c ∧ Hid (Owns wr w.heap.size 5 .u8 A n c pre ∧ vput v = pre ++ vput u ∧ Below w.heap.size w wr))
    (fun v0 _ _ _ _ _ _ _ _ _ _ _ _ _ => (intOf v0).toNat)
  case atStart => exact ⟨v, rfl, h2, none, 0, 0, [], rfl, Lib.hid ⟨owns_nil _ _ _ _, rfl, Below.refl _ _⟩⟩
  case round =>
    obtain ⟨u, rfl, hu, A, n, c, pre, rfl, hI⟩ := hrel
    have hn : n ≤ 9 := by
      have h1 := hI.out.1.1
      have h2 := hI.out.2.1
      have h3 := HL.out
      have h4 := vput_pos u
      rw [h2, List.length_append] at h3
      simp at h1; omega
    by_cases hlt : 128 ≤ u
    · go_wp2_with (at_builtin; refine wpList_append_r rfl rfl elemU8 (hI.out.1.alloc _) rfl (RdV.one (Box.new _ _ _)) rfl one_one (by omega) (by omega) (by have := hI.out.2.2.size; simp; omega) ?_; intro A' c' w' hown hg _)
      go_roundw
      case rel =>
        exact ⟨u / 128, val_i (by omega), by omega, A', n + 1, c', pre ++ [(u : Int) % 128 + 128], rfl, Lib.hid ⟨owns_snoc hown, by rw [hI.out.2.1, vput_split u hlt], below_grown ((hI.out.2.2).alloc hI.out.2.2.size _) (hI.out.1.alloc _) hg (by have := hI.out.2.2.size; simp; omega)⟩⟩
      case measure => simp [intOf] <;> omega
    · go_wp2_with (at_builtin; refine wpList_append_r rfl rfl elemU8 (hI.out.1.alloc _) rfl (RdV.one (Box.new _ _ _)) rfl one_one (by omega) (by omega) (by have := hI.out.2.2.size; simp; omega) ?_; intro A' c' w' hown hg _)
      go_ret
      refine ⟨A', n + 1, c', rfl, ?_, below_grown ((hI.out.2.2).alloc hI.out.2.2.size _) (hI.out.1.alloc _) hg (by have := hI.out.2.2.size; simp; omega)⟩
      rw [hI.out.2.1, vput_small (by omega)]
      exact owns_snoc hown
end Go.Proofs.Ytbfnaigefmdcdaa
