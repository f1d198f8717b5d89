/-
  The bytes of a number: cursor.put at its kinds, the reference's Put. (Printed by wip/genput.py.)
-/
import Derived.Test.YthpndhdpohmoaaaClo
namespace Go.Proofs.Ythpndhdpohmoaaa
open Go.RowKit Go.Cor Go.Free

set_option maxHeartbeats 1000000 in
theorem put16_any (A : Option Addr) (n c : Nat) (xs : List Int) (v m : Nat) (w : World) (h : Rd w .u8 A n c xs) (hn : n ≤ 100000) (hv : (v : Int) ≤ 65535) (hm : m ≤ 8) :
    Calls Try.prog 58 #[.slice A n c, .int .u16 v, .int .i64 m] w (RetRow w.heap.size 5 .u8 w (xs ++ leb v m)) := by
  have H := Lib.hid h
  clear h
  go_enter Try.func58, Try.ntmps58
  go_wp2_with fail
  refine (clone_any A n c xs w H.out (by omega)).mono ?_
  rintro e w1 ⟨A1, n1, c1, rfl, hown1, hb1⟩
  obtain rfl : n1 = n := by have := row_len hown1; have := H.out.len; omega
  have HO := Lib.hid hown1
  have HB := Lib.hid hb1
  clear hown1 hb1
  go_wp2
  go_loopw [7, 8, 12, 13, 14, 15, 16, 17, 18, 19, 20, 21, 22, 23, 24] (fun v7 _ v12 _ _ _ _ _ _ _ _ _ _ _ _ wr => ∃ i : Nat, v12 = .int .i64 i ∧ i ≤ m ∧ ∃ A' c', v7 = .slice A' (n1 + i) c' ∧ Hid (Owns wr w.heap.size 5 .u8 A' (n1 + i) c' (xs ++ leb v i) ∧ Below w.heap.size w wr))
    (fun _ _ v12 _ _ _ _ _ _ _ _ _ _ _ _ _ => m - (intOf v12).toNat)
  case atStart => exact ⟨0, rfl, by omega, A1, c1, rfl, Lib.hid ⟨by simpa [leb] using HO.out, HB.out⟩⟩
  case round =>
    obtain ⟨i, rfl, hi, A', c', rfl, hI⟩ := hrel
    by_cases hlt : i < m
    · have hpow : (2 : Int) ^ (8 * i) = ((256 ^ i : Nat) : Int) := by rw [Int.natCast_pow, Int.pow_mul]; rfl
      go_wp2_with (at_builtin; refine wpList_append_r rfl rfl elemU8 (hI.out.1.alloc _) rfl (RdV.one (Box.new _ _ _)) rfl one_one (by omega) (by omega) (by have := hI.out.2.size; simp; omega) ?_; intro A2 c2 w2 hown hg _)
      go_roundw
      case rel =>
        refine ⟨i + 1, by go_num, by omega, A2, c2, rfl, Lib.hid ⟨?_, below_grown (hI.out.2.alloc hI.out.2.size _) (hI.out.1.alloc _) hg (by have := hI.out.2.size; simp; omega)⟩⟩
        have := owns_snoc hown
        rw [List.append_assoc] at this
        rw [← leb_snoc]
        exact this
      case measure => simp [intOf] <;> omega
    · go_wp2
      go_ret
      obtain rfl : i = m := by omega
      exact ⟨A', n1 + i, c', rfl, hI.out.1, hI.out.2⟩
theorem Put16_any (A : Option Addr) (n c : Nat) (xs : List Int) (v : Nat) (w : World) (h : Rd w .u8 A n c xs) (hn : n ≤ 100000) (hv : (v : Int) ≤ 65535) :
    Calls Try.prog 22 #[.slice A n c, .int .u16 v] w (RetRow w.heap.size 5 .u8 w (xs ++ leb v 2)) := by
  have HC := Lib.hid (put16_any A n c xs v 2 w h hn hv (by decide))
  clear h
  go_enter Try.func22, Try.ntmps22
  go_wp2_with fail
  refine HC.out.mono ?_
  rintro e w1 ⟨A1, n1, c1, rfl, hown1, hb1⟩
  go_wp2
  go_ret
  exact ⟨A1, n1, c1, rfl, hown1, hb1⟩

set_option maxHeartbeats 1000000 in
theorem put32_any (A : Option Addr) (n c : Nat) (xs : List Int) (v m : Nat) (w : World) (h : Rd w .u8 A n c xs) (hn : n ≤ 100000) (hv : (v : Int) ≤ 4294967295) (hm : m ≤ 8) :
    Calls Try.prog 59 #[.slice A n c, .int .u32 v, .int .i64 m] w (RetRow w.heap.size 5 .u8 w (xs ++ leb v m)) := by
  have H := Lib.hid h
  clear h
  go_enter Try.func59, Try.ntmps59
  go_wp2_with fail
  refine (clone_any A n c xs w H.out (by omega)).mono ?_
  rintro e w1 ⟨A1, n1, c1, rfl, hown1, hb1⟩
  obtain rfl : n1 = n := by have := row_len hown1; have := H.out.len; omega
  have HO := Lib.hid hown1
  have HB := Lib.hid hb1
  clear hown1 hb1
  go_wp2
  go_loopw [7, 8, 12, 13, 14, 15, 16, 17, 18, 19, 20, 21, 22, 23, 24] (fun v7 _ v12 _ _ _ _ _ _ _ _ _ _ _ _ wr => ∃ i : Nat, v12 = .int .i64 i ∧ i ≤ m ∧ ∃ A' c', v7 = .slice A' (n1 + i) c' ∧ Hid (Owns wr w.heap.size 5 .u8 A' (n1 + i) c' (xs ++ leb v i) ∧ Below w.heap.size w wr))
    (fun _ _ v12 _ _ _ _ _ _ _ _ _ _ _ _ _ => m - (intOf v12).toNat)
  case atStart => exact ⟨0, rfl, by omega, A1, c1, rfl, Lib.hid ⟨by simpa [leb] using HO.out, HB.out⟩⟩
  case round =>
    obtain ⟨i, rfl, hi, A', c', rfl, hI⟩ := hrel
    by_cases hlt : i < m
    · have hpow : (2 : Int) ^ (8 * i) = ((256 ^ i : Nat) : Int) := by rw [Int.natCast_pow, Int.pow_mul]; rfl
      go_wp2_with (at_builtin; refine wpList_append_r rfl rfl elemU8 (hI.out.1.alloc _) rfl (RdV.one (Box.new _ _ _)) rfl one_one (by omega) (by omega) (by have := hI.out.2.size; simp; omega) ?_; intro A2 c2 w2 hown hg _)
      go_roundw
      case rel =>
        refine ⟨i + 1, by go_num, by omega, A2, c2, rfl, Lib.hid ⟨?_, below_grown (hI.out.2.alloc hI.out.2.size _) (hI.out.1.alloc _) hg (by have := hI.out.2.size; simp; omega)⟩⟩
        have := owns_snoc hown
        rw [List.append_assoc] at this
        rw [← leb_snoc]
        exact this
      case measure => simp [intOf] <;> omega
    · go_wp2
      go_ret
      obtain rfl : i = m := by omega
      exact ⟨A', n1 + i, c', rfl, hI.out.1, hI.out.2⟩
theorem Put32_any (A : Option Addr) (n c : Nat) (xs : List Int) (v : Nat) (w : World) (h : Rd w .u8 A n c xs) (hn : n ≤ 100000) (hv : (v : Int) ≤ 4294967295) :
    Calls Try.prog 24 #[.slice A n c, .int .u32 v] w (RetRow w.heap.size 5 .u8 w (xs ++ leb v 4)) := by
  have HC := Lib.hid (put32_any A n c xs v 4 w h hn hv (by decide))
  clear h
  go_enter Try.func24, Try.ntmps24
  go_wp2_with fail
  refine HC.out.mono ?_
  rintro e w1 ⟨A1, n1, c1, rfl, hown1, hb1⟩
  go_wp2
  go_ret
  exact ⟨A1, n1, c1, rfl, hown1, hb1⟩

set_option maxHeartbeats 1000000 in
theorem put64_any (A : Option Addr) (n c : Nat) (xs : List Int) (v m : Nat) (w : World) (h : Rd w .u8 A n c xs) (hn : n ≤ 100000) (hv : (v : Int) ≤ 18446744073709551615) (hm : m ≤ 8) :
    Calls Try.prog 60 #[.slice A n c, .int .u64 v, .int .i64 m] w (RetRow w.heap.size 5 .u8 w (xs ++ leb v m)) := by
  have H := Lib.hid h
  clear h
  go_enter Try.func60, Try.ntmps60
  go_wp2_with fail
  refine (clone_any A n c xs w H.out (by omega)).mono ?_
  rintro e w1 ⟨A1, n1, c1, rfl, hown1, hb1⟩
  obtain rfl : n1 = n := by have := row_len hown1; have := H.out.len; omega
  have HO := Lib.hid hown1
  have HB := Lib.hid hb1
  clear hown1 hb1
  go_wp2
  go_loopw [7, 8, 12, 13, 14, 15, 16, 17, 18, 19, 20, 21, 22, 23] (fun v7 _ v12 _ _ _ _ _ _ _ _ _ _ _ wr => ∃ i : Nat, v12 = .int .i64 i ∧ i ≤ m ∧ ∃ A' c', v7 = .slice A' (n1 + i) c' ∧ Hid (Owns wr w.heap.size 5 .u8 A' (n1 + i) c' (xs ++ leb v i) ∧ Below w.heap.size w wr))
    (fun _ _ v12 _ _ _ _ _ _ _ _ _ _ _ _ => m - (intOf v12).toNat)
  case atStart => exact ⟨0, rfl, by omega, A1, c1, rfl, Lib.hid ⟨by simpa [leb] using HO.out, HB.out⟩⟩
  case round =>
    obtain ⟨i, rfl, hi, A', c', rfl, hI⟩ := hrel
    by_cases hlt : i < m
    · have hpow : (2 : Int) ^ (8 * i) = ((256 ^ i : Nat) : Int) := by rw [Int.natCast_pow, Int.pow_mul]; rfl
      go_wp2_with (at_builtin; refine wpList_append_r rfl rfl elemU8 (hI.out.1.alloc _) rfl (RdV.one (Box.new _ _ _)) rfl one_one (by omega) (by omega) (by have := hI.out.2.size; simp; omega) ?_; intro A2 c2 w2 hown hg _)
      go_roundw
      case rel =>
        refine ⟨i + 1, by go_num, by omega, A2, c2, rfl, Lib.hid ⟨?_, below_grown (hI.out.2.alloc hI.out.2.size _) (hI.out.1.alloc _) hg (by have := hI.out.2.size; simp; omega)⟩⟩
        have := owns_snoc hown
        rw [List.append_assoc] at this
        rw [← leb_snoc]
        exact this
      case measure => simp [intOf] <;> omega
    · go_wp2
      go_ret
      obtain rfl : i = m := by omega
      exact ⟨A', n1 + i, c', rfl, hI.out.1, hI.out.2⟩
theorem Put64_any (A : Option Addr) (n c : Nat) (xs : List Int) (v : Nat) (w : World) (h : Rd w .u8 A n c xs) (hn : n ≤ 100000) (hv : (v : Int) ≤ 18446744073709551615) :
    Calls Try.prog 25 #[.slice A n c, .int .u64 v] w (RetRow w.heap.size 5 .u8 w (xs ++ leb v 8)) := by
  have HC := Lib.hid (put64_any A n c xs v 8 w h hn hv (by decide))
  clear h
  go_enter Try.func25, Try.ntmps25
  go_wp2_with fail
  refine HC.out.mono ?_
  rintro e w1 ⟨A1, n1, c1, rfl, hown1, hb1⟩
  go_wp2
  go_ret
  exact ⟨A1, n1, c1, rfl, hown1, hb1⟩

set_option maxHeartbeats 1000000 in
theorem refPut_any (v m : Nat) (w : World) (hv : (v : Int) ≤ 18446744073709551615) (hm : m ≤ 8) :
    Calls Try.prog 23 #[.int .u64 v, .int .i64 m] w (RetRow w.heap.size 5 .u8 w (leb v m)) := by
  go_enter Try.func23, Try.ntmps23
  go_wp2
  go_loopw [0, 5, 6, 7, 8, 9, 10, 11, 12, 13, 14, 15, 16, 17, 18, 19] (fun v0 v5 v6 _ _ _ _ _ _ _ _ _ _ _ _ _ wr => ∃ i : Nat, v6 = .int .i64 i ∧ i ≤ m ∧ (∃ u : Nat, v0 = .int .u64 u ∧ (u : Int) ≤ 18446744073709551615 ∧ Hid (u = v / 256 ^ i)) ∧ ∃ A' c', v5 = .slice A' i c' ∧ Hid (Owns wr w.heap.size 5 .u8 A' i c' (leb v i) ∧ Below w.heap.size w wr))
    (fun _ _ v6 _ _ _ _ _ _ _ _ _ _ _ _ _ _ => m - (intOf v6).toNat)
  case atStart => exact ⟨0, rfl, by omega, ⟨v, rfl, hv, Lib.hid (by simp)⟩, none, 0, rfl, Lib.hid ⟨owns_nil _ _ _ _, Below.refl _ _⟩⟩
  case round =>
    obtain ⟨i, rfl, hi, ⟨u, rfl, hu, hU⟩, A', c', rfl, hI⟩ := hrel
    by_cases hlt : i < m
    · go_wp2_with (at_builtin; refine wpList_append_r rfl rfl elemU8 (hI.out.1.alloc _) rfl (RdV.one (Box.new _ _ _)) rfl one_one (by omega) (by omega) (by have := hI.out.2.size; simp; omega) ?_; intro A2 c2 w2 hown hg _)
      go_roundw
      case rel =>
        refine ⟨i + 1, by go_num, by omega, ⟨u / 256, val_i (by omega), by omega, Lib.hid (by rw [hU.out, Nat.div_div_eq_div_mul, Nat.pow_succ])⟩, A2, c2, rfl, Lib.hid ⟨?_, below_grown (hI.out.2.alloc hI.out.2.size _) (hI.out.1.alloc _) hg (by have := hI.out.2.size; simp; omega)⟩⟩
        have := owns_snoc hown
        rw [← leb_snoc, ← hU.out]
        exact this
      case measure => simp [intOf] <;> omega
    · go_wp2
      go_ret
      obtain rfl : i = m := by omega
      exact ⟨A', i, c', rfl, hI.out.1, hI.out.2⟩
end Go.Proofs.Ythpndhdpohmoaaa
