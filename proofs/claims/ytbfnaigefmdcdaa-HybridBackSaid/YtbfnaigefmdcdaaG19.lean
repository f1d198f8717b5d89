/-
  Widths of one number; what the tables say of rows of numbers. (Printed by wip/genwid.py.)
  Chapter 6's functions that go through a row once: the least, the greatest width.
-/
import Derived.WalkKit
import Derived.WalkSpells
import Derived.WalkLawsBesides
import Derived.ProofKit
import Derived.OpenShut
import Derived.Test.YtbfnaigefmdcdaaG6
import Derived.Test.YtbfnaigefmdcdaaG9
import Derived.Test.YtbfnaigefmdcdaaG14
import Derived.Test.YtbfnaigefmdcdaaG18
namespace Go.Proofs.Ytbfnaigefmdcdaa
open Go.RowKit Go.Cor Go.Free



theorem of_any (x : Int) (w : World) (h0 : 0 ≤ x) (h1 : x ≤ 18446744073709551615) :
    Calls Try.prog 85 #[.int .u64 x] w fun e w' => e = .returned (.int .i64 (bw x)) ∧ w = w' := by
  go_enter Try.func85, Try.ntmps85
  go_wp2_with (refine (len64_any x w h0 h1).mono ?_; rintro e w' ⟨rfl, rfl⟩)
  go_ret
  exact ⟨rfl, rfl⟩

set_option maxHeartbeats 400000 in
theorem refOf_any (x : Int) (w : World) (h0 : 0 ≤ x) (h1 : x ≤ 18446744073709551615) :
    Calls Try.prog 24 #[.int .u64 x] w fun e w' => e = .returned (.int .i64 (bw x)) ∧ w = w' := by
  obtain ⟨v, rfl⟩ := Int.eq_ofNat_of_zero_le h0
  have hbn : bw (v : Int) = (nbits v : Int) := by simp [bw]
  rw [hbn]
  have HN := Lib.hid (nbits_u64 v (by omega))
  go_enter Try.func24, Try.ntmps24
  go_wp2
  go_loop [0, 3, 4, 5, 6, 7, 8, 9] (fun v0 n3 _ _ _ _ _ _ => ∃ u n : Nat, v0 = .int .u64 u ∧ u ≤ v ∧ n3 = .int .i64 n ∧ Hid (nbits v = n + nbits u)) (fun v0 _ _ _ _ _ _ _ => (intOf v0).toNat)
  case atStart => exact ⟨v, 0, rfl, Nat.le_refl _, rfl, Lib.hid (by simp)⟩
  case round =>
    obtain ⟨u, n, rfl, hu, rfl, hI⟩ := hrel
    by_cases hlt : 0 < u
    · have hn : n ≤ 64 := by have := HN.out; have := hI.out; omega
      go_wp2
      go_round
      case rel => exact ⟨u / 2, n + 1, val_i (by omega), by omega, val_i (by omega), Lib.hid (by rw [hI.out, nbits_pos hlt]; omega)⟩
      case measure => simp [intOf] <;> omega
    · go_wp2
      go_ret
      obtain rfl : u = 0 := by omega
      exact ⟨ret_i (by rw [hI.out, nbits_zero]; omega), rfl⟩

end Go.Proofs.Ytbfnaigefmdcdaa

namespace Go.Proofs.Ytbfnaigefmdcdaa
open Go.RowKit Go.Cor Go.Free

theorem most1_any (a x : Int) (w : World) (h0 : 0 ≤ x) (h1 : x ≤ 18446744073709551615) :
    Calls Try.prog 95 #[.int .i64 a, .int .u64 x] w fun e w' => e = .returned (.int .i64 (max a (bw x))) ∧ w = w' := by
  go_enter Try.func95, Try.ntmps95
  go_wp2_with fail
  refine (of_any x w h0 h1).mono ?_
  rintro e w' ⟨rfl, rfl⟩
  go_wp2
  go_ret
  exact ⟨ret_i (by omega), rfl⟩
set_option maxHeartbeats 1000000 in
theorem foldMost_any (A : Option Addr) (n c : Nat) (xs : List Int) (w : World) (h : Rd w .u64 A n c xs) (hn : n ≤ 2000) (hf : ∀ x ∈ xs, 0 ≤ x ∧ x ≤ 18446744073709551615) :
    Calls Try.prog 94 #[.slice A n c, .int .i64 0, .func (.func 95) #[] #[]] w fun e w' => e = .returned (.int .i64 (most xs)) ∧ w = w' := by
  have H := Lib.hid h
  have HF := Lib.hid hf
  clear h hf
  go_enter Try.func94, Try.ntmps94
  go_wp2
  go_loop [1, 8, 11, 12, 13, 14, 15, 16, 17, 18, 19] (fun v1 _ v11 _ _ _ _ _ _ _ _ => ∃ i : Nat, v11 = .int .i64 i ∧ i ≤ n ∧ ∃ m, v1 = .int .i64 m ∧ Hid (m = most (xs.take i))) (fun _ _ v11 _ _ _ _ _ _ _ _ => n - (intOf v11).toNat)
  case atStart => exact ⟨0, rfl, by omega, 0, rfl, Lib.hid rfl⟩
  case round =>
    obtain ⟨i, rfl, hi, m, rfl, hI⟩ := hrel
    by_cases hlt : i < n
    · obtain ⟨b', o, rfl, hbl, hc⟩ := H.out.get (by omega)
      have hcell := hc i hlt
      rw [List.getD_eq_getElem?_getD] at hcell
      have hil : i < xs.length := by have := H.out.len; omega
      have e1 := most_snoc (l := xs) (k := i) hil
      rw [← hI.out] at e1
      have hx1 := HF.out (xs[i]?.getD 0) (by rw [List.getElem?_eq_getElem hil]; exact List.getElem_mem _)
      obtain ⟨x, hx⟩ : ∃ x, xs[i]?.getD 0 = x := ⟨_, rfl⟩
      rw [hx] at hcell e1 hx1
      have E1 := Lib.hid e1
      obtain ⟨hx0, hx2⟩ := hx1
      clear hc e1 hx hil
      go_wp2_with fail
      refine (most1_any m x w hx0 hx2).mono ?_
      rintro e w' ⟨rfl, rfl⟩
      go_wp2
      go_round
      case rel => exact ⟨i + 1, by go_num, by omega, _, rfl, Lib.hid E1.out.symm⟩
      case measure => simp [intOf] <;> omega
    · go_wp2
      go_ret
      obtain rfl : i = n := by omega
      have e := hI.out
      rw [List.take_of_length_le (by have := H.out.len; omega)] at e
      exact ⟨ret_i e, rfl⟩
theorem most_any (A : Option Addr) (n c : Nat) (xs : List Int) (w : World) (h : Rd w .u64 A n c xs) (hn : n ≤ 2000) (hf : ∀ x ∈ xs, 0 ≤ x ∧ x ≤ 18446744073709551615) :
    Calls Try.prog 74 #[.slice A n c] w fun e w' => e = .returned (.int .i64 (most xs)) ∧ w = w' := by
  have HM := Lib.hid (foldMost_any A n c xs w h hn hf)
  clear h hf
  go_enter Try.func74, Try.ntmps74
  go_wp2_with fail
  refine HM.out.mono ?_
  rintro e w' ⟨rfl, rfl⟩
  go_wp2
  go_ret
  exact ⟨rfl, rfl⟩
set_option maxHeartbeats 1000000 in
theorem refMost_any (A : Option Addr) (n c : Nat) (xs : List Int) (w : World) (h : Rd w .u64 A n c xs) (hn : n ≤ 2000) (hf : ∀ x ∈ xs, 0 ≤ x ∧ x ≤ 18446744073709551615) :
    Calls Try.prog 51 #[.slice A n c] w fun e w' => e = .returned (.int .i64 (most xs)) ∧ w = w' := by
  have H := Lib.hid h
  have HF := Lib.hid hf
  clear h hf
  go_enter Try.func51, Try.ntmps51
  go_wp2
  go_loop [3, 4, 5, 6, 7, 8, 9, 10, 11, 12, 13, 14, 15, 16, 17, 18, 19, 20, 21, 22] (fun v3 v4 _ _ _ _ _ _ _ _ _ _ _ _ _ _ _ _ _ _ => ∃ i : Nat, v4 = .int .i64 i ∧ i ≤ n ∧ ∃ m, v3 = .int .i64 m ∧ Hid (m = most (xs.take i))) (fun _ v4 _ _ _ _ _ _ _ _ _ _ _ _ _ _ _ _ _ _ => n - (intOf v4).toNat)
  case atStart => exact ⟨0, rfl, by omega, 0, rfl, Lib.hid rfl⟩
  case round =>
    obtain ⟨i, rfl, hi, m, rfl, hI⟩ := hrel
    by_cases hlt : i < n
    · obtain ⟨b', o, rfl, hbl, hc⟩ := H.out.get (by omega)
      have hcell := hc i hlt
      rw [List.getD_eq_getElem?_getD] at hcell
      have hil : i < xs.length := by have := H.out.len; omega
      have e1 := most_snoc (l := xs) (k := i) hil
      rw [← hI.out] at e1
      have hx1 := HF.out (xs[i]?.getD 0) (by rw [List.getElem?_eq_getElem hil]; exact List.getElem_mem _)
      obtain ⟨x, hx⟩ : ∃ x, xs[i]?.getD 0 = x := ⟨_, rfl⟩
      rw [hx] at hcell e1 hx1
      have E1 := Lib.hid e1
      obtain ⟨hx0, hx2⟩ := hx1
      clear hc e1 hx hil
      by_cases hxm : bw x ≤ m
      · go_wp2_with fail
        refine (refOf_any x w hx0 hx2).mono ?_
        rintro e w' ⟨rfl, rfl⟩
        go_wp2
        go_round
        case rel => exact ⟨i + 1, by go_num, by omega, _, rfl, Lib.hid (by rw [E1.out]; omega)⟩
        case measure => simp [intOf] <;> omega
      · go_wp2_with fail
        refine (refOf_any x w hx0 hx2).mono ?_
        rintro e w' ⟨rfl, rfl⟩
        go_wp2_with fail
        refine (refOf_any x w hx0 hx2).mono ?_
        rintro e w' ⟨rfl, rfl⟩
        go_wp2
        go_round
        case rel => exact ⟨i + 1, by go_num, by omega, _, rfl, Lib.hid (by rw [E1.out]; omega)⟩
        case measure => simp [intOf] <;> omega
    · go_wp2
      go_ret
      obtain rfl : i = n := by omega
      have e := hI.out
      rw [List.take_of_length_le (by have := H.out.len; omega)] at e
      exact ⟨ret_i e, rfl⟩
end Go.Proofs.Ytbfnaigefmdcdaa
