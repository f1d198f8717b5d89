/-
  Chapter 6's functions that go through a row once: the least, the greatest width.
-/
import Derived.Test.YtibfbomihopgaaaWid
import Derived.ProofKit
import Derived.OpenShut
namespace Go.Proofs.Ytibfbomihopgaaa
open Go.RowKit Go.Cor Go.Free

theorem least1_any (a x : Int) (w : World) :
    Calls Try.prog 48 #[.int .i64 a, .int .i64 x] w fun e w' => e = .returned (.int .i64 (min a x)) ∧ w = w' := by
  go_enter Try.func48, Try.ntmps48
  go_wp2
  go_ret
  exact ⟨ret_i (by omega), rfl⟩

theorem most1_any (a x : Int) (w : World) (h0 : 0 ≤ x) (h1 : x ≤ 18446744073709551615) :
    Calls Try.prog 51 #[.int .i64 a, .int .u64 x] w fun e w' => e = .returned (.int .i64 (max a (bw x))) ∧ w = w' := by
  go_enter Try.func51, Try.ntmps51
  go_wp2_with fail
  refine (of_any x w h0 h1).mono ?_
  rintro e w' ⟨rfl, rfl⟩
  go_wp2
  go_ret
  exact ⟨ret_i (by omega), rfl⟩

set_option maxHeartbeats 1000000 in
theorem foldLeast_any (a : Int) (A : Option Addr) (n c : Nat) (xs : List Int) (w : World) (h : Rd w .i64 A n c xs) (hn : n ≤ 1000) :
    Calls Try.prog 47 #[.slice A n c, .int .i64 a, .func (.func 48) #[] #[]] w fun e w' => e = .returned (.int .i64 (minOf a xs)) ∧ w = w' := by
  have H := Lib.hid h
  clear h
  go_enter Try.func47, Try.ntmps47
  go_wp2
  go_loop [1, 8, 11, 12, 13, 14, 15, 16, 17, 18, 19] (fun v1 _ v11 _ _ _ _ _ _ _ _ => ∃ i : Nat, v11 = .int .i64 i ∧ i ≤ n ∧ ∃ m, v1 = .int .i64 m ∧ Hid (m = minOf a (xs.take i))) (fun _ _ v11 _ _ _ _ _ _ _ _ => n - (intOf v11).toNat)
  case atStart => exact ⟨0, rfl, by omega, a, rfl, Lib.hid rfl⟩
  case round =>
    obtain ⟨i, rfl, hi, m, rfl, hI⟩ := hrel
    by_cases hlt : i < n
    · obtain ⟨b', o, rfl, hbl, hc⟩ := H.out.get (by omega)
      have hcell := hc i hlt
      rw [List.getD_eq_getElem?_getD] at hcell
      have e1 := minOf_snoc a (l := xs) (k := i) (by have := H.out.len; omega)
      rw [← hI.out] at e1
      obtain ⟨x, hx⟩ : ∃ x, xs[i]?.getD 0 = x := ⟨_, rfl⟩
      rw [hx] at hcell e1
      have E1 := Lib.hid e1
      clear hc e1 hx
      go_wp2_with fail
      refine (least1_any m x w).mono ?_
      rintro e w' ⟨rfl, rfl⟩
      go_wp2
      go_round
      case rel => exact ⟨i + 1, by go_num, by omega, _, rfl, Lib.hid E1.out.symm⟩
      case measure => simp [intOf] <;> omega
    · go_wp2
      go_ret
      obtain rfl : i = n := by omega
      have e := hI.out
      rw [List.take_of_length_le (by have := H.out.len; omega)] at e
      exact ⟨ret_i e, rfl⟩

set_option maxHeartbeats 1000000 in
theorem foldMost_any (A : Option Addr) (n c : Nat) (xs : List Int) (w : World) (h : Rd w .u64 A n c xs) (hn : n ≤ 1000) (hf : ∀ x ∈ xs, 0 ≤ x ∧ x ≤ 18446744073709551615) :
    Calls Try.prog 50 #[.slice A n c, .int .i64 0, .func (.func 51) #[] #[]] w fun e w' => e = .returned (.int .i64 (most xs)) ∧ w = w' := by
  have H := Lib.hid h
  have HF := Lib.hid hf
  clear h hf
  go_enter Try.func50, Try.ntmps50
  go_wp2
  go_loop [1, 8, 11, 12, 13, 14, 15, 16, 17, 18, 19] (fun v1 _ v11 _ _ _ _ _ _ _ _ => ∃ i : Nat, v11 = .int .i64 i ∧ i ≤ n ∧ ∃ m, v1 = .int .i64 m ∧ Hid (m = most (xs.take i))) (fun _ _ v11 _ _ _ _ _ _ _ _ => n - (intOf v11).toNat)
  case atStart => exact ⟨0, rfl, by omega, 0, rfl, Lib.hid rfl⟩
  case round =>
    obtain ⟨i, rfl, hi, m, rfl, hI⟩ := hrel
    by_cases hlt : i < n
    · obtain ⟨b', o, rfl, hbl, hc⟩ := H.out.get (by omega)
      have hcell := hc i hlt
      rw [List.getD_eq_getElem?_getD] at hcell
      have hil : i < xs.length := by have := H.out.len; omega
      have e1 := most_snoc (l := xs) (k := i) hil
      rw [← hI.out] at e1
      have hx1 := HF.out (xs[i]?.getD 0) (by rw [List.getElem?_eq_getElem hil]; exact List.getElem_mem _)
      obtain ⟨x, hx⟩ : ∃ x, xs[i]?.getD 0 = x := ⟨_, rfl⟩
      rw [hx] at hcell e1 hx1
      have E1 := Lib.hid e1
      obtain ⟨hx0, hx2⟩ := hx1
      clear hc e1 hx hil
      go_wp2_with fail
      refine (most1_any m x w hx0 hx2).mono ?_
      rintro e w' ⟨rfl, rfl⟩
      go_wp2
      go_round
      case rel => exact ⟨i + 1, by go_num, by omega, _, rfl, Lib.hid E1.out.symm⟩
      case measure => simp [intOf] <;> omega
    · go_wp2
      go_ret
      obtain rfl : i = n := by omega
      have e := hI.out
      rw [List.take_of_length_le (by have := H.out.len; omega)] at e
      exact ⟨ret_i e, rfl⟩

theorem most_any (A : Option Addr) (n c : Nat) (xs : List Int) (w : World) (h : Rd w .u64 A n c xs) (hn : n ≤ 1000) (hf : ∀ x ∈ xs, 0 ≤ x ∧ x ≤ 18446744073709551615) :
    Calls Try.prog 36 #[.slice A n c] w fun e w' => e = .returned (.int .i64 (most xs)) ∧ w = w' := by
  have HM := Lib.hid (foldMost_any A n c xs w h hn hf)
  clear h hf
  go_enter Try.func36, Try.ntmps36
  go_wp2_with fail
  refine HM.out.mono ?_
  rintro e w' ⟨rfl, rfl⟩
  go_wp2
  go_ret
  exact ⟨rfl, rfl⟩

theorem least_any (A : Option Addr) (n c : Nat) (xs : List Int) (w : World) (h : Rd w .i64 A n c xs) (hn : n ≤ 1000) :
    Calls Try.prog 29 #[.slice A n c] w fun e w' => e = .returned (.tuple #[.int .i64 (least xs), .bool (decide (0 < n))]) ∧ w = w' := by
  by_cases h0 : 0 < n
  · have HF := Lib.hid (foldLeast_any (xs[0]?.getD 0) A n c xs w h hn)
    obtain ⟨b', o, rfl, hbl, hc⟩ := h.get (by omega)
    have hcell := hc 0 h0
    rw [List.getD_eq_getElem?_getD, Nat.add_zero] at hcell
    have hd : decide (0 < n) = true := by simpa using h0
    rw [hd]
    unfold least
    obtain ⟨x, hx⟩ : ∃ x, xs[0]?.getD 0 = x := ⟨_, rfl⟩
    rw [hx] at hcell HF ⊢
    clear hc h hd hx
    go_enter Try.func29, Try.ntmps29
    go_wp2_with fail
    refine HF.out.mono ?_
    rintro e w' ⟨rfl, rfl⟩
    go_wp2
    go_ret2
    exact ⟨rfl, rfl⟩
  · obtain rfl : n = 0 := by omega
    obtain rfl : xs = [] := List.eq_nil_of_length_eq_zero h.len
    clear h
    go_enter Try.func29, Try.ntmps29
    go_wp2
    go_ret2
    exact ⟨rfl, rfl⟩

set_option maxHeartbeats 1000000 in
theorem refLeast_any (A : Option Addr) (n c : Nat) (xs : List Int) (w : World) (h : Rd w .i64 A n c xs) (hn : n ≤ 1000) :
    Calls Try.prog 30 #[.slice A n c] w fun e w' => e = .returned (.int .i64 (least xs)) ∧ w = w' := by
  by_cases h0 : 0 < n
  · obtain ⟨b', o, rfl, hbl, hc⟩ := h.get (by omega)
    have hcell0 := hc 0 h0
    rw [List.getD_eq_getElem?_getD, Nat.add_zero] at hcell0
    have HC := Lib.hid hc
    have H := Lib.hid h
    unfold least
    obtain ⟨x0, hx0⟩ : ∃ x, xs[0]?.getD 0 = x := ⟨_, rfl⟩
    rw [hx0] at hcell0 ⊢
    clear hc h hx0
    go_enter Try.func30, Try.ntmps30
    go_wp2
    go_loop [3, 4, 11, 12, 13, 14, 15, 16, 17, 18, 19, 20, 21, 22, 23, 24, 25, 26] (fun v3 v4 _ _ _ _ _ _ _ _ _ _ _ _ _ _ _ _ => ∃ i : Nat, v4 = .int .i64 i ∧ i ≤ n ∧ ∃ m, v3 = .int .i64 m ∧ Hid (m = minOf x0 (xs.take i))) (fun _ v4 _ _ _ _ _ _ _ _ _ _ _ _ _ _ _ _ => n - (intOf v4).toNat)
    case atStart => exact ⟨0, rfl, by omega, x0, rfl, Lib.hid rfl⟩
    case round =>
      obtain ⟨i, rfl, hi, m, rfl, hI⟩ := hrel
      by_cases hlt : i < n
      · have hcell := HC.out i hlt
        rw [List.getD_eq_getElem?_getD] at hcell
        have e1 := minOf_snoc x0 (l := xs) (k := i) (by have := H.out.len; omega)
        rw [← hI.out] at e1
        obtain ⟨x, hx⟩ : ∃ x, xs[i]?.getD 0 = x := ⟨_, rfl⟩
        rw [hx] at hcell e1
        have E1 := Lib.hid e1
        clear e1 hx
        by_cases hxm : x < m
        · go_wp2
          go_round
          case rel => exact ⟨i + 1, by go_num, by omega, _, rfl, Lib.hid (by rw [E1.out]; omega)⟩
          case measure => simp [intOf] <;> omega
        · go_wp2
          go_round
          case rel => exact ⟨i + 1, by go_num, by omega, _, rfl, Lib.hid (by rw [E1.out]; omega)⟩
          case measure => simp [intOf] <;> omega
      · go_wp2
        go_ret
        obtain rfl : i = n := by omega
        have e := hI.out
        rw [List.take_of_length_le (by have := H.out.len; omega)] at e
        exact ⟨ret_i e, rfl⟩
  · obtain rfl : n = 0 := by omega
    obtain rfl : xs = [] := List.eq_nil_of_length_eq_zero h.len
    clear h
    go_enter Try.func30, Try.ntmps30
    go_wp2
    go_ret
    exact ⟨rfl, rfl⟩

set_option maxHeartbeats 1000000 in
theorem refMost_any (A : Option Addr) (n c : Nat) (xs : List Int) (w : World) (h : Rd w .u64 A n c xs) (hn : n ≤ 1000) (hf : ∀ x ∈ xs, 0 ≤ x ∧ x ≤ 18446744073709551615) :
    Calls Try.prog 37 #[.slice A n c] w fun e w' => e = .returned (.int .i64 (most xs)) ∧ w = w' := by
  have H := Lib.hid h
  have HF := Lib.hid hf
  clear h hf
  go_enter Try.func37, Try.ntmps37
  go_wp2
  go_loop [3, 4, 5, 6, 7, 8, 9, 10, 11, 12, 13, 14, 15, 16, 17, 18, 19, 20, 21, 22] (fun v3 v4 _ _ _ _ _ _ _ _ _ _ _ _ _ _ _ _ _ _ => ∃ i : Nat, v4 = .int .i64 i ∧ i ≤ n ∧ ∃ m, v3 = .int .i64 m ∧ Hid (m = most (xs.take i))) (fun _ v4 _ _ _ _ _ _ _ _ _ _ _ _ _ _ _ _ _ _ => n - (intOf v4).toNat)
  case atStart => exact ⟨0, rfl, by omega, 0, rfl, Lib.hid rfl⟩
  case round =>
    obtain ⟨i, rfl, hi, m, rfl, hI⟩ := hrel
    by_cases hlt : i < n
    · obtain ⟨b', o, rfl, hbl, hc⟩ := H.out.get (by omega)
      have hcell := hc i hlt
      rw [List.getD_eq_getElem?_getD] at hcell
      have hil : i < xs.length := by have := H.out.len; omega
      have e1 := most_snoc (l := xs) (k := i) hil
      rw [← hI.out] at e1
      have hx1 := HF.out (xs[i]?.getD 0) (by rw [List.getElem?_eq_getElem hil]; exact List.getElem_mem _)
      obtain ⟨x, hx⟩ : ∃ x, xs[i]?.getD 0 = x := ⟨_, rfl⟩
      rw [hx] at hcell e1 hx1
      have E1 := Lib.hid e1
      obtain ⟨hx0, hx2⟩ := hx1
      clear hc e1 hx hil
      by_cases hxm : bw x ≤ m
      · go_wp2_with fail
        refine (refOf_any x w hx0 hx2).mono ?_
        rintro e w' ⟨rfl, rfl⟩
        go_wp2
        go_round
        case rel => exact ⟨i + 1, by go_num, by omega, _, rfl, Lib.hid (by rw [E1.out]; omega)⟩
        case measure => simp [intOf] <;> omega
      · go_wp2_with fail
        refine (refOf_any x w hx0 hx2).mono ?_
        rintro e w' ⟨rfl, rfl⟩
        go_wp2_with fail
        refine (refOf_any x w hx0 hx2).mono ?_
        rintro e w' ⟨rfl, rfl⟩
        go_wp2
        go_round
        case rel => exact ⟨i + 1, by go_num, by omega, _, rfl, Lib.hid (by rw [E1.out]; omega)⟩
        case measure => simp [intOf] <;> omega
    · go_wp2
      go_ret
      obtain rfl : i = n := by omega
      have e := hI.out
      rw [List.take_of_length_le (by have := H.out.len; omega)] at e
      exact ⟨ret_i e, rfl⟩
end Go.Proofs.Ytibfbomihopgaaa
