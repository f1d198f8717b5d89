/-
  Widths of one number; what the tables say of rows of numbers. (Printed by wip/genwid.py.)
  Chapter 6's functions that go through a row once: the least, the greatest width.
  Chapter 6's functions that give rows: offsets, the numbers of offsets, deltas, sums.
  Chapter 6: deltas, sums; the reference's offsets and deltas.
-/
import Derived.WalkKit
import Derived.WalkSpells
import Derived.WalkLawsBesides
import Derived.ProofKit
import Derived.OpenShut
import Derived.Test.YtkbcmblgieoleaaG6
import Derived.Test.YtkbcmblgieoleaaG9
import Derived.Test.YtkbcmblgieoleaaG16
import Derived.Test.YtkbcmblgieoleaaG21
namespace Go.Proofs.Ytkbcmblgieoleaa
open Go.RowKit Go.Cor Go.Free



theorem of_any (x : Int) (w : World) (h0 : 0 ≤ x) (h1 : x ≤ 18446744073709551615) :
    Calls Try.prog 91 #[.int .u64 x] w fun e w' => e = .returned (.int .i64 (bw x)) ∧ w = w' := by
  go_enter Try.func91, Try.ntmps91
  go_wp2_with (refine (len64_any x w h0 h1).mono ?_; rintro e w' ⟨rfl, rfl⟩)
  go_ret
  exact ⟨rfl, rfl⟩

set_option maxHeartbeats 400000 in
theorem refOf_any (x : Int) (w : World) (h0 : 0 ≤ x) (h1 : x ≤ 18446744073709551615) :
    Calls Try.prog 72 #[.int .u64 x] w fun e w' => e = .returned (.int .i64 (bw x)) ∧ w = w' := by
  obtain ⟨v, rfl⟩ := Int.eq_ofNat_of_zero_le h0
  have hbn : bw (v : Int) = (nbits v : Int) := by simp [bw]
  rw [hbn]
  have HN := Lib.hid (nbits_u64 v (by omega))
  go_enter Try.func72, Try.ntmps72
  go_wp2
  go_loop [0, 3, 4, 5, 6, 7, 8, 9] (fun v0 n3 _ _ _ _ _ _ => ∃ u n : Nat, v0 = .int .u64 u ∧ u ≤ v ∧ n3 = .int .i64 n ∧ Hid (nbits v = n + nbits u)) (fun v0 _ _ _ _ _ _ _ => (intOf v0).toNat)
  case atStart => exact ⟨v, 0, rfl, Nat.le_refl _, rfl, Lib.hid (by simp)⟩
  case round =>
    obtain ⟨u, n, rfl, hu, rfl, hI⟩ := hrel
    by_cases hlt : 0 < u
    · have hn : n ≤ 64 := by have := HN.out; have := hI.out; omega
      go_wp2
      go_round
      case rel => exact ⟨u / 2, n + 1, val_i (by omega), by omega, val_i (by omega), Lib.hid (by rw [hI.out, nbits_pos hlt]; omega)⟩
      case measure => simp [intOf] <;> omega
    · go_wp2
      go_ret
      obtain rfl : u = 0 := by omega
      exact ⟨ret_i (by rw [hI.out, nbits_zero]; omega), rfl⟩

end Go.Proofs.Ytkbcmblgieoleaa

namespace Go.Proofs.Ytkbcmblgieoleaa
open Go.RowKit Go.Cor Go.Free

theorem least1_any (a x : Int) (w : World) :
    Calls Try.prog 124 #[.int .i64 a, .int .i64 x] w fun e w' => e = .returned (.int .i64 (min a x)) ∧ w = w' := by
  go_enter Try.func124, Try.ntmps124
  go_wp2
  go_ret
  exact ⟨ret_i (by omega), rfl⟩
theorem most1_any (a x : Int) (w : World) (h0 : 0 ≤ x) (h1 : x ≤ 18446744073709551615) :
    Calls Try.prog 90 #[.int .i64 a, .int .u64 x] w fun e w' => e = .returned (.int .i64 (max a (bw x))) ∧ w = w' := by
  go_enter Try.func90, Try.ntmps90
  go_wp2_with fail
  refine (of_any x w h0 h1).mono ?_
  rintro e w' ⟨rfl, rfl⟩
  go_wp2
  go_ret
  exact ⟨ret_i (by omega), rfl⟩
set_option maxHeartbeats 1000000 in
theorem foldLeast_any (a : Int) (A : Option Addr) (n c : Nat) (xs : List Int) (w : World) (h : Rd w .i64 A n c xs) (hn : n ≤ 2000) :
    Calls Try.prog 123 #[.slice A n c, .int .i64 a, .func (.func 124) #[] #[]] w fun e w' => e = .returned (.int .i64 (minOf a xs)) ∧ w = w' := by
  have H := Lib.hid h
  clear h
  go_enter Try.func123, Try.ntmps123
  go_wp2
  go_loop [1, 8, 11, 12, 13, 14, 15, 16, 17, 18, 19] (fun v1 _ v11 _ _ _ _ _ _ _ _ => ∃ i : Nat, v11 = .int .i64 i ∧ i ≤ n ∧ ∃ m, v1 = .int .i64 m ∧ Hid (m = minOf a (xs.take i))) (fun _ _ v11 _ _ _ _ _ _ _ _ => n - (intOf v11).toNat)
  case atStart => exact ⟨0, rfl, by omega, a, rfl, Lib.hid rfl⟩
  case round =>
    obtain ⟨i, rfl, hi, m, rfl, hI⟩ := hrel
    by_cases hlt : i < n
    · obtain ⟨b', o, rfl, hbl, hc⟩ := H.out.get (by omega)
      have hcell := hc i hlt
      rw [List.getD_eq_getElem?_getD] at hcell
      have e1 := minOf_snoc a (l := xs) (k := i) (by have := H.out.len; omega)
      rw [← hI.out] at e1
      obtain ⟨x, hx⟩ : ∃ x, xs[i]?.getD 0 = x := ⟨_, rfl⟩
      rw [hx] at hcell e1
      have E1 := Lib.hid e1
      clear hc e1 hx
      go_wp2_with fail
      refine (least1_any m x w).mono ?_
      rintro e w' ⟨rfl, rfl⟩
      go_wp2
      go_round
      case rel => exact ⟨i + 1, by go_num, by omega, _, rfl, Lib.hid E1.out.symm⟩
      case measure => simp [intOf] <;> omega
    · go_wp2
      go_ret
      obtain rfl : i = n := by omega
      have e := hI.out
      rw [List.take_of_length_le (by have := H.out.len; omega)] at e
      exact ⟨ret_i e, rfl⟩
set_option maxHeartbeats 1000000 in
theorem foldMost_any (A : Option Addr) (n c : Nat) (xs : List Int) (w : World) (h : Rd w .u64 A n c xs) (hn : n ≤ 2000) (hf : ∀ x ∈ xs, 0 ≤ x ∧ x ≤ 18446744073709551615) :
    Calls Try.prog 89 #[.slice A n c, .int .i64 0, .func (.func 90) #[] #[]] w fun e w' => e = .returned (.int .i64 (most xs)) ∧ w = w' := by
  have H := Lib.hid h
  have HF := Lib.hid hf
  clear h hf
  go_enter Try.func89, Try.ntmps89
  go_wp2
  go_loop [1, 8, 11, 12, 13, 14, 15, 16, 17, 18, 19] (fun v1 _ v11 _ _ _ _ _ _ _ _ => ∃ i : Nat, v11 = .int .i64 i ∧ i ≤ n ∧ ∃ m, v1 = .int .i64 m ∧ Hid (m = most (xs.take i))) (fun _ _ v11 _ _ _ _ _ _ _ _ => n - (intOf v11).toNat)
  case atStart => exact ⟨0, rfl, by omega, 0, rfl, Lib.hid rfl⟩
  case round =>
    obtain ⟨i, rfl, hi, m, rfl, hI⟩ := hrel
    by_cases hlt : i < n
    · obtain ⟨b', o, rfl, hbl, hc⟩ := H.out.get (by omega)
      have hcell := hc i hlt
      rw [List.getD_eq_getElem?_getD] at hcell
      have hil : i < xs.length := by have := H.out.len; omega
      have e1 := most_snoc (l := xs) (k := i) hil
      rw [← hI.out] at e1
      have hx1 := HF.out (xs[i]?.getD 0) (by rw [List.getElem?_eq_getElem hil]; exact List.getElem_mem _)
      obtain ⟨x, hx⟩ : ∃ x, xs[i]?.getD 0 = x := ⟨_, rfl⟩
      rw [hx] at hcell e1 hx1
      have E1 := Lib.hid e1
      obtain ⟨hx0, hx2⟩ := hx1
      clear hc e1 hx hil
      go_wp2_with fail
      refine (most1_any m x w hx0 hx2).mono ?_
      rintro e w' ⟨rfl, rfl⟩
      go_wp2
      go_round
      case rel => exact ⟨i + 1, by go_num, by omega, _, rfl, Lib.hid E1.out.symm⟩
      case measure => simp [intOf] <;> omega
    · go_wp2
      go_ret
      obtain rfl : i = n := by omega
      have e := hI.out
      rw [List.take_of_length_le (by have := H.out.len; omega)] at e
      exact ⟨ret_i e, rfl⟩
theorem most_any (A : Option Addr) (n c : Nat) (xs : List Int) (w : World) (h : Rd w .u64 A n c xs) (hn : n ≤ 2000) (hf : ∀ x ∈ xs, 0 ≤ x ∧ x ≤ 18446744073709551615) :
    Calls Try.prog 44 #[.slice A n c] w fun e w' => e = .returned (.int .i64 (most xs)) ∧ w = w' := by
  have HM := Lib.hid (foldMost_any A n c xs w h hn hf)
  clear h hf
  go_enter Try.func44, Try.ntmps44
  go_wp2_with fail
  refine HM.out.mono ?_
  rintro e w' ⟨rfl, rfl⟩
  go_wp2
  go_ret
  exact ⟨rfl, rfl⟩
theorem least_any (A : Option Addr) (n c : Nat) (xs : List Int) (w : World) (h : Rd w .i64 A n c xs) (hn : n ≤ 2000) :
    Calls Try.prog 82 #[.slice A n c] w fun e w' => e = .returned (.tuple #[.int .i64 (least xs), .bool (decide (0 < n))]) ∧ w = w' := by
  by_cases h0 : 0 < n
  · have HF := Lib.hid (foldLeast_any (xs[0]?.getD 0) A n c xs w h hn)
    obtain ⟨b', o, rfl, hbl, hc⟩ := h.get (by omega)
    have hcell := hc 0 h0
    rw [List.getD_eq_getElem?_getD, Nat.add_zero] at hcell
    have hd : decide (0 < n) = true := by simpa using h0
    rw [hd]
    unfold least
    obtain ⟨x, hx⟩ : ∃ x, xs[0]?.getD 0 = x := ⟨_, rfl⟩
    rw [hx] at hcell HF ⊢
    clear hc h hd hx
    go_enter Try.func82, Try.ntmps82
    go_wp2_with fail
    refine HF.out.mono ?_
    rintro e w' ⟨rfl, rfl⟩
    go_wp2
    go_ret2
    exact ⟨rfl, rfl⟩
  · obtain rfl : n = 0 := by omega
    obtain rfl : xs = [] := List.eq_nil_of_length_eq_zero h.len
    clear h
    go_enter Try.func82, Try.ntmps82
    go_wp2
    go_ret2
    exact ⟨rfl, rfl⟩
set_option maxHeartbeats 1000000 in
theorem refLeast_any (A : Option Addr) (n c : Nat) (xs : List Int) (w : World) (h : Rd w .i64 A n c xs) (hn : n ≤ 2000) :
    Calls Try.prog 15 #[.slice A n c] w fun e w' => e = .returned (.int .i64 (least xs)) ∧ w = w' := by
  by_cases h0 : 0 < n
  · obtain ⟨b', o, rfl, hbl, hc⟩ := h.get (by omega)
    have hcell0 := hc 0 h0
    rw [List.getD_eq_getElem?_getD, Nat.add_zero] at hcell0
    have HC := Lib.hid hc
    have H := Lib.hid h
    unfold least
    obtain ⟨x0, hx0⟩ : ∃ x, xs[0]?.getD 0 = x := ⟨_, rfl⟩
    rw [hx0] at hcell0 ⊢
    clear hc h hx0
    go_enter Try.func15, Try.ntmps15
    go_wp2
    go_loop [3, 4, 11, 12, 13, 14, 15, 16, 17, 18, 19, 20, 21, 22, 23, 24, 25, 26] (fun v3 v4 _ _ _ _ _ _ _ _ _ _ _ _ _ _ _ _ => ∃ i : Nat, v4 = .int .i64 i ∧ i ≤ n ∧ ∃ m, v3 = .int .i64 m ∧ Hid (m = minOf x0 (xs.take i))) (fun _ v4 _ _ _ _ _ _ _ _ _ _ _ _ _ _ _ _ => n - (intOf v4).toNat)
    case atStart => exact ⟨0, rfl, by omega, x0, rfl, Lib.hid rfl⟩
    case round =>
      obtain ⟨i, rfl, hi, m, rfl, hI⟩ := hrel
      by_cases hlt : i < n
      · have hcell := HC.out i hlt
        rw [List.getD_eq_getElem?_getD] at hcell
        have e1 := minOf_snoc x0 (l := xs) (k := i) (by have := H.out.len; omega)
        rw [← hI.out] at e1
        obtain ⟨x, hx⟩ : ∃ x, xs[i]?.getD 0 = x := ⟨_, rfl⟩
        rw [hx] at hcell e1
        have E1 := Lib.hid e1
        clear e1 hx
        by_cases hxm : x < m
        · go_wp2
          go_round
          case rel => exact ⟨i + 1, by go_num, by omega, _, rfl, Lib.hid (by rw [E1.out]; omega)⟩
          case measure => simp [intOf] <;> omega
        · go_wp2
          go_round
          case rel => exact ⟨i + 1, by go_num, by omega, _, rfl, Lib.hid (by rw [E1.out]; omega)⟩
          case measure => simp [intOf] <;> omega
      · go_wp2
        go_ret
        obtain rfl : i = n := by omega
        have e := hI.out
        rw [List.take_of_length_le (by have := H.out.len; omega)] at e
        exact ⟨ret_i e, rfl⟩
  · obtain rfl : n = 0 := by omega
    obtain rfl : xs = [] := List.eq_nil_of_length_eq_zero h.len
    clear h
    go_enter Try.func15, Try.ntmps15
    go_wp2
    go_ret
    exact ⟨rfl, rfl⟩
set_option maxHeartbeats 1000000 in
theorem refMost_any (A : Option Addr) (n c : Nat) (xs : List Int) (w : World) (h : Rd w .u64 A n c xs) (hn : n ≤ 2000) (hf : ∀ x ∈ xs, 0 ≤ x ∧ x ≤ 18446744073709551615) :
    Calls Try.prog 80 #[.slice A n c] w fun e w' => e = .returned (.int .i64 (most xs)) ∧ w = w' := by
  have H := Lib.hid h
  have HF := Lib.hid hf
  clear h hf
  go_enter Try.func80, Try.ntmps80
  go_wp2
  go_loop [3, 4, 5, 6, 7, 8, 9, 10, 11, 12, 13, 14, 15, 16, 17, 18, 19, 20, 21, 22] (fun v3 v4 _ _ _ _ _ _ _ _ _ _ _ _ _ _ _ _ _ _ => ∃ i : Nat, v4 = .int .i64 i ∧ i ≤ n ∧ ∃ m, v3 = .int .i64 m ∧ Hid (m = most (xs.take i))) (fun _ v4 _ _ _ _ _ _ _ _ _ _ _ _ _ _ _ _ _ _ => n - (intOf v4).toNat)
  case atStart => exact ⟨0, rfl, by omega, 0, rfl, Lib.hid rfl⟩
  case round =>
    obtain ⟨i, rfl, hi, m, rfl, hI⟩ := hrel
    by_cases hlt : i < n
    · obtain ⟨b', o, rfl, hbl, hc⟩ := H.out.get (by omega)
      have hcell := hc i hlt
      rw [List.getD_eq_getElem?_getD] at hcell
      have hil : i < xs.length := by have := H.out.len; omega
      have e1 := most_snoc (l := xs) (k := i) hil
      rw [← hI.out] at e1
      have hx1 := HF.out (xs[i]?.getD 0) (by rw [List.getElem?_eq_getElem hil]; exact List.getElem_mem _)
      obtain ⟨x, hx⟩ : ∃ x, xs[i]?.getD 0 = x := ⟨_, rfl⟩
      rw [hx] at hcell e1 hx1
      have E1 := Lib.hid e1
      obtain ⟨hx0, hx2⟩ := hx1
      clear hc e1 hx hil
      by_cases hxm : bw x ≤ m
      · go_wp2_with fail
        refine (refOf_any x w hx0 hx2).mono ?_
        rintro e w' ⟨rfl, rfl⟩
        go_wp2
        go_round
        case rel => exact ⟨i + 1, by go_num, by omega, _, rfl, Lib.hid (by rw [E1.out]; omega)⟩
        case measure => simp [intOf] <;> omega
      · go_wp2_with fail
        refine (refOf_any x w hx0 hx2).mono ?_
        rintro e w' ⟨rfl, rfl⟩
        go_wp2_with fail
        refine (refOf_any x w hx0 hx2).mono ?_
        rintro e w' ⟨rfl, rfl⟩
        go_wp2
        go_round
        case rel => exact ⟨i + 1, by go_num, by omega, _, rfl, Lib.hid (by rw [E1.out]; omega)⟩
        case measure => simp [intOf] <;> omega
    · go_wp2
      go_ret
      obtain rfl : i = n := by omega
      have e := hI.out
      rw [List.take_of_length_le (by have := H.out.len; omega)] at e
      exact ⟨ret_i e, rfl⟩
end Go.Proofs.Ytkbcmblgieoleaa

namespace Go.Cor
open Go Go.RowKit Go.Free
end Go.Cor
namespace Go.Proofs.Ytkbcmblgieoleaa
open Go.RowKit Go.Cor Go.Free

theorem back1_any (b : Nat) (f x : Int) (w : World) (hb : Box w b 2 (.int .i64 f)) :
    Calls Try.prog 114 #[.int .u64 x, .pointer (some ⟨b, 0, none⟩)] w fun e w' => e = .returned (.int .i64 (w64 (x + f))) ∧ w = w' := by
  have hc := cell_of_one hb
  clear hb
  go_enter Try.func114, Try.ntmps114
  go_wp2
  go_ret
  exact ⟨ret_i (by unfold w64; simp only [wrap64]; omega), rfl⟩
theorem offsets1_any (b : Nat) (f x : Int) (w : World) (hb : Box w b 2 (.int .i64 f)) :
    Calls Try.prog 126 #[.int .i64 x, .pointer (some ⟨b, 0, none⟩)] w fun e w' => e = .returned (.int .u64 (wu64 (x - f))) ∧ w = w' := by
  have hc := cell_of_one hb
  clear hb
  go_enter Try.func126, Try.ntmps126
  go_wp2
  go_ret
  exact ⟨ret_i (by unfold wu64; simp only [wrap64, wrapu64]; omega), rfl⟩
set_option maxHeartbeats 1000000 in
theorem eachBack_any (b : Nat) (f : Int) (A : Option Addr) (n c : Nat) (xs : List Int) (w : World) (h : Rd w .u64 A n c xs) (hn : n ≤ 2000) (hb : Box w b 2 (.int .i64 f)) :
    Calls Try.prog 113 #[.slice A n c, .func (.func 114) #[] #[.pointer (some ⟨b, 0, none⟩)]] w (RetRow w.heap.size 2 .i64 w (backs f xs)) := by
  have H := Lib.hid h
  have HB := Lib.hid hb
  clear h hb
  go_enter Try.func113, Try.ntmps113
  go_wp2
  go_loopw [5, 7, 10, 11, 12, 13, 14, 15, 16, 17, 18, 19, 20] (fun v5 _ v10 _ _ _ _ _ _ _ _ _ _ wr => ∃ i : Nat, v10 = .int .i64 i ∧ i ≤ n ∧ ∃ A' c', v5 = .slice A' i c' ∧ Hid (Owns wr w.heap.size 2 .i64 A' i c' (backs f (xs.take i)) ∧ Below w.heap.size w wr))
    (fun _ _ v10 _ _ _ _ _ _ _ _ _ _ _ => n - (intOf v10).toNat)
  case atStart => exact ⟨0, rfl, by omega, none, 0, rfl, Lib.hid ⟨owns_nil _ _ _ _, Below.refl _ _⟩⟩
  case round =>
    obtain ⟨i, rfl, hi, A', c', rfl, hI⟩ := hrel
    by_cases hlt : i < n
    · obtain ⟨b', o, rfl, hbl, hc⟩ := (H.out.below hI.out.2).get (by omega)
      have hcell := hc i hlt
      have hl := H.out.len
      have e1 := map_take_snoc (l := xs) (fun x => w64 (x + f)) (k := i) (by omega)
      rw [List.getD_eq_getElem?_getD] at hcell
      obtain ⟨x, hx⟩ : ∃ x, xs[i]?.getD 0 = x := ⟨_, rfl⟩
      rw [hx] at hcell e1
      have E1 := Lib.hid e1
      have HBb := Lib.hid (HB.out.keep (S := fun _ _ => True) (.of_below hI.out.2) trivial)
      clear hc hl e1 hx
      go_wp2_with fail
      refine (back1_any b f x wr HBb.out).mono ?_
      rintro e w' ⟨rfl, rfl⟩
      go_wp2_with (at_builtin; refine wpList_append_r rfl rfl elemI64 (hI.out.1.alloc _) rfl (RdV.one (Box.new _ _ _)) rfl one_one (by omega) (by omega) (by have := hI.out.2.size; simp; omega) ?_; intro A2 c2 w2 hown hg _)
      go_roundw
      case rel =>
        refine ⟨i + 1, by go_num, by omega, A2, c2, rfl, Lib.hid ⟨?_, below_grown (hI.out.2.alloc hI.out.2.size _) (hI.out.1.alloc _) hg (by have := hI.out.2.size; simp; omega)⟩⟩
        have := owns_snoc hown
        rw [show backs f (xs.take i) ++ _ = backs f (xs.take (i + 1)) from E1.out] at this
        exact this
      case measure => simp [intOf] <;> omega
    · go_wp2
      go_ret
      obtain rfl : i = n := by omega
      refine ⟨A', i, c', rfl, ?_, hI.out.2⟩
      have := hI.out.1
      rwa [List.take_of_length_le (by have := H.out.len; omega)] at this
set_option maxHeartbeats 1000000 in
theorem eachOffsets_any (b : Nat) (f : Int) (A : Option Addr) (n c : Nat) (xs : List Int) (w : World) (h : Rd w .i64 A n c xs) (hn : n ≤ 2000) (hb : Box w b 2 (.int .i64 f)) :
    Calls Try.prog 125 #[.slice A n c, .func (.func 126) #[] #[.pointer (some ⟨b, 0, none⟩)]] w (RetRow w.heap.size 32 .u64 w (offsets f xs)) := by
  have H := Lib.hid h
  have HB := Lib.hid hb
  clear h hb
  go_enter Try.func125, Try.ntmps125
  go_wp2
  go_loopw [5, 7, 10, 11, 12, 13, 14, 15, 16, 17, 18, 19, 20] (fun v5 _ v10 _ _ _ _ _ _ _ _ _ _ wr => ∃ i : Nat, v10 = .int .i64 i ∧ i ≤ n ∧ ∃ A' c', v5 = .slice A' i c' ∧ Hid (Owns wr w.heap.size 32 .u64 A' i c' (offsets f (xs.take i)) ∧ Below w.heap.size w wr))
    (fun _ _ v10 _ _ _ _ _ _ _ _ _ _ _ => n - (intOf v10).toNat)
  case atStart => exact ⟨0, rfl, by omega, none, 0, rfl, Lib.hid ⟨owns_nil _ _ _ _, Below.refl _ _⟩⟩
  case round =>
    obtain ⟨i, rfl, hi, A', c', rfl, hI⟩ := hrel
    by_cases hlt : i < n
    · obtain ⟨b', o, rfl, hbl, hc⟩ := (H.out.below hI.out.2).get (by omega)
      have hcell := hc i hlt
      have hl := H.out.len
      have e1 := map_take_snoc (l := xs) (fun x => wu64 (x - f)) (k := i) (by omega)
      rw [List.getD_eq_getElem?_getD] at hcell
      obtain ⟨x, hx⟩ : ∃ x, xs[i]?.getD 0 = x := ⟨_, rfl⟩
      rw [hx] at hcell e1
      have E1 := Lib.hid e1
      have HBb := Lib.hid (HB.out.keep (S := fun _ _ => True) (.of_below hI.out.2) trivial)
      clear hc hl e1 hx
      go_wp2_with fail
      refine (offsets1_any b f x wr HBb.out).mono ?_
      rintro e w' ⟨rfl, rfl⟩
      go_wp2_with (at_builtin; refine wpList_append_r rfl rfl elemU64 (hI.out.1.alloc _) rfl (RdV.one (Box.new _ _ _)) rfl one_one (by omega) (by omega) (by have := hI.out.2.size; simp; omega) ?_; intro A2 c2 w2 hown hg _)
      go_roundw
      case rel =>
        refine ⟨i + 1, by go_num, by omega, A2, c2, rfl, Lib.hid ⟨?_, below_grown (hI.out.2.alloc hI.out.2.size _) (hI.out.1.alloc _) hg (by have := hI.out.2.size; simp; omega)⟩⟩
        have := owns_snoc hown
        rw [show offsets f (xs.take i) ++ _ = offsets f (xs.take (i + 1)) from E1.out] at this
        exact this
      case measure => simp [intOf] <;> omega
    · go_wp2
      go_ret
      obtain rfl : i = n := by omega
      refine ⟨A', i, c', rfl, ?_, hI.out.2⟩
      have := hI.out.1
      rwa [List.take_of_length_le (by have := H.out.len; omega)] at this
theorem back_any (f : Int) (A : Option Addr) (n c : Nat) (xs : List Int) (w : World) (h : Rd w .u64 A n c xs) (hn : n ≤ 2000) :
    Calls Try.prog 70 #[.int .i64 f, .slice A n c] w (RetRow w.heap.size 2 .i64 w (backs f xs)) := by
  have H := Lib.hid h
  clear h
  go_enter Try.func70, Try.ntmps70
  go_wp2_with fail
  refine (eachBack_any _ f A n c xs _ (H.out.alloc _) hn (Box.new _ _ _)).mono ?_
  rintro e w1 ⟨A2, n2, c2, rfl, hown, hb⟩
  go_wp2
  go_ret
  exact ⟨A2, n2, c2, rfl, owns_weak hown (by simp), ((Below.refl _ _).alloc (Nat.le_refl _) _).trans (hb.mono (by simp))⟩
theorem offsets_any (f : Int) (A : Option Addr) (n c : Nat) (xs : List Int) (w : World) (h : Rd w .i64 A n c xs) (hn : n ≤ 2000) :
    Calls Try.prog 83 #[.int .i64 f, .slice A n c] w (RetRow w.heap.size 32 .u64 w (offsets f xs)) := by
  have H := Lib.hid h
  clear h
  go_enter Try.func83, Try.ntmps83
  go_wp2_with fail
  refine (eachOffsets_any _ f A n c xs _ (H.out.alloc _) hn (Box.new _ _ _)).mono ?_
  rintro e w1 ⟨A2, n2, c2, rfl, hown, hb⟩
  go_wp2
  go_ret
  exact ⟨A2, n2, c2, rfl, owns_weak hown (by simp), ((Below.refl _ _).alloc (Nat.le_refl _) _).trans (hb.mono (by simp))⟩
end Go.Proofs.Ytkbcmblgieoleaa

namespace Go.Proofs.Ytkbcmblgieoleaa
open Go.RowKit Go.Cor Go.Free

theorem deltas_take (l : List Int) (k : Nat) : ((List.range k).map (delta l)).length = k := by simp
theorem deltas_end {l : List Int} {k : Nat} (h : l.length ≤ k + 1) (hk : k + 1 ≤ l.length ∨ (k = 0)) : (List.range k).map (delta l) = deltas l := by
  unfold deltas; congr 2; omega

set_option maxHeartbeats 1000000 in
theorem deltas_any (A : Option Addr) (n c : Nat) (xs : List Int) (w : World) (h : Rd w .i64 A n c xs) (hn : n ≤ 2000) :
    Calls Try.prog 40 #[.slice A n c] w (RetRow w.heap.size 2 .i64 w (deltas xs)) := by
  have H := Lib.hid h
  clear h
  go_enter Try.func40, Try.ntmps40
  go_wp2
  go_loopw [3, 4, 5, 6, 7, 8, 9, 10, 11, 12, 13, 14, 15, 16, 17, 18, 19, 20, 21, 22, 23] (fun v3 v4 _ _ _ _ _ _ _ _ _ _ _ _ _ _ _ _ _ _ _ wr => ∃ i : Nat, v4 = .int .i64 ((i : Int) + 1) ∧ (i + 1 ≤ n ∨ i = 0) ∧ ∃ A' c', v3 = .slice A' i c' ∧ Hid (Owns wr w.heap.size 2 .i64 A' i c' ((List.range i).map (delta xs)) ∧ Below w.heap.size w wr))
    (fun _ v4 _ _ _ _ _ _ _ _ _ _ _ _ _ _ _ _ _ _ _ _ => n + 1 - (intOf v4).toNat)
  case atStart => exact ⟨0, rfl, .inr rfl, none, 0, rfl, Lib.hid ⟨owns_nil _ _ _ _, Below.refl _ _⟩⟩
  case round =>
    obtain ⟨i, rfl, hi, A', c', rfl, hI⟩ := hrel
    by_cases hlt : i + 1 < n
    · obtain ⟨b, o, rfl, hbl, hc⟩ := (H.out.below hI.out.2).get (by omega)
      have hcx := hc i (by omega)
      have hcy := hc (i + 1) hlt
      rw [List.getD_eq_getElem?_getD] at hcx hcy
      have e1 := range_map_snoc (delta xs) i
      have e0 : delta xs i = w64 (xs[i + 1]?.getD 0 - xs[i]?.getD 0) := rfl
      obtain ⟨x, hx⟩ : ∃ x, xs[i]?.getD 0 = x := ⟨_, rfl⟩
      obtain ⟨y, hy⟩ : ∃ y, xs[i + 1]?.getD 0 = y := ⟨_, rfl⟩
      rw [hx, hy] at e0
      rw [hx] at hcx
      rw [hy] at hcy
      rw [e0] at e1
      have E1 := Lib.hid e1
      clear hc e1 e0 hx hy
      go_wp2_with fail
      refine wp_region_free 12 (by kernel_rfl) (by kernel_rfl) ?_
      refine chain_val (.slice A' i c') (S := [3]) rfl ?_ ?_
      · intro ρ w' hE hB hs
        have h3 : ρ (.tmp 3) = .slice A' i c' := hs 3 (by decide)
        clear hs
        refine if_t (by rfl) ?_
        (go_simp <;> exact wrapi64_in _ (by omega) (by omega))
      refine chain_val (.slice (some ⟨b, o, none⟩) n c) (S := [0]) rfl ?_ ?_
      · intro ρ w' hE hB hs
        have h0 : ρ (.tmp 0) = .slice (some ⟨b, o, none⟩) n c := hs 0 (by decide)
        clear hs
        refine if_t (by rfl) ?_
        (go_simp <;> exact wrapi64_in _ (by omega) (by omega))
      refine chain_val (.int .i64 ((i : Int) + 1)) (S := [4]) rfl ?_ ?_
      · intro ρ w' hE hB hs
        have h4 : ρ (.tmp 4) = .int .i64 ((i : Int) + 1) := hs 4 (by decide)
        clear hs
        refine if_t (by rfl) ?_
        (go_simp <;> exact wrapi64_in _ (by omega) (by omega))
      refine chain_val (.pointer (some ⟨b, o + (i + 1), none⟩)) (S := [12, 13]) rfl ?_ ?_
      · intro ρ w' hE hB hs
        have h12 : ρ (.tmp 12) = .slice (some ⟨b, o, none⟩) n c := hs 12 (by decide)
        have h13 : ρ (.tmp 13) = .int .i64 ((i : Int) + 1) := hs 13 (by decide)
        clear hs
        refine if_t (by rfl) ?_
        (go_simp <;> (intro hh; omega))
      refine chain_val (.int .i64 y) (S := [14]) rfl ?_ ?_
      · intro ρ w' hE hB hs
        have h14 : ρ (.tmp 14) = .pointer (some ⟨b, o + (i + 1), none⟩) := hs 14 (by decide)
        clear hs
        refine if_t (by rfl) ?_
        have hcl := (hB.cell (p := ⟨b, o + (i + 1), none⟩) hbl).trans hcy
        go_simp
      refine chain_val (.slice (some ⟨b, o, none⟩) n c) (S := [0]) rfl ?_ ?_
      · intro ρ w' hE hB hs
        have h0 : ρ (.tmp 0) = .slice (some ⟨b, o, none⟩) n c := hs 0 (by decide)
        clear hs
        refine if_t (by rfl) ?_
        (go_simp <;> exact wrapi64_in _ (by omega) (by omega))
      refine chain_val (.int .i64 ((i : Int) + 1)) (S := [4]) rfl ?_ ?_
      · intro ρ w' hE hB hs
        have h4 : ρ (.tmp 4) = .int .i64 ((i : Int) + 1) := hs 4 (by decide)
        clear hs
        refine if_t (by rfl) ?_
        (go_simp <;> exact wrapi64_in _ (by omega) (by omega))
      refine chain_val (.int .i64 (i : Int)) (S := [17]) rfl ?_ ?_
      · intro ρ w' hE hB hs
        have h17 : ρ (.tmp 17) = .int .i64 ((i : Int) + 1) := hs 17 (by decide)
        clear hs
        have hc := hE.const
        refine if_t (by rfl) ?_
        (go_simp <;> exact wrapi64_in _ (by omega) (by omega))
      refine chain_val (.pointer (some ⟨b, o + i, none⟩)) (S := [16, 18]) rfl ?_ ?_
      · intro ρ w' hE hB hs
        have h16 : ρ (.tmp 16) = .slice (some ⟨b, o, none⟩) n c := hs 16 (by decide)
        have h18 : ρ (.tmp 18) = .int .i64 (i : Int) := hs 18 (by decide)
        clear hs
        refine if_t (by rfl) ?_
        (go_simp <;> (intro hh; omega))
      refine chain_val (.int .i64 x) (S := [19]) rfl ?_ ?_
      · intro ρ w' hE hB hs
        have h19 : ρ (.tmp 19) = .pointer (some ⟨b, o + i, none⟩) := hs 19 (by decide)
        clear hs
        refine if_t (by rfl) ?_
        have hcl := (hB.cell (p := ⟨b, o + i, none⟩) hbl).trans hcx
        go_simp
      refine chain_val (.int .i64 (w64 (y - x))) (S := [15, 20]) rfl ?_ ?_
      · intro ρ w' hE hB hs
        have h15 : ρ (.tmp 15) = .int .i64 y := hs 15 (by decide)
        have h20 : ρ (.tmp 20) = .int .i64 x := hs 20 (by decide)
        clear hs
        refine if_t (by rfl) ?_
        (go_simp <;> exact wrapi64 _)
      refine chain_make (RdF .i64 [(w64 (y - x))]) (RdF.stable _ _) (S := [21]) rfl ?_ ?_
      · intro ρ w' hE hB hs
        have h21 : ρ (.tmp 21) = .int .i64 (w64 (y - x)) := hs 21 (by decide)
        clear hs
        exact ⟨(by rfl), .slice (some ⟨w'.heap.size, 0, none⟩) 1 1, w'.alloc (.cells #[.int .i64 (w64 (y - x))] 2), (by go_simp), (Below.refl _ _).alloc (Nat.le_refl _) _, _, _, _, rfl, Rd.lit w' 2 .i64 [(w64 (y - x))] (by simp [maxLen])⟩
      intro w1 hB1
      simp only [List.reverse_cons, List.reverse_nil, List.nil_append, List.cons_append, Go.Free.Ends, forall_eq, Act.put, List.setIfInBounds_toArray, List.set_cons_zero, List.set_cons_succ]
      rintro _ ⟨A3, n3, c3, rfl, hr3⟩
      obtain rfl : n3 = 1 := by have := hr3.len; simpa using this.symm
      have H3 := Lib.hid hr3
      have HO := Lib.hid (hI.out.1.below hB1)
      have HB1 := Lib.hid (hI.out.2.trans (hB1.mono hI.out.2.size))
      have hsz := HB1.out.size
      clear hr3 hB1
      go_wp2_with (at_builtin; refine wpList_append_r rfl rfl elemI64 HO.out rfl (Rd.toV H3.out) rfl ints_one (by omega) (by omega) hsz ?_; intro A2 c2 w2 hown hg _)
      go_roundw
      case rel =>
        refine ⟨i + 1, by go_num, by omega, A2, c2, rfl, Lib.hid ⟨?_, below_grown HB1.out HO.out hg hsz⟩⟩
        have := owns_app hown
        rw [E1.out] at this
        exact this
      case measure => simp [intOf] <;> omega
    · go_wp2
      go_ret
      refine ⟨A', i, c', rfl, ?_, hI.out.2⟩
      have := hI.out.1
      rwa [deltas_end (by have := H.out.len; omega) (by have := H.out.len; omega)] at this
set_option maxHeartbeats 1000000 in
theorem refDeltas_any (A : Option Addr) (n c : Nat) (xs : List Int) (w : World) (h : Rd w .i64 A n c xs) (hn : n ≤ 2000) :
    Calls Try.prog 79 #[.slice A n c] w (RetRow w.heap.size 2 .i64 w (deltas xs)) := by
  have H := Lib.hid h
  clear h
  go_enter Try.func79, Try.ntmps79
  go_wp2
  go_loopw [3, 4, 5, 6, 7, 8, 9, 10, 11, 12, 13, 14, 15, 16, 17, 18, 19, 20, 21, 22, 23, 24, 25, 26, 27] (fun v3 v4 _ _ _ _ _ _ _ _ _ _ _ _ _ _ _ _ _ _ _ _ _ _ _ wr => ∃ i : Nat, v4 = .int .i64 (i : Int) ∧ (i + 1 ≤ n ∨ i = 0) ∧ ∃ A' c', v3 = .slice A' i c' ∧ Hid (Owns wr w.heap.size 2 .i64 A' i c' ((List.range i).map (delta xs)) ∧ Below w.heap.size w wr))
    (fun _ v4 _ _ _ _ _ _ _ _ _ _ _ _ _ _ _ _ _ _ _ _ _ _ _ _ => n + 1 - (intOf v4).toNat)
  case atStart => exact ⟨0, rfl, .inr rfl, none, 0, rfl, Lib.hid ⟨owns_nil _ _ _ _, Below.refl _ _⟩⟩
  case round =>
    obtain ⟨i, rfl, hi, A', c', rfl, hI⟩ := hrel
    by_cases hlt : i + 1 < n
    · obtain ⟨b, o, rfl, hbl, hc⟩ := (H.out.below hI.out.2).get (by omega)
      have hcx := hc i (by omega)
      have hcy := hc (i + 1) hlt
      rw [List.getD_eq_getElem?_getD] at hcx hcy
      have e1 := range_map_snoc (delta xs) i
      have e0 : delta xs i = w64 (xs[i + 1]?.getD 0 - xs[i]?.getD 0) := rfl
      obtain ⟨x, hx⟩ : ∃ x, xs[i]?.getD 0 = x := ⟨_, rfl⟩
      obtain ⟨y, hy⟩ : ∃ y, xs[i + 1]?.getD 0 = y := ⟨_, rfl⟩
      rw [hx, hy] at e0
      rw [hx] at hcx
      rw [hy] at hcy
      rw [e0] at e1
      have E1 := Lib.hid e1
      clear hc e1 e0 hx hy
      go_wp2_with fail
      refine wp_region_free 15 (by kernel_rfl) (by kernel_rfl) ?_
      refine chain_val (.slice A' i c') (S := [3]) rfl ?_ ?_
      · intro ρ w' hE hB hs
        have h3 : ρ (.tmp 3) = .slice A' i c' := hs 3 (by decide)
        clear hs
        refine if_t (by rfl) ?_
        (go_simp <;> exact wrapi64_in _ (by omega) (by omega))
      refine chain_val (.slice (some ⟨b, o, none⟩) n c) (S := [0]) rfl ?_ ?_
      · intro ρ w' hE hB hs
        have h0 : ρ (.tmp 0) = .slice (some ⟨b, o, none⟩) n c := hs 0 (by decide)
        clear hs
        refine if_t (by rfl) ?_
        (go_simp <;> exact wrapi64_in _ (by omega) (by omega))
      refine chain_val (.int .i64 (i : Int)) (S := [4]) rfl ?_ ?_
      · intro ρ w' hE hB hs
        have h4 : ρ (.tmp 4) = .int .i64 (i : Int) := hs 4 (by decide)
        clear hs
        refine if_t (by rfl) ?_
        (go_simp <;> exact wrapi64_in _ (by omega) (by omega))
      refine chain_val (.int .i64 ((i : Int) + 1)) (S := [14]) rfl ?_ ?_
      · intro ρ w' hE hB hs
        have h14 : ρ (.tmp 14) = .int .i64 (i : Int) := hs 14 (by decide)
        clear hs
        have hc := hE.const
        refine if_t (by rfl) ?_
        (go_simp <;> exact wrapi64_in _ (by omega) (by omega))
      refine chain_val (.pointer (some ⟨b, o + (i + 1), none⟩)) (S := [13, 15]) rfl ?_ ?_
      · intro ρ w' hE hB hs
        have h13 : ρ (.tmp 13) = .slice (some ⟨b, o, none⟩) n c := hs 13 (by decide)
        have h15 : ρ (.tmp 15) = .int .i64 ((i : Int) + 1) := hs 15 (by decide)
        clear hs
        refine if_t (by rfl) ?_
        (go_simp <;> (intro hh; omega))
      refine chain_val (.int .i64 y) (S := [16]) rfl ?_ ?_
      · intro ρ w' hE hB hs
        have h16 : ρ (.tmp 16) = .pointer (some ⟨b, o + (i + 1), none⟩) := hs 16 (by decide)
        clear hs
        refine if_t (by rfl) ?_
        have hcl := (hB.cell (p := ⟨b, o + (i + 1), none⟩) hbl).trans hcy
        go_simp
      refine chain_val (.int .u64 (wu64 y)) (S := [17]) rfl ?_ ?_
      · intro ρ w' hE hB hs
        have h17 : ρ (.tmp 17) = .int .i64 y := hs 17 (by decide)
        clear hs
        refine if_t (by rfl) ?_
        (go_simp <;> exact wrapu64 y)
      refine chain_val (.slice (some ⟨b, o, none⟩) n c) (S := [0]) rfl ?_ ?_
      · intro ρ w' hE hB hs
        have h0 : ρ (.tmp 0) = .slice (some ⟨b, o, none⟩) n c := hs 0 (by decide)
        clear hs
        refine if_t (by rfl) ?_
        (go_simp <;> exact wrapi64_in _ (by omega) (by omega))
      refine chain_val (.int .i64 (i : Int)) (S := [4]) rfl ?_ ?_
      · intro ρ w' hE hB hs
        have h4 : ρ (.tmp 4) = .int .i64 (i : Int) := hs 4 (by decide)
        clear hs
        refine if_t (by rfl) ?_
        (go_simp <;> exact wrapi64_in _ (by omega) (by omega))
      refine chain_val (.pointer (some ⟨b, o + i, none⟩)) (S := [19, 20]) rfl ?_ ?_
      · intro ρ w' hE hB hs
        have h19 : ρ (.tmp 19) = .slice (some ⟨b, o, none⟩) n c := hs 19 (by decide)
        have h20 : ρ (.tmp 20) = .int .i64 (i : Int) := hs 20 (by decide)
        clear hs
        refine if_t (by rfl) ?_
        (go_simp <;> (intro hh; omega))
      refine chain_val (.int .i64 x) (S := [21]) rfl ?_ ?_
      · intro ρ w' hE hB hs
        have h21 : ρ (.tmp 21) = .pointer (some ⟨b, o + i, none⟩) := hs 21 (by decide)
        clear hs
        refine if_t (by rfl) ?_
        have hcl := (hB.cell (p := ⟨b, o + i, none⟩) hbl).trans hcx
        go_simp
      refine chain_val (.int .u64 (wu64 x)) (S := [22]) rfl ?_ ?_
      · intro ρ w' hE hB hs
        have h22 : ρ (.tmp 22) = .int .i64 x := hs 22 (by decide)
        clear hs
        refine if_t (by rfl) ?_
        (go_simp <;> exact wrapu64 x)
      refine chain_val (.int .u64 (wu64 (y - x))) (S := [18, 23]) rfl ?_ ?_
      · intro ρ w' hE hB hs
        have h18 : ρ (.tmp 18) = .int .u64 (wu64 y) := hs 18 (by decide)
        have h23 : ρ (.tmp 23) = .int .u64 (wu64 x) := hs 23 (by decide)
        clear hs
        refine if_t (by rfl) ?_
        (go_simp <;> (unfold wu64; simp only [wrapu64]; omega))
      refine chain_val (.int .i64 (w64 (y - x))) (S := [24]) rfl ?_ ?_
      · intro ρ w' hE hB hs
        have h24 : ρ (.tmp 24) = .int .u64 (wu64 (y - x)) := hs 24 (by decide)
        clear hs
        refine if_t (by rfl) ?_
        (go_simp <;> (unfold w64 wu64; simp only [wrapi64]; omega))
      refine chain_make (RdF .i64 [(w64 (y - x))]) (RdF.stable _ _) (S := [25]) rfl ?_ ?_
      · intro ρ w' hE hB hs
        have h25 : ρ (.tmp 25) = .int .i64 (w64 (y - x)) := hs 25 (by decide)
        clear hs
        exact ⟨(by rfl), .slice (some ⟨w'.heap.size, 0, none⟩) 1 1, w'.alloc (.cells #[.int .i64 (w64 (y - x))] 2), (by go_simp), (Below.refl _ _).alloc (Nat.le_refl _) _, _, _, _, rfl, Rd.lit w' 2 .i64 [(w64 (y - x))] (by simp [maxLen])⟩
      intro w1 hB1
      simp only [List.reverse_cons, List.reverse_nil, List.nil_append, List.cons_append, Go.Free.Ends, forall_eq, Act.put, List.setIfInBounds_toArray, List.set_cons_zero, List.set_cons_succ]
      rintro _ ⟨A3, n3, c3, rfl, hr3⟩
      obtain rfl : n3 = 1 := by have := hr3.len; simpa using this.symm
      have H3 := Lib.hid hr3
      have HO := Lib.hid (hI.out.1.below hB1)
      have HB1 := Lib.hid (hI.out.2.trans (hB1.mono hI.out.2.size))
      have hsz := HB1.out.size
      clear hr3 hB1
      go_wp2_with (at_builtin; refine wpList_append_r rfl rfl elemI64 HO.out rfl (Rd.toV H3.out) rfl ints_one (by omega) (by omega) hsz ?_; intro A2 c2 w2 hown hg _)
      go_roundw
      case rel =>
        refine ⟨i + 1, by go_num, by omega, A2, c2, rfl, Lib.hid ⟨?_, below_grown HB1.out HO.out hg hsz⟩⟩
        have := owns_app hown
        rw [E1.out] at this
        exact this
      case measure => simp [intOf] <;> omega
    · go_wp2
      go_ret
      refine ⟨A', i, c', rfl, ?_, hI.out.2⟩
      have := hI.out.1
      rwa [deltas_end (by have := H.out.len; omega) (by have := H.out.len; omega)] at this
set_option maxHeartbeats 1000000 in
theorem refOffsets_any (f : Int) (A : Option Addr) (n c : Nat) (xs : List Int) (w : World) (h : Rd w .i64 A n c xs) (hn : n ≤ 2000) :
    Calls Try.prog 76 #[.int .i64 f, .slice A n c] w (RetRow w.heap.size 32 .u64 w (offsets f xs)) := by
  have H := Lib.hid h
  clear h
  go_enter Try.func76, Try.ntmps76
  go_wp2
  go_loopw [5, 6, 7, 8, 9, 10, 11, 12, 13, 14, 15, 16, 17, 18, 19, 20, 21, 22, 23] (fun v5 v6 _ _ _ _ _ _ _ _ _ _ _ _ _ _ _ _ _ wr => ∃ i : Nat, v6 = .int .i64 i ∧ i ≤ n ∧ ∃ A' c', v5 = .slice A' i c' ∧ Hid (Owns wr w.heap.size 32 .u64 A' i c' (offsets f (xs.take i)) ∧ Below w.heap.size w wr))
    (fun _ v6 _ _ _ _ _ _ _ _ _ _ _ _ _ _ _ _ _ _ => n - (intOf v6).toNat)
  case atStart => exact ⟨0, rfl, by omega, none, 0, rfl, Lib.hid ⟨owns_nil _ _ _ _, Below.refl _ _⟩⟩
  case round =>
    obtain ⟨i, rfl, hi, A', c', rfl, hI⟩ := hrel
    by_cases hlt : i < n
    · obtain ⟨b', o, rfl, hbl, hc⟩ := (H.out.below hI.out.2).get (by omega)
      have hcell := hc i hlt
      have hl := H.out.len
      have e1 := map_take_snoc (l := xs) (fun x => wu64 (x - f)) (k := i) (by omega)
      rw [List.getD_eq_getElem?_getD] at hcell
      obtain ⟨x, hx⟩ : ∃ x, xs[i]?.getD 0 = x := ⟨_, rfl⟩
      rw [hx] at hcell e1
      have E1 := Lib.hid e1
      clear hc hl e1 hx
      go_wp2_with (at_builtin; refine wpList_append_r rfl rfl elemU64 (hI.out.1.alloc _) rfl (RdV.one (Box.new _ _ _)) rfl one_one (by omega) (by omega) (by have := hI.out.2.size; simp; omega) ?_; intro A2 c2 w2 hown hg _)
      go_roundw
      case rel =>
        refine ⟨i + 1, by go_num, by omega, A2, c2, rfl, Lib.hid ⟨?_, below_grown (hI.out.2.alloc hI.out.2.size _) (hI.out.1.alloc _) hg (by have := hI.out.2.size; simp; omega)⟩⟩
        have := owns_snoc hown
        rw [← show offsets f (xs.take i) ++ _ = offsets f (xs.take (i + 1)) from E1.out]
        rw [show wu64 (x - f) = IntKind.u64.wrap (IntKind.u64.wrap x - IntKind.u64.wrap f) from by unfold wu64; simp only [wrapu64]; omega]
        exact this
      case measure => simp [intOf] <;> omega
    · go_wp2
      go_ret
      obtain rfl : i = n := by omega
      refine ⟨A', i, c', rfl, ?_, hI.out.2⟩
      have := hI.out.1
      rwa [List.take_of_length_le (by have := H.out.len; omega)] at this
set_option maxHeartbeats 1000000 in
theorem sums_any (f : Int) (A : Option Addr) (n c : Nat) (xs : List Int) (w : World) (h : Rd w .i64 A n c xs) (hn : n ≤ 2000) (hf1 : -9223372036854775808 ≤ f) (hf2 : f ≤ 9223372036854775807) :
    Calls Try.prog 49 #[.int .i64 f, .slice A n c] w (RetRow w.heap.size 2 .i64 w (sums f xs)) := by
  have H := Lib.hid h
  have E0 := Lib.hid (sumAt_zero f xs hf1 hf2)
  clear h
  go_enter Try.func49, Try.ntmps49
  go_wp2
  go_loopw [0, 5, 7, 12, 13, 14, 15, 16, 17, 18, 19, 20, 21, 22, 23] (fun v0 v5 _ v12 _ _ _ _ _ _ _ _ _ _ _ wr => ∃ i : Nat, v12 = .int .i64 i ∧ i ≤ n ∧ ∃ s, v0 = .int .i64 s ∧ ∃ A' c', v5 = .slice A' (i + 1) c' ∧ Hid (s = sumAt f xs i ∧ Owns wr w.heap.size 2 .i64 A' (i + 1) c' ((List.range (i + 1)).map (sumAt f xs)) ∧ Below w.heap.size w wr))
    (fun _ _ _ v12 _ _ _ _ _ _ _ _ _ _ _ _ => n - (intOf v12).toNat)
  case atStart =>
    refine ⟨0, rfl, by omega, f, rfl, _, _, rfl, Lib.hid ⟨E0.out.symm, ?_, (Below.refl _ _).alloc (Nat.le_refl _) _⟩⟩
    have := owns_lit1 (w := w) (E := 2) (u := .int .i64 f) (Nat.le_refl w.heap.size)
    rw [show (List.range (0 + 1)).map (sumAt f xs) = [f] by simp [E0.out]]
    exact this
  case round =>
    obtain ⟨i, rfl, hi, s, rfl, A', c', rfl, hI⟩ := hrel
    by_cases hlt : i < n
    · obtain ⟨b', o, rfl, hbl, hc⟩ := (H.out.below hI.out.2.2).get (by omega)
      have hcell := hc i hlt
      have hl := H.out.len
      have e1 := range_map_snoc (sumAt f xs) (i + 1)
      have e0 := sumAt_succ f (l := xs) (k := i) (by omega)
      rw [← hI.out.1] at e0
      rw [List.getD_eq_getElem?_getD] at hcell
      obtain ⟨x, hx⟩ : ∃ x, xs[i]?.getD 0 = x := ⟨_, rfl⟩
      rw [hx] at hcell e0
      have E2 := Lib.hid e0
      rw [← e0] at e1
      have E1 := Lib.hid e1
      clear hc hl e1 e0 hx
      go_wp2_with (at_builtin; refine wpList_append_r rfl rfl elemI64 (hI.out.2.1.alloc _) rfl (RdV.one (Box.new _ _ _)) rfl one_one (by omega) (by omega) (by have := hI.out.2.2.size; simp; omega) ?_; intro A2 c2 w2 hown hg _)
      go_roundw
      case rel =>
        refine ⟨i + 1, by go_num, by omega, w64 (s + x), val_i (by unfold w64 wrap64; rfl), A2, c2, rfl, Lib.hid ⟨E2.out, ?_, below_grown (hI.out.2.2.alloc hI.out.2.2.size _) (hI.out.2.1.alloc _) hg (by have := hI.out.2.2.size; simp; omega)⟩⟩
        have := owns_snoc hown
        rw [← E1.out, show w64 (s + x) = wrap64 (s + x) from by unfold w64 wrap64; rfl]
        exact this
      case measure => simp [intOf] <;> omega
    · go_wp2
      go_ret
      obtain rfl : i = n := by omega
      refine ⟨A', i + 1, c', rfl, ?_, hI.out.2.2⟩
      have := hI.out.2.1
      unfold sums
      rwa [H.out.len]
end Go.Proofs.Ytkbcmblgieoleaa
