/-
  Chapter 7: the plain form, encoding.
-/
import Derived.Test.YthpndhdpohmoaaaPut
import Derived.Test.YthpndhdpohmoaaaBlk
namespace Go.Cor
/-- a block's plain form -/
def pform (xs : List Int) : List Int := (xs.map fun x => leb (wu64 x).toNat 8).flatten
theorem pform_snoc {l : List Int} {k : Nat} (h : k < l.length) : pform (l.take k) ++ leb (wu64 (l[k]?.getD 0)).toNat 8 = pform (l.take (k + 1)) := by
  unfold pform; rw [take_snoc h]; simp
theorem pform_len (l : List Int) : (pform l).length = 8 * l.length := by
  induction l with
  | nil => rfl
  | cons x r ih => unfold pform at *; simp [leb_len] at *; omega
theorem pform_bytes (l : List Int) : ∀ x ∈ pform l, 0 ≤ x ∧ x ≤ 255 := by
  intro x hx
  unfold pform at hx
  rw [List.mem_flatten] at hx
  obtain ⟨y, hy, hx⟩ := hx
  obtain ⟨z, _, rfl⟩ := List.mem_map.1 hy
  exact leb_bytes _ _ x hx
end Go.Cor
namespace Go.Proofs.Ythpndhdpohmoaaa
open Go.RowKit Go.Cor Go.Free

/-- the codec, and it as an interface's value -/
def plainV : Value := .agg #[]
def plainI : Value := .iface 37 (.agg #[])

theorem name_any (w : World) : Calls Try.prog 20 #[.agg #[]] w fun e w' => e = .returned (.string ⟨#[112, 108, 97, 105, 110]⟩) ∧ Below w.heap.size w w' := by
  go_enter Try.func20, Try.ntmps20
  go_wp2
  go_ret
  exact ⟨rfl, (Below.refl _ _).alloc (Nat.le_refl _) _⟩
theorem takes_any (A : Option Addr) (n c : Nat) (w : World) : Calls Try.prog 100 #[.agg #[], .slice A n c] w fun e w' => e = .returned (.bool (blk n)) ∧ Below w.heap.size w w' := by
  go_enter Try.func100, Try.ntmps100
  go_wp2_with fail
  refine (block_any n _).mono ?_
  rintro e w' ⟨rfl, rfl⟩
  go_wp2
  go_ret
  exact ⟨rfl, (Below.refl _ _).alloc (Nat.le_refl _) _⟩
theorem m_takes (w : World) : (method 237 37 (.agg #[]) "Takes").run Try.prog w = .ok (100, .agg #[]) w := by kernel_rfl
theorem m_encode (w : World) : (method 237 37 (.agg #[]) "Encode").run Try.prog w = .ok (54, .agg #[]) w := by kernel_rfl
theorem m_size (w : World) : (method 237 37 (.agg #[]) "Size").run Try.prog w = .ok (99, .agg #[]) w := by kernel_rfl
theorem m_decode (w : World) : (method 237 37 (.agg #[]) "Decode").run Try.prog w = .ok (46, .agg #[]) w := by kernel_rfl

set_option maxRecDepth 100000 in
set_option maxHeartbeats 1000000 in
theorem wrong_any (A : Option Addr) (n c : Nat) (w : World) : Calls Try.prog 57 #[.iface 37 (.agg #[]), .slice A n c] w fun e w' => e = .returned (.int .i64 (if blk n then 0 else 7)) ∧ Below w.heap.size w w' := by
  obtain ⟨q, hq⟩ : ∃ q, blk n = q := ⟨_, rfl⟩
  have hb := block_any n
  have ht := takes_any A n c
  have hm := m_takes
  rw [hq] at hb ht ⊢
  have HB := Lib.hid hb
  have HT := Lib.hid ht
  clear hb ht hq
  cases q with
  | true =>
    go_enter Try.func57, Try.ntmps57
    go_wp2_with fail
    refine (HB.out w).mono ?_
    rintro e w' ⟨rfl, rfl⟩
    go_wp2_with fail
    refine (HT.out w).mono ?_
    rintro e w1 ⟨rfl, hb⟩
    go_wp2
    go_ret
    exact ⟨rfl, hb⟩
  | false =>
    go_enter Try.func57, Try.ntmps57
    go_wp2_with fail
    refine (HB.out w).mono ?_
    rintro e w' ⟨rfl, rfl⟩
    go_wp2
    go_ret
    exact ⟨rfl, Below.refl _ _⟩

theorem size_any (A : Option Addr) (n c : Nat) (w : World) : Calls Try.prog 99 #[.agg #[], .slice A n c] w fun e w' => e = .returned (.int .i64 (if blk n then 8 * (n : Int) else 0)) ∧ Below w.heap.size w w' := by
  obtain ⟨q, hq⟩ : ∃ q, blk n = q := ⟨_, rfl⟩
  have ht := takes_any A n c
  have hn : q = true → n ≤ 1024 := by rintro rfl; have := of_decide_eq_true hq; omega
  rw [hq] at ht ⊢
  have HT := Lib.hid ht
  clear ht hq
  cases q with
  | true =>
    have hn1 := hn rfl
    clear hn
    go_enter Try.func99, Try.ntmps99
    go_wp2_with fail
    refine (HT.out _).mono ?_
    rintro e w1 ⟨rfl, hb⟩
    go_wp2
    go_ret
    exact ⟨ret_i (by simp <;> omega), ((Below.refl _ _).alloc (Nat.le_refl _) _).trans (hb.mono (by simp))⟩
  | false =>
    clear hn
    go_enter Try.func99, Try.ntmps99
    go_wp2_with fail
    refine (HT.out _).mono ?_
    rintro e w1 ⟨rfl, hb⟩
    go_wp2
    go_ret
    exact ⟨rfl, ((Below.refl _ _).alloc (Nat.le_refl _) _).trans (hb.mono (by simp))⟩

/-- what Encode hands out -/
def EncRow (B : Nat) (w : World) (n : Nat) (xs : List Int) (e : Ending) (w' : World) : Prop :=
  ∃ A m c, e = .returned (.tuple #[.slice A m c, .int .i64 (if blk n then 0 else 7)]) ∧ Owns w' B 5 .u8 A m c (if blk n then pform xs else []) ∧ Below B w w'

set_option maxRecDepth 100000 in
set_option maxHeartbeats 1000000 in
theorem encode_any (A : Option Addr) (n c : Nat) (xs : List Int) (w : World) (h : Rd w .i64 A n c xs) :
    Calls Try.prog 54 #[.agg #[], .slice A n c] w (EncRow w.heap.size w n xs) := by
  unfold EncRow
  obtain ⟨q, hq⟩ : ∃ q, blk n = q := ⟨_, rfl⟩
  have hw := wrong_any A n c
  have hn : q = true → n ≤ 1024 := by rintro rfl; have := of_decide_eq_true hq; omega
  rw [hq] at hw ⊢
  have HW := Lib.hid hw
  have H := Lib.hid h
  clear hw hq h
  cases q with
  | false =>
    clear hn
    go_enter Try.func54, Try.ntmps54
    go_wp2_with fail
    refine (HW.out _).mono ?_
    rintro e w1 ⟨rfl, hb⟩
    go_wp2
    go_ret2
    exact ⟨none, 0, 0, rfl, owns_nil _ _ _ _, ((Below.refl _ _).alloc (Nat.le_refl _) _).trans (hb.mono (by simp))⟩
  | true =>
    have hn1 := hn rfl
    clear hn
    go_enter Try.func54, Try.ntmps54
    go_wp2_with fail
    refine (HW.out _).mono ?_
    rintro e w1 ⟨rfl, hb⟩
    have HB := Lib.hid (((Below.refl w.heap.size w).alloc (Nat.le_refl _) _).trans (hb.mono (by simp)))
    clear hb
    go_wp2
    go_loopw [7, 9, 19, 20, 21, 22, 23, 24, 25, 26, 27] (fun v7 _ v19 _ _ _ _ _ _ _ _ wr => ∃ i : Nat, v19 = .int .i64 i ∧ i ≤ n ∧ ∃ A' m' c', v7 = .slice A' m' c' ∧ m' ≤ 8 * i ∧ Hid (Owns wr w.heap.size 5 .u8 A' m' c' (pform (xs.take i)) ∧ Below w.heap.size w wr))
      (fun _ _ v19 _ _ _ _ _ _ _ _ _ => n - (intOf v19).toNat)
    case atStart => exact ⟨0, rfl, by omega, none, 0, 0, rfl, by omega, Lib.hid ⟨owns_nil _ _ _ _, HB.out⟩⟩
    case round =>
      obtain ⟨i, rfl, hi, A', m', c', rfl, hm', hI⟩ := hrel
      by_cases hlt : i < n
      · obtain ⟨b', o, rfl, hbl, hc⟩ := (H.out.below hI.out.2).get (by omega)
        have hcell := hc i hlt
        have hl := H.out.len
        have e1 := pform_snoc (l := xs) (k := i) (by omega)
        rw [List.getD_eq_getElem?_getD] at hcell
        obtain ⟨x, hx⟩ : ∃ x, xs[i]?.getD 0 = x := ⟨_, rfl⟩
        rw [hx] at hcell e1
        obtain ⟨v, hv⟩ := Int.eq_ofNat_of_zero_le (wu64_bd x).1
        have hv2 : (v : Int) ≤ 18446744073709551615 := by have := (wu64_bd x).2; omega
        rw [hv, Int.toNat_natCast] at e1
        have hconv : IntKind.u64.wrap x = (v : Int) := by rw [wrapu64, ← hv]; rfl
        have E1 := Lib.hid e1
        have HPUT := Lib.hid (Put64_any A' m' c' (pform (xs.take i)) v wr (Rd.own hI.out.1) (by omega) hv2)
        clear hc hl e1 hx hv
        go_wp2_with fail
        refine HPUT.out.mono ?_
        rintro e w2 ⟨A2, m2, c2, rfl, hown2, hb2⟩
        obtain rfl : m2 = m' + 8 := by have := row_len hown2; have := row_len hI.out.1; rw [List.length_append, leb_len] at *; omega
        go_wp2
        go_roundw
        case rel =>
          refine ⟨i + 1, by go_num, by omega, A2, m' + 8, c2, rfl, by omega, Lib.hid ⟨?_, hI.out.2.trans (hb2.mono hI.out.2.size)⟩⟩
          rw [← E1.out]
          exact owns_weak hown2 hI.out.2.size
        case measure => simp [intOf] <;> omega
      · go_wp2
        go_ret2
        obtain rfl : i = n := by omega
        refine ⟨A', m', c', rfl, ?_, hI.out.2⟩
        have := hI.out.1
        rwa [List.take_of_length_le (by have := H.out.len; omega)] at this

set_option maxHeartbeats 1000000 in
theorem refEncode_any (A : Option Addr) (n c : Nat) (xs : List Int) (w : World) (h : Rd w .i64 A n c xs) (hn : n ≤ 2000) :
    Calls Try.prog 19 #[.slice A n c] w (RetRow w.heap.size 5 .u8 w (pform xs)) := by
  have H := Lib.hid h
  clear h
  go_enter Try.func19, Try.ntmps19
  go_wp2
  go_loopw [3, 4, 5, 6, 7, 8, 9, 10, 11, 12, 13, 14, 15, 16, 17, 18] (fun v3 v4 _ _ _ _ _ _ _ _ _ _ _ _ _ _ wr => ∃ i : Nat, v4 = .int .i64 i ∧ i ≤ n ∧ ∃ A' m' c', v3 = .slice A' m' c' ∧ m' ≤ 8 * i ∧ Hid (Owns wr w.heap.size 5 .u8 A' m' c' (pform (xs.take i)) ∧ Below w.heap.size w wr))
    (fun _ v4 _ _ _ _ _ _ _ _ _ _ _ _ _ _ _ => n - (intOf v4).toNat)
  case atStart => exact ⟨0, rfl, by omega, none, 0, 0, rfl, by omega, Lib.hid ⟨owns_nil _ _ _ _, Below.refl _ _⟩⟩
  case round =>
    obtain ⟨i, rfl, hi, A', m', c', rfl, hm', hI⟩ := hrel
    by_cases hlt : i < n
    · obtain ⟨b', o, rfl, hbl, hc⟩ := (H.out.below hI.out.2).get (by omega)
      have hcell := hc i hlt
      have hl := H.out.len
      have e1 := pform_snoc (l := xs) (k := i) (by omega)
      rw [List.getD_eq_getElem?_getD] at hcell
      obtain ⟨x, hx⟩ : ∃ x, xs[i]?.getD 0 = x := ⟨_, rfl⟩
      rw [hx] at hcell e1
      obtain ⟨v, hv⟩ := Int.eq_ofNat_of_zero_le (wu64_bd x).1
      have hv2 : (v : Int) ≤ 18446744073709551615 := by have := (wu64_bd x).2; omega
      rw [hv, Int.toNat_natCast] at e1
      have hconv : IntKind.u64.wrap x = (v : Int) := by rw [wrapu64, ← hv]; rfl
      have E1 := Lib.hid e1
      have HPUT := Lib.hid (refPut_any v 8 wr hv2 (by decide))
      clear hc hl e1 hx hv
      go_wp2_with fail
      refine HPUT.out.mono ?_
      rintro e w2 ⟨A2, m2, c2, rfl, hown2, hb2⟩
      obtain rfl : m2 = 8 := by have := row_len hown2; rw [leb_len] at this; omega
      have HR2 := Lib.hid (Rd.own hown2)
      have HO := Lib.hid (hI.out.1.below hb2)
      have HB := Lib.hid (hI.out.2.trans (hb2.mono hI.out.2.size))
      clear hown2 hb2
      go_wp2_with (at_builtin; refine wpList_append_r rfl rfl elemU8 HO.out rfl (Rd.toV HR2.out) rfl ints_one (by omega) (by omega) HB.out.size ?_; intro A3 c3 w3 hown hg _)
      go_roundw
      case rel =>
        refine ⟨i + 1, by go_num, by omega, A3, m' + 8, c3, rfl, by omega, Lib.hid ⟨?_, below_grown HB.out HO.out hg HB.out.size⟩⟩
        rw [← E1.out]
        exact owns_app hown
      case measure => simp [intOf] <;> omega
    · go_wp2
      go_ret
      obtain rfl : i = n := by omega
      refine ⟨A', m', c', rfl, ?_, hI.out.2⟩
      have := hI.out.1
      rwa [List.take_of_length_le (by have := H.out.len; omega)] at this
end Go.Proofs.Ythpndhdpohmoaaa
