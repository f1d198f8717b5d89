/-
  Chapter 8: the codec of short numbers.
-/
import Derived.Test.YtbfnaigefmdcdaaZvarM
import Derived.Test.YtbfnaigefmdcdaaVarI
import Derived.Test.YtbfnaigefmdcdaaCurP
import Derived.Test.YtbfnaigefmdcdaaPlainK
namespace Go.Proofs.Ytbfnaigefmdcdaa
open Go.RowKit Go.Cor Go.Free

theorem zTakes_any (A : Option Addr) (n c : Nat) (w : World) : Calls Try.prog 22 #[.agg #[], .slice A n c] w fun e w' => e = .returned (.bool (blk n)) ∧ Below w.heap.size w w' := by
  go_enter Try.func22, Try.ntmps22
  go_wp2_with fail
  refine (block_any n _).mono ?_
  rintro e w' ⟨rfl, rfl⟩
  go_wp2
  go_ret
  exact ⟨rfl, (Below.refl _ _).alloc (Nat.le_refl _) _⟩
theorem mz_takes (w : World) : (method 248 24 (.agg #[]) "Takes").run Try.prog w = .ok (22, .agg #[]) w := by kernel_rfl
theorem mz_encode (w : World) : (method 248 24 (.agg #[]) "Encode").run Try.prog w = .ok (21, .agg #[]) w := by kernel_rfl
theorem mz_size (w : World) : (method 248 24 (.agg #[]) "Size").run Try.prog w = .ok (13, .agg #[]) w := by kernel_rfl
theorem mz_decode (w : World) : (method 248 24 (.agg #[]) "Decode").run Try.prog w = .ok (18, .agg #[]) w := by kernel_rfl
theorem mz_ahead (w : World) : (nilAhead 248 24 (.agg #[]) "Decode").run Try.prog w = .ok (some false) w := by kernel_rfl
theorem zvarT : Taker 24 22 tkAll :=
  ⟨mz_takes, enters_f Try.func22 (by kernel_rfl) rfl, fun w A n c xs h _ _ => by rw [tak_all, h.len]; exact zTakes_any A n c w⟩

set_option maxRecDepth 100000 in
set_option maxHeartbeats 1000000 in
theorem zSize_any (w : World) (A : Option Addr) (n c : Nat) (xs : List Int) (h : Rd w .i64 A n c xs) (hi : In .i64 xs) (hn : n ≤ 1100) :
    Calls Try.prog 13 #[.agg #[], .slice A n c] w fun e w' => e = .returned (.int .i64 (if tak tkAll xs then ((zform xs).length : Int) else 0)) ∧ Below w.heap.size w w' := by
  have hk : tak tkAll xs = blk n := by rw [tak_all, h.len]
  have ht := zTakes_any A n c
  rw [hk]
  obtain ⟨q, hq⟩ : ∃ q, blk n = q := ⟨_, rfl⟩
  rw [hq] at ht ⊢
  have HT := Lib.hid ht
  have H := Lib.hid h
  have HI := Lib.hid hi
  clear ht hq h hi hk
  cases q with
  | false =>
    go_enter Try.func13, Try.ntmps13
    go_wp2_with fail
    refine (HT.out _).mono ?_
    rintro e w1 ⟨rfl, hb⟩
    go_wp2
    go_ret
    exact ⟨rfl, ((Below.refl _ _).alloc (Nat.le_refl _) _).trans (hb.mono (by simp))⟩
  | true =>
    go_enter Try.func13, Try.ntmps13
    go_wp2_with fail
    refine (HT.out _).mono ?_
    rintro e w1 ⟨rfl, hb⟩
    have HB := Lib.hid (((Below.refl w.heap.size w).alloc (Nat.le_refl _) _).trans (hb.mono (by simp)))
    clear hb
    go_wp2
    go_loopw [5, 7, 14, 15, 16, 17, 18, 19, 20, 21, 22, 23] (fun v5 _ v14 _ _ _ _ _ _ _ _ _ wr => ∃ i : Nat, v14 = .int .i64 i ∧ i ≤ n ∧ ∃ s : Nat, v5 = .int .i64 s ∧ s ≤ 10 * i ∧ Hid (s = (zform (xs.take i)).length ∧ Below w.heap.size w wr))
      (fun _ _ v14 _ _ _ _ _ _ _ _ _ _ => n - (intOf v14).toNat)
    case atStart => exact ⟨0, rfl, by omega, 0, rfl, by omega, Lib.hid ⟨by simp [zform], HB.out⟩⟩
    case round =>
      obtain ⟨i, rfl, hi, s, rfl, hs, hI⟩ := hrel
      by_cases hlt : i < n
      · obtain ⟨b', o, rfl, hbl, hc⟩ := (H.out.below hI.out.2).get (by omega)
        have hcell := hc i hlt
        have hl := H.out.len
        have e1 := zform_snoc (l := xs) (k := i) (by omega)
        rw [List.getD_eq_getElem?_getD] at hcell
        have hx := HI.out (xs[i]?.getD 0) (by rw [List.getElem?_eq_getElem (by omega)]; exact List.getElem_mem _)
        obtain ⟨x, hxe⟩ : ∃ x, xs[i]?.getD 0 = x := ⟨_, rfl⟩
        rw [hxe] at hcell e1 hx
        obtain ⟨hx0, hx1⟩ := hx
        obtain ⟨z, hz⟩ := Int.eq_ofNat_of_zero_le (zig_nonneg x)
        have hz2 := zig_max x hx0 hx1
        have hzig := fun w => zig_any x w hx0 hx1
        rw [hz] at hz2 hzig
        rw [hz, Int.toNat_natCast] at e1
        have e2 := congrArg List.length e1
        rw [List.length_append] at e2
        have hv10 := vput_len_u64 z (by omega)
        have E2 := Lib.hid e2
        have HZ := Lib.hid hzig
        have HSZ := Lib.hid (fun w => size_any z w hz2)
        obtain ⟨m, hm⟩ : ∃ m, (vput z).length = m := ⟨_, rfl⟩
        rw [hm] at hv10 E2 HSZ
        clear hc hl e1 e2 hxe hz hzig hm
        go_wp2_with fail
        refine (HZ.out _).mono ?_
        rintro e w2 ⟨rfl, rfl⟩
        go_wp2_with fail
        refine (HSZ.out _).mono ?_
        rintro e w2 ⟨rfl, hb2⟩
        have HB2 := Lib.hid (hI.out.2.trans (hb2.mono hI.out.2.size))
        clear hb2
        go_wp2
        go_roundw
        case rel => exact ⟨i + 1, by go_num, by omega, s + m, by go_num, by omega, Lib.hid ⟨by rw [← E2.out, ← hI.out.1], HB2.out⟩⟩
        case measure => simp [intOf] <;> omega
      · obtain rfl : i = n := by omega
        go_wp2
        go_ret
        have e1 := hI.out.1
        rw [List.take_of_length_le (by have := H.out.len; omega)] at e1
        exact ⟨ret_i (by rw [e1]), hI.out.2⟩
theorem zvarS : Sizer 24 13 tkAll zform :=
  ⟨mz_size, enters_f Try.func13 (by kernel_rfl) rfl, zSize_any⟩

set_option maxRecDepth 100000 in
set_option maxHeartbeats 1000000 in
theorem zEncode_any (w : World) (A : Option Addr) (n c : Nat) (xs : List Int) (h : Rd w .i64 A n c xs) (hi : In .i64 xs) (hn : n ≤ 1100) :
    Calls Try.prog 21 #[.agg #[], .slice A n c] w (EncG w.heap.size w tkAll zform xs) := by
  have hk : tak tkAll xs = blk n := by rw [tak_all, h.len]
  have hkw : wrg tkAll xs = if blk n then 0 else 7 := by rw [wrg_all, h.len]
  have hw := fun w h => wrongG zvarT A n c xs w h hi hn
  rw [hkw] at hw
  have HK := Lib.hid hk
  have HKW := Lib.hid hkw
  obtain ⟨q, hq⟩ : ∃ q, blk n = q := ⟨_, rfl⟩
  rw [hq] at hw HK HKW
  have HW := Lib.hid hw
  have H := Lib.hid h
  have HI := Lib.hid hi
  clear hw hq h hi hk hkw
  cases q with
  | false =>
    go_enter Try.func21, Try.ntmps21
    go_wp2_with fail
    refine (HW.out _ (H.out.alloc _)).mono ?_
    rintro e w1 ⟨rfl, hb⟩
    go_wp2
    go_ret2
    exact ⟨none, 0, 0, by rw [HKW.out]; rfl, by rw [HK.out]; exact owns_nil _ _ _ _, ((Below.refl _ _).alloc (Nat.le_refl _) _).trans (hb.mono (by simp))⟩
  | true =>
    go_enter Try.func21, Try.ntmps21
    go_wp2_with fail
    refine (HW.out _ (H.out.alloc _)).mono ?_
    rintro e w1 ⟨rfl, hb⟩
    have HB := Lib.hid (((Below.refl w.heap.size w).alloc (Nat.le_refl _) _).trans (hb.mono (by simp)))
    clear hb
    go_wp2
    go_loopw [7, 9, 19, 20, 21, 22, 23, 24, 25, 26, 27] (fun v7 _ v19 _ _ _ _ _ _ _ _ wr => ∃ i : Nat, v19 = .int .i64 i ∧ i ≤ n ∧ ∃ A' m' c', v7 = .slice A' m' c' ∧ m' ≤ 10 * i ∧ Hid (Owns wr w.heap.size 5 .u8 A' m' c' (zform (xs.take i)) ∧ Below w.heap.size w wr))
      (fun _ _ v19 _ _ _ _ _ _ _ _ _ => n - (intOf v19).toNat)
    case atStart => exact ⟨0, rfl, by omega, none, 0, 0, rfl, by omega, Lib.hid ⟨owns_nil _ _ _ _, HB.out⟩⟩
    case round =>
      obtain ⟨i, rfl, hi, A', m', c', rfl, hm', hI⟩ := hrel
      by_cases hlt : i < n
      · obtain ⟨b', o, rfl, hbl, hc⟩ := (H.out.below hI.out.2).get (by omega)
        have hcell := hc i hlt
        have hl := H.out.len
        have e1 := zform_snoc (l := xs) (k := i) (by omega)
        rw [List.getD_eq_getElem?_getD] at hcell
        have hx := HI.out (xs[i]?.getD 0) (by rw [List.getElem?_eq_getElem (by omega)]; exact List.getElem_mem _)
        obtain ⟨x, hxe⟩ : ∃ x, xs[i]?.getD 0 = x := ⟨_, rfl⟩
        rw [hxe] at hcell e1 hx
        obtain ⟨hx0, hx1⟩ := hx
        obtain ⟨z, hz⟩ := Int.eq_ofNat_of_zero_le (zig_nonneg x)
        have hz2 := zig_max x hx0 hx1
        have hzig := fun w => zig_any x w hx0 hx1
        rw [hz] at hz2 hzig
        rw [hz, Int.toNat_natCast] at e1
        have hv10 := vput_len_u64 z (by omega)
        have E1 := Lib.hid e1
        have HZ := Lib.hid hzig
        have HV10 := Lib.hid hv10
        have HPUT := Lib.hid (put_any A' m' c' (zform (xs.take i)) z wr (Rd.own hI.out.1) (by omega) hz2)
        clear hc hl e1 hxe hz hzig hv10
        go_wp2_with fail
        refine (HZ.out _).mono ?_
        rintro e w2 ⟨rfl, rfl⟩
        go_wp2_with fail
        refine HPUT.out.mono ?_
        rintro e w2 ⟨A2, m2, c2, rfl, hown2, hb2⟩
        have hm2 : m2 ≤ 10 * (i + 1) := by have := row_len hown2; have := row_len hI.out.1; have := HV10.out; rw [List.length_append] at *; omega
        have HO2 := Lib.hid (owns_weak hown2 hI.out.2.size)
        have HB2 := Lib.hid (hI.out.2.trans (hb2.mono hI.out.2.size))
        clear hown2 hb2
        go_wp2
        go_roundw
        case rel => exact ⟨i + 1, by go_num, by omega, A2, m2, c2, rfl, by omega, Lib.hid ⟨by rw [← E1.out]; exact HO2.out, HB2.out⟩⟩
        case measure => simp [intOf] <;> omega
      · go_wp2
        go_ret2
        obtain rfl : i = n := by omega
        have ho := hI.out.1
        rw [List.take_of_length_le (by have := H.out.len; omega)] at ho
        exact ⟨A', m', c', by rw [HKW.out]; rfl, by rw [HK.out]; exact ho, hI.out.2⟩
theorem zvarE : Encer 24 21 tkAll zform :=
  ⟨mz_encode, enters_f Try.func21 (by kernel_rfl) rfl, zEncode_any⟩
end Go.Proofs.Ytbfnaigefmdcdaa
