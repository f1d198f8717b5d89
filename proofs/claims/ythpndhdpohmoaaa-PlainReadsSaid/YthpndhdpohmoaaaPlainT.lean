/-
  Chapter 7: awake and Told (at the plain codec).
-/
import Derived.Test.YthpndhdpohmoaaaPlain
namespace Go.Proofs.Ythpndhdpohmoaaa
open Go.RowKit Go.Cor Go.Free

set_option maxRecDepth 100000 in
set_option maxHeartbeats 1000000 in
theorem awake07 (w : World) : Calls Try.prog 21 #[] w fun e w' => e = .returned (.bool true) ∧ Below w.heap.size w w' := by
  have he := encode_any _ 1 1 [-1] _ (Rd.lit w 2 .i64 [-1])
  unfold EncRow at he
  rw [show blk ((1 : Nat) : Int) = true by decide] at he
  have HE := Lib.hid he
  have e1 : strOfNums (pform [-1]) = ⟨#[255, 255, 255, 255, 255, 255, 255, 255]⟩ := by decide +kernel
  have E1 := Lib.hid e1
  clear he e1
  go_enter Try.func21, Try.ntmps21
  go_wp2_with fail
  refine HE.out.mono ?_
  rintro e w1 ⟨A1, m1, c1, rfl, hown, hb1⟩
  have hcv := conv_bytes (Rd.own hown) 38 5 9 Try.underlying38 Try.underlying5 Try.underlying9
  simp only [if_true] at hcv
  rw [E1.out] at hcv
  have HB := Lib.hid (((Below.refl w.heap.size w).alloc (Nat.le_refl _) _).trans (hb1.mono (by simp)))
  clear hown hb1
  go_wp2
  go_ret
  exact ⟨rfl, HB.out⟩

set_option maxRecDepth 100000 in
set_option maxHeartbeats 2000000 in
theorem told_any (A : Option Addr) (n c : Nat) (xs : List Int) (w : World) (h : Rd w .i64 A n c xs) (hn : n ≤ 1100) (B : Option Addr) (m d : Nat) (hB : Rd w .u8 B m d (pform xs)) :
    Calls Try.prog 18 #[.iface 37 (.agg #[]), .slice A n c, .bool true, .slice B m d] w fun e w' => e = .returned (.bool true) ∧ Below w.heap.size w w' := by
  obtain ⟨q, hq⟩ : ∃ q, blk n = q := ⟨_, rfl⟩
  have he := encode_any A n c xs w h
  unfold EncRow at he
  have hb := refBlock_any n
  have hw := wrong_any A n c
  have ht := takes_any A n c
  have hs := size_any A n c
  have hm1 := m_takes
  have hm2 := m_encode
  have hm3 := m_size
  have hmn : m = 8 * n := by have h1 := hB.len; have h2 := pform_len xs; have h3 := h.len; omega
  subst hmn
  rw [hq] at he hb hw ht hs
  have HE := Lib.hid he
  have HB := Lib.hid hb
  have HW := Lib.hid hw
  have HT := Lib.hid ht
  have HS := Lib.hid hs
  have HR := Lib.hid hB
  clear he hb hw ht hs hq h hB
  cases q with
  | true =>
    go_enter Try.func18, Try.ntmps18
    go_wp2_with fail
    refine HE.out.mono ?_
    rintro e w1 ⟨A1, m1, c1, rfl, hown, hb1⟩
    simp only [if_true] at hown ⊢
    have HO := Lib.hid (Rd.own hown)
    have HB1 := Lib.hid hb1
    clear hown hb1
    go_wp2_with fail
    refine (HB.out _).mono ?_
    rintro e w' ⟨rfl, rfl⟩
    go_wp2_with fail
    refine (HW.out _).mono ?_
    rintro e w2 ⟨rfl, hb2⟩
    have HO2 := Lib.hid (HO.out.below hb2)
    have HB2 := Lib.hid (HB1.out.trans (hb2.mono HB1.out.size))
    clear hb2
    go_wp2_with fail
    refine (HT.out _).mono ?_
    rintro e w3 ⟨rfl, hb3⟩
    have ho3 := HO2.out.below hb3
    have HB3 := Lib.hid (HB2.out.trans (hb3.mono HB2.out.size))
    have hcv := conv_bytes ho3 38 5 9 Try.underlying38 Try.underlying5 Try.underlying9
    have hcv2 := conv_bytes (HR.out.below HB3.out) 38 5 9 Try.underlying38 Try.underlying5 Try.underlying9
    clear hb3 ho3
    go_wp2_with fail
    refine (HS.out _).mono ?_
    rintro e w4 ⟨rfl, hb4⟩
    go_wp2
    go_ret
    exact ⟨ret_b (by simp <;> omega), HB3.out.trans (hb4.mono HB3.out.size)⟩
  | false =>
    go_enter Try.func18, Try.ntmps18
    go_wp2_with fail
    refine HE.out.mono ?_
    rintro e w1 ⟨A1, m1, c1, rfl, hown, hb1⟩
    simp only [Bool.false_eq_true, if_false] at hown ⊢
    obtain rfl : m1 = 0 := by have := hown.1; simpa using this.symm
    have HB1 := Lib.hid hb1
    clear hown hb1
    go_wp2_with fail
    refine (HB.out _).mono ?_
    rintro e w' ⟨rfl, rfl⟩
    go_wp2_with fail
    refine (HW.out _).mono ?_
    rintro e w2 ⟨rfl, hb2⟩
    have HB2 := Lib.hid (HB1.out.trans (hb2.mono HB1.out.size))
    clear hb2
    go_wp2_with fail
    refine (HT.out _).mono ?_
    rintro e w3 ⟨rfl, hb3⟩
    have HB3 := Lib.hid (HB2.out.trans (hb3.mono HB2.out.size))
    clear hb3
    go_wp2_with fail
    refine (HS.out _).mono ?_
    rintro e w4 ⟨rfl, hb4⟩
    go_wp2
    go_ret
    exact ⟨rfl, HB3.out.trans (hb4.mono HB3.out.size)⟩
end Go.Proofs.Ythpndhdpohmoaaa
