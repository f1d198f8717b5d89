/-
  A codec, as an interface's value: Wrong, Told, Back, whatever the codec.
-/
import Derived.Test.YthpndhdpohmoaaaBlk
import Derived.Test.YthpndhdpohmoaaaSli
import Derived.Test.YthpndhdpohmoaaaFreeA
namespace Go.Cor
/-- are numbers taken? -/
def tak (tk : List Int → Bool) (xs : List Int) : Bool := blk xs.length && tk xs
/-- what is wrong with a block -/
def wrg (tk : List Int → Bool) (xs : List Int) : Int := if blk xs.length then (if tk xs then 0 else 10) else 7
theorem wrg_tak {tk : List Int → Bool} {xs : List Int} (h : tak tk xs = true) : wrg tk xs = 0 := by
  unfold tak at h; unfold wrg; simp at h; simp [h]
theorem wrg_not {tk : List Int → Bool} {xs : List Int} (h : tak tk xs = false) : wrg tk xs ≠ 0 := by
  unfold tak at h; unfold wrg; simp at h; split
  · rename_i h1; rw [h h1]; decide
  · decide
end Go.Cor
namespace Go.Proofs.Ythpndhdpohmoaaa
open Go.RowKit Go.Cor Go.Free

/-- a codec whose value is the empty struct: Takes -/
structure Taker (T : TypeId) (fT : FuncId) (tk : List Int → Bool) : Prop where
  m : ∀ w, (method 237 T (.agg #[]) "Takes").run Try.prog w = .ok (fT, .agg #[]) w
  e : ∀ args w, (callFunc fT args).run Try.prog w = .ok (.enter fT args) w
  c : ∀ w A n c xs, Rd w .i64 A n c xs → In .i64 xs → n ≤ 1100 → Calls Try.prog fT #[.agg #[], .slice A n c] w fun e w' => e = .returned (.bool (tak tk xs)) ∧ Below w.heap.size w w'

set_option maxRecDepth 100000 in
set_option maxHeartbeats 1000000 in
theorem wrongG {T : TypeId} {fT : FuncId} {tk : List Int → Bool} (C : Taker T fT tk) (A : Option Addr) (n c : Nat) (xs : List Int) (w : World) (h : Rd w .i64 A n c xs) (hi : In .i64 xs) (hn : n ≤ 1100) :
    Calls Try.prog 57 #[.iface T (.agg #[]), .slice A n c] w fun e w' => e = .returned (.int .i64 (wrg tk xs)) ∧ Below w.heap.size w w' := by
  have hlen := h.len
  have hb := block_any n
  have hm := C.m
  have he := C.e
  have HT := Lib.hid (C.c w A n c xs h hi hn)
  unfold tak at HT
  unfold wrg
  rw [hlen] at HT ⊢
  obtain ⟨q, hq⟩ : ∃ q, blk n = q := ⟨_, rfl⟩
  obtain ⟨r, hr⟩ : ∃ r, tk xs = r := ⟨_, rfl⟩
  rw [hq] at hb HT ⊢
  rw [hr] at HT ⊢
  have HB := Lib.hid hb
  clear h hi hb hq hr hlen
  cases q with
  | true =>
    cases r with
    | true =>
      go_enter Try.func57, Try.ntmps57
      go_wp2_with fail
      refine (HB.out w).mono ?_
      rintro e w' ⟨rfl, rfl⟩
      go_wp2_with fail
      refine HT.out.mono ?_
      rintro e w1 ⟨rfl, hb⟩
      go_wp2
      go_ret
      exact ⟨rfl, hb⟩
    | false =>
      go_enter Try.func57, Try.ntmps57
      go_wp2_with fail
      refine (HB.out w).mono ?_
      rintro e w' ⟨rfl, rfl⟩
      go_wp2_with fail
      refine HT.out.mono ?_
      rintro e w1 ⟨rfl, hb⟩
      go_wp2
      go_ret
      exact ⟨rfl, hb⟩
  | false =>
    go_enter Try.func57, Try.ntmps57
    go_wp2_with fail
    refine (HB.out w).mono ?_
    rintro e w' ⟨rfl, rfl⟩
    go_wp2
    go_ret
    exact ⟨rfl, Below.refl _ _⟩

/-- what Encode hands out -/
def EncG (B : Nat) (w : World) (tk : List Int → Bool) (enc : List Int → List Int) (xs : List Int) (e : Ending) (w' : World) : Prop :=
  ∃ A m c, e = .returned (.tuple #[.slice A m c, .int .i64 (wrg tk xs)]) ∧ Owns w' B 5 .u8 A m c (if tak tk xs then enc xs else []) ∧ Below B w w'
/-- Encode -/
structure Encer (T : TypeId) (fE : FuncId) (tk : List Int → Bool) (enc : List Int → List Int) : Prop where
  m : ∀ w, (method 237 T (.agg #[]) "Encode").run Try.prog w = .ok (fE, .agg #[]) w
  e : ∀ args w, (callFunc fE args).run Try.prog w = .ok (.enter fE args) w
  c : ∀ w A n c xs, Rd w .i64 A n c xs → In .i64 xs → n ≤ 1100 → Calls Try.prog fE #[.agg #[], .slice A n c] w (EncG w.heap.size w tk enc xs)
/-- Size -/
structure Sizer (T : TypeId) (fS : FuncId) (tk : List Int → Bool) (enc : List Int → List Int) : Prop where
  m : ∀ w, (method 237 T (.agg #[]) "Size").run Try.prog w = .ok (fS, .agg #[]) w
  e : ∀ args w, (callFunc fS args).run Try.prog w = .ok (.enter fS args) w
  c : ∀ w A n c xs, Rd w .i64 A n c xs → In .i64 xs → n ≤ 1100 → Calls Try.prog fS #[.agg #[], .slice A n c] w fun e w' => e = .returned (.int .i64 (if tak tk xs then ((enc xs).length : Int) else 0)) ∧ Below w.heap.size w w'

set_option maxRecDepth 100000 in
set_option maxHeartbeats 3000000 in
theorem toldG {T : TypeId} {fT fE fS : FuncId} {tk : List Int → Bool} {enc : List Int → List Int} (CT : Taker T fT tk) (CE : Encer T fE tk enc) (CS : Sizer T fS tk enc)
    (A : Option Addr) (n c : Nat) (xs : List Int) (w : World) (h : Rd w .i64 A n c xs) (hi : In .i64 xs) (hn : n ≤ 1100) (B : Option Addr) (m d : Nat) (ys : List Int) (hB : Rd w .u8 B m d ys) (hy : tak tk xs = true → ys = enc xs) (t : Bool) (ht : t = tk xs) :
    Calls Try.prog 18 #[.iface T (.agg #[]), .slice A n c, .bool t, .slice B m d] w fun e w' => e = .returned (.bool true) ∧ Below w.heap.size w w' := by
  have hlen := h.len
  have hb := refBlock_any n
  have m1 := CT.m
  have e1 := CT.e
  have m2 := CE.m
  have e2 := CE.e
  have m3 := CS.m
  have e3 := CS.e
  have hT := CT.c
  have hE := CE.c w A n c xs h hi hn
  have hS := CS.c
  have hW := wrongG CT A n c xs
  have hk : tak tk xs = (blk n && tk xs) := by unfold tak; rw [hlen]
  have hkw : wrg tk xs = if blk n then (if tk xs then 0 else 10) else 7 := by unfold wrg; rw [hlen]
  unfold EncG at hE
  obtain ⟨q, hq⟩ : ∃ q, blk n = q := ⟨_, rfl⟩
  obtain ⟨r, hr⟩ : ∃ r, tk xs = r := ⟨_, rfl⟩
  rw [hr] at ht
  subst ht
  rw [hq, hr] at hk hkw
  rw [hq] at hb
  have hT' := fun w A n c h hi hn => hT w A n c xs h hi hn
  have hS' := fun w A n c h hi hn => hS w A n c xs h hi hn
  rw [hk] at hT' hS' hE hy
  rw [hkw] at hE hW
  have HE := Lib.hid hE
  have HB := Lib.hid hb
  have HW := Lib.hid hW
  have HT := Lib.hid hT'
  have HS := Lib.hid hS'
  have HR := Lib.hid hB
  have HX := Lib.hid h
  have HI := Lib.hid hi
  have HY := Lib.hid hy
  clear hE hb hW hT hS hT' hS' hq hr h hB hi hy hk hkw hlen
  cases q with
  | true =>
    cases t with
    | true =>
      go_enter Try.func18, Try.ntmps18
      go_wp2_with fail
      refine HE.out.mono ?_
      rintro e w1 ⟨A1, m1', c1, rfl, hown, hb1⟩
      simp only [Bool.and_self, if_true] at hown ⊢
      have HO := Lib.hid (Rd.own hown)
      have HB1 := Lib.hid hb1
      clear hown hb1
      go_wp2_with fail
      refine (HB.out _).mono ?_
      rintro e w' ⟨rfl, rfl⟩
      go_wp2_with fail
      refine (HW.out _ (HX.out.below HB1.out) HI.out hn).mono ?_
      rintro e w2 ⟨rfl, hb2⟩
      have HO2 := Lib.hid (HO.out.below hb2)
      have HB2 := Lib.hid (HB1.out.trans (hb2.mono HB1.out.size))
      clear hb2
      go_wp2_with fail
      refine (HT.out _ _ _ _ (HX.out.below HB2.out) HI.out hn).mono ?_
      rintro e w3 ⟨rfl, hb3⟩
      have ho3 := HO2.out.below hb3
      have HB3 := Lib.hid (HB2.out.trans (hb3.mono HB2.out.size))
      have hcv := conv_bytes ho3 38 5 9 Try.underlying38 Try.underlying5 Try.underlying9
      have hcv2 := conv_bytes (HR.out.below HB3.out) 38 5 9 Try.underlying38 Try.underlying5 Try.underlying9
      rw [HY.out rfl] at hcv2
      have hml : m = (enc xs).length := by have := HR.out.len; rw [HY.out rfl] at this; exact this.symm
      have HM := Lib.hid hml
      clear hb3 ho3 hml
      go_wp2_with fail
      refine (HS.out _ _ _ _ (HX.out.below HB3.out) HI.out hn).mono ?_
      rintro e w4 ⟨rfl, hb4⟩
      go_wp2
      go_ret
      exact ⟨ret_b (by simp [HM.out]), HB3.out.trans (hb4.mono HB3.out.size)⟩
    | false =>
      go_enter Try.func18, Try.ntmps18
      go_wp2_with fail
      refine HE.out.mono ?_
      rintro e w1 ⟨A1, m1', c1, rfl, hown, hb1⟩
      simp only [Bool.and_false, Bool.false_eq_true, if_false] at hown ⊢
      obtain rfl : m1' = 0 := by have := hown.1; simpa using this.symm
      have HB1 := Lib.hid hb1
      clear hown hb1
      go_wp2_with fail
      refine (HB.out _).mono ?_
      rintro e w' ⟨rfl, rfl⟩
      go_wp2_with fail
      refine (HW.out _ (HX.out.below HB1.out) HI.out hn).mono ?_
      rintro e w2 ⟨rfl, hb2⟩
      have HB2 := Lib.hid (HB1.out.trans (hb2.mono HB1.out.size))
      clear hb2
      go_wp2_with fail
      refine (HT.out _ _ _ _ (HX.out.below HB2.out) HI.out hn).mono ?_
      rintro e w3 ⟨rfl, hb3⟩
      have HB3 := Lib.hid (HB2.out.trans (hb3.mono HB2.out.size))
      clear hb3
      go_wp2_with fail
      refine (HS.out _ _ _ _ (HX.out.below HB3.out) HI.out hn).mono ?_
      rintro e w4 ⟨rfl, hb4⟩
      go_wp2
      go_ret
      exact ⟨rfl, HB3.out.trans (hb4.mono HB3.out.size)⟩
  | false =>
    go_enter Try.func18, Try.ntmps18
    go_wp2_with fail
    refine HE.out.mono ?_
    rintro e w1 ⟨A1, m1', c1, rfl, hown, hb1⟩
    simp only [Bool.false_and, Bool.false_eq_true, if_false] at hown ⊢
    obtain rfl : m1' = 0 := by have := hown.1; simpa using this.symm
    have HB1 := Lib.hid hb1
    clear hown hb1
    go_wp2_with fail
    refine (HB.out _).mono ?_
    rintro e w' ⟨rfl, rfl⟩
    go_wp2_with fail
    refine (HW.out _ (HX.out.below HB1.out) HI.out hn).mono ?_
    rintro e w2 ⟨rfl, hb2⟩
    have HB2 := Lib.hid (HB1.out.trans (hb2.mono HB1.out.size))
    clear hb2
    go_wp2_with fail
    refine (HT.out _ _ _ _ (HX.out.below HB2.out) HI.out hn).mono ?_
    rintro e w3 ⟨rfl, hb3⟩
    have HB3 := Lib.hid (HB2.out.trans (hb3.mono HB2.out.size))
    clear hb3
    go_wp2_with fail
    refine (HS.out _ _ _ _ (HX.out.below HB3.out) HI.out hn).mono ?_
    rintro e w4 ⟨rfl, hb4⟩
    go_wp2
    go_ret
    exact ⟨rfl, HB3.out.trans (hb4.mono HB3.out.size)⟩
end Go.Proofs.Ythpndhdpohmoaaa
