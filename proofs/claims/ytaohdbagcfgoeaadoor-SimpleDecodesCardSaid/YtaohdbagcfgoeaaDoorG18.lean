/-
  A codec whose functions ask a fact of the world (a table's reading): Wrong, Told, Back. (Printed by wip/gencodecj.py.)
  Contracts: chapter 4's functions, the program's and the reference's.
  A row of the call's own that is not empty has an address.
  The bytes of a number: cursor.put at its kinds, the reference's Put. (Printed by wip/genput.py.)
-/
import Derived.Test.YtaohdbagcfgoeaaDoorRows
import Derived.WalkKit
import Derived.WalkSpells
import Derived.WalkLawsBesides
import Derived.Test.YtaohdbagcfgoeaaDoorG1
import Derived.Test.YtaohdbagcfgoeaaDoorG5
import Derived.Test.YtaohdbagcfgoeaaDoorG7
import Derived.Test.YtaohdbagcfgoeaaDoorG9
import Derived.Test.YtaohdbagcfgoeaaDoorG11
namespace Go.Proofs.YtaohdbagcfgoeaaDoor
open Go.RowKit Go.Cor Go.Free
/-- kept by whatever only extends the world -/
def KeepJ (J : World → Prop) : Prop := ∀ w w', J w → Below w.heap.size w w' → J w'

/-- a codec whose value is the empty struct: Takes -/
structure TakerJ (J : World → Prop) (T : TypeId) (fT : FuncId) (tk : List Int → Bool) : Prop where
  m : ∀ w, (method 206 T (.agg #[]) "Takes").run Tryd.prog w = .ok (fT, .agg #[]) w
  e : ∀ args w, (callFunc fT args).run Tryd.prog w = .ok (.enter fT args) w
  c : ∀ w, J w → ∀ A n c xs, Rd w .i64 A n c xs → In .i64 xs → n ≤ 1100 → Calls Tryd.prog fT #[.agg #[], .slice A n c] w fun e w' => e = .returned (.bool (tak tk xs)) ∧ Below w.heap.size w w'

set_option maxRecDepth 100000 in
set_option maxHeartbeats 1000000 in
theorem wrongJ {J : World → Prop} (hJ : KeepJ J) {T : TypeId} {fT : FuncId} {tk : List Int → Bool} (C : TakerJ J T fT tk) (A : Option Addr) (n c : Nat) (xs : List Int) (w : World) (hj : J w) (h : Rd w .i64 A n c xs) (hi : In .i64 xs) (hn : n ≤ 1100) :
    Calls Tryd.prog 24 #[.iface T (.agg #[]), .slice A n c] w fun e w' => e = .returned (.int .i64 (wrg tk xs)) ∧ Below w.heap.size w w' := by
  have hlen := h.len
  have HJ0 := Lib.hid (show ∀ w' : World, Below w.heap.size w w' → J w' from fun w' hb => hJ w w' hj hb)
  have hb := block_any n
  have hm := C.m
  have he := C.e
  have HT := Lib.hid (C.c w hj A n c xs h hi hn)
  unfold tak at HT
  unfold wrg
  rw [hlen] at HT ⊢
  obtain ⟨q, hq⟩ : ∃ q, blk n = q := ⟨_, rfl⟩
  obtain ⟨r, hr⟩ : ∃ r, tk xs = r := ⟨_, rfl⟩
  rw [hq] at hb HT ⊢
  rw [hr] at HT ⊢
  have HB := Lib.hid hb
  clear h hi hb hq hr hlen
  cases q with
  | true =>
    cases r with
    | true =>
      go_enter Tryd.func24, Tryd.ntmps24
      go_wp2_with fail
      refine (HB.out w).mono ?_
      rintro e w' ⟨rfl, rfl⟩
      go_wp2_with fail
      refine HT.out.mono ?_
      rintro e w1 ⟨rfl, hb⟩
      go_wp2
      go_ret
      exact ⟨rfl, hb⟩
    | false =>
      go_enter Tryd.func24, Tryd.ntmps24
      go_wp2_with fail
      refine (HB.out w).mono ?_
      rintro e w' ⟨rfl, rfl⟩
      go_wp2_with fail
      refine HT.out.mono ?_
      rintro e w1 ⟨rfl, hb⟩
      go_wp2
      go_ret
      exact ⟨rfl, hb⟩
  | false =>
    go_enter Tryd.func24, Tryd.ntmps24
    go_wp2_with fail
    refine (HB.out w).mono ?_
    rintro e w' ⟨rfl, rfl⟩
    go_wp2
    go_ret
    exact ⟨rfl, Below.refl _ _⟩

/-- Encode -/
structure EncerJ (J : World → Prop) (T : TypeId) (fE : FuncId) (tk : List Int → Bool) (enc : List Int → List Int) : Prop where
  m : ∀ w, (method 206 T (.agg #[]) "Encode").run Tryd.prog w = .ok (fE, .agg #[]) w
  e : ∀ args w, (callFunc fE args).run Tryd.prog w = .ok (.enter fE args) w
  c : ∀ w, J w → ∀ A n c xs, Rd w .i64 A n c xs → In .i64 xs → n ≤ 1100 → Calls Tryd.prog fE #[.agg #[], .slice A n c] w (EncG w.heap.size w tk enc xs)
/-- Size -/
structure SizerJ (J : World → Prop) (T : TypeId) (fS : FuncId) (tk : List Int → Bool) (enc : List Int → List Int) : Prop where
  m : ∀ w, (method 206 T (.agg #[]) "Size").run Tryd.prog w = .ok (fS, .agg #[]) w
  e : ∀ args w, (callFunc fS args).run Tryd.prog w = .ok (.enter fS args) w
  c : ∀ w, J w → ∀ A n c xs, Rd w .i64 A n c xs → In .i64 xs → n ≤ 1100 → Calls Tryd.prog fS #[.agg #[], .slice A n c] w fun e w' => e = .returned (.int .i64 (if tak tk xs then ((enc xs).length : Int) else 0)) ∧ Below w.heap.size w w'

set_option maxRecDepth 100000 in
set_option maxHeartbeats 3000000 in
theorem toldJ {J : World → Prop} (hJ : KeepJ J) {T : TypeId} {fT fE fS : FuncId} {tk : List Int → Bool} {enc : List Int → List Int} (CT : TakerJ J T fT tk) (CE : EncerJ J T fE tk enc) (CS : SizerJ J T fS tk enc)
    (A : Option Addr) (n c : Nat) (xs : List Int) (w : World) (hj : J w) (h : Rd w .i64 A n c xs) (hi : In .i64 xs) (hn : n ≤ 1100) (B : Option Addr) (m d : Nat) (ys : List Int) (hB : Rd w .u8 B m d ys) (hy : tak tk xs = true → ys = enc xs) (t : Bool) (ht : t = tk xs) :
    Calls Tryd.prog 11 #[.iface T (.agg #[]), .slice A n c, .bool t, .slice B m d] w fun e w' => e = .returned (.bool true) ∧ Below w.heap.size w w' := by
  have hlen := h.len
  have HJ0 := Lib.hid (show ∀ w' : World, Below w.heap.size w w' → J w' from fun w' hb => hJ w w' hj hb)
  have hb := refBlock_any n
  have m1 := CT.m
  have e1 := CT.e
  have m2 := CE.m
  have e2 := CE.e
  have m3 := CS.m
  have e3 := CS.e
  have hT := CT.c
  have hE := CE.c w hj A n c xs h hi hn
  have hS := CS.c
  have hW := wrongJ hJ CT A n c xs
  have hk : tak tk xs = (blk n && tk xs) := by unfold tak; rw [hlen]
  have hkw : wrg tk xs = if blk n then (if tk xs then 0 else 10) else 7 := by unfold wrg; rw [hlen]
  unfold EncG at hE
  obtain ⟨q, hq⟩ : ∃ q, blk n = q := ⟨_, rfl⟩
  obtain ⟨r, hr⟩ : ∃ r, tk xs = r := ⟨_, rfl⟩
  rw [hr] at ht
  subst ht
  rw [hq, hr] at hk hkw
  rw [hq] at hb
  have hT' := fun w A n c hj h hi hn => hT w hj A n c xs h hi hn
  have hS' := fun w A n c hj h hi hn => hS w hj A n c xs h hi hn
  rw [hk] at hT' hS' hE hy
  rw [hkw] at hE hW
  have HE := Lib.hid hE
  have HB := Lib.hid hb
  have HW := Lib.hid hW
  have HT := Lib.hid hT'
  have HS := Lib.hid hS'
  have HR := Lib.hid hB
  have HX := Lib.hid h
  have HI := Lib.hid hi
  have HY := Lib.hid hy
  clear hE hb hW hT hS hT' hS' hq hr h hB hi hy hk hkw hlen
  cases q with
  | true =>
    cases t with
    | true =>
      go_enter Tryd.func11, Tryd.ntmps11
      go_wp2_with fail
      refine HE.out.mono ?_
      rintro e w1 ⟨A1, m1', c1, rfl, hown, hb1⟩
      simp only [Bool.and_self, if_true] at hown ⊢
      have HO := Lib.hid (Rd.own hown)
      have HB1 := Lib.hid hb1
      clear hown hb1
      go_wp2_with fail
      refine (HB.out _).mono ?_
      rintro e w' ⟨rfl, rfl⟩
      go_wp2_with fail
      refine (HW.out _ (HJ0.out _ HB1.out) (HX.out.below HB1.out) HI.out hn).mono ?_
      rintro e w2 ⟨rfl, hb2⟩
      have HO2 := Lib.hid (HO.out.below hb2)
      have HB2 := Lib.hid (HB1.out.trans (hb2.mono HB1.out.size))
      clear hb2
      go_wp2_with fail
      refine (HT.out _ _ _ _ (HJ0.out _ HB2.out) (HX.out.below HB2.out) HI.out hn).mono ?_
      rintro e w3 ⟨rfl, hb3⟩
      have ho3 := HO2.out.below hb3
      have HB3 := Lib.hid (HB2.out.trans (hb3.mono HB2.out.size))
      have hcv := conv_bytes ho3 30 5 9 Tryd.underlying30 Tryd.underlying5 Tryd.underlying9
      have hcv2 := conv_bytes (HR.out.below HB3.out) 30 5 9 Tryd.underlying30 Tryd.underlying5 Tryd.underlying9
      rw [HY.out rfl] at hcv2
      have hml : m = (enc xs).length := by have := HR.out.len; rw [HY.out rfl] at this; exact this.symm
      have HM := Lib.hid hml
      clear hb3 ho3 hml
      go_wp2_with fail
      refine (HS.out _ _ _ _ (HJ0.out _ HB3.out) (HX.out.below HB3.out) HI.out hn).mono ?_
      rintro e w4 ⟨rfl, hb4⟩
      go_wp2
      go_ret
      exact ⟨ret_b (by simp [HM.out]), HB3.out.trans (hb4.mono HB3.out.size)⟩
    | false =>
      go_enter Tryd.func11, Tryd.ntmps11
      go_wp2_with fail
      refine HE.out.mono ?_
      rintro e w1 ⟨A1, m1', c1, rfl, hown, hb1⟩
      simp only [Bool.and_false, Bool.false_eq_true, if_false] at hown ⊢
      obtain rfl : m1' = 0 := by have := hown.1; simpa using this.symm
      have HB1 := Lib.hid hb1
      clear hown hb1
      go_wp2_with fail
      refine (HB.out _).mono ?_
      rintro e w' ⟨rfl, rfl⟩
      go_wp2_with fail
      refine (HW.out _ (HJ0.out _ HB1.out) (HX.out.below HB1.out) HI.out hn).mono ?_
      rintro e w2 ⟨rfl, hb2⟩
      have HB2 := Lib.hid (HB1.out.trans (hb2.mono HB1.out.size))
      clear hb2
      go_wp2_with fail
      refine (HT.out _ _ _ _ (HJ0.out _ HB2.out) (HX.out.below HB2.out) HI.out hn).mono ?_
      rintro e w3 ⟨rfl, hb3⟩
      have HB3 := Lib.hid (HB2.out.trans (hb3.mono HB2.out.size))
      clear hb3
      go_wp2_with fail
      refine (HS.out _ _ _ _ (HJ0.out _ HB3.out) (HX.out.below HB3.out) HI.out hn).mono ?_
      rintro e w4 ⟨rfl, hb4⟩
      go_wp2
      go_ret
      exact ⟨rfl, HB3.out.trans (hb4.mono HB3.out.size)⟩
  | false =>
    go_enter Tryd.func11, Tryd.ntmps11
    go_wp2_with fail
    refine HE.out.mono ?_
    rintro e w1 ⟨A1, m1', c1, rfl, hown, hb1⟩
    simp only [Bool.false_and, Bool.false_eq_true, if_false] at hown ⊢
    obtain rfl : m1' = 0 := by have := hown.1; simpa using this.symm
    have HB1 := Lib.hid hb1
    clear hown hb1
    go_wp2_with fail
    refine (HB.out _).mono ?_
    rintro e w' ⟨rfl, rfl⟩
    go_wp2_with fail
    refine (HW.out _ (HJ0.out _ HB1.out) (HX.out.below HB1.out) HI.out hn).mono ?_
    rintro e w2 ⟨rfl, hb2⟩
    have HB2 := Lib.hid (HB1.out.trans (hb2.mono HB1.out.size))
    clear hb2
    go_wp2_with fail
    refine (HT.out _ _ _ _ (HJ0.out _ HB2.out) (HX.out.below HB2.out) HI.out hn).mono ?_
    rintro e w3 ⟨rfl, hb3⟩
    have HB3 := Lib.hid (HB2.out.trans (hb3.mono HB2.out.size))
    clear hb3
    go_wp2_with fail
    refine (HS.out _ _ _ _ (HJ0.out _ HB3.out) (HX.out.below HB3.out) HI.out hn).mono ?_
    rintro e w4 ⟨rfl, hb4⟩
    go_wp2
    go_ret
    exact ⟨rfl, HB3.out.trans (hb4.mono HB3.out.size)⟩
/-- Decode -/
structure DecerJ (J : World → Prop) (T : TypeId) (fD : FuncId) (dec : List Int → Int → List Int × Int) : Prop where
  m : ∀ w, (method 206 T (.agg #[]) "Decode").run Tryd.prog w = .ok (fD, .agg #[]) w
  a : ∀ w, (nilAhead 206 T (.agg #[]) "Decode").run Tryd.prog w = .ok (some false) w
  e : ∀ args w, (callFunc fD args).run Tryd.prog w = .ok (.enter fD args) w
  c : ∀ w, J w → ∀ A n c ys N, Rd w .u8 A n c ys → (∀ x ∈ ys, 0 ≤ x ∧ x ≤ 255) → n ≤ 100000 → Calls Tryd.prog fD #[.agg #[], .slice A n c, .int .i64 N] w (DecG w.heap.size w dec ys N)

set_option maxRecDepth 100000 in
set_option maxHeartbeats 4000000 in
theorem backJ {J : World → Prop} (hJ : KeepJ J) {T : TypeId} {fE fS fD : FuncId} {tk : List Int → Bool} {enc : List Int → List Int} {dec : List Int → Int → List Int × Int} (CE : EncerJ J T fE tk enc) (CS : SizerJ J T fS tk enc) (CD : DecerJ J T fD dec)
    (A : Option Addr) (n c : Nat) (xs : List Int) (w : World) (hj : J w) (h : Rd w .i64 A n c xs) (hi : In .i64 xs) (hn : n ≤ 1100) (hbk : tak tk xs = true → Backs tk enc dec xs) :
    Calls Tryd.prog 19 #[.iface T (.agg #[]), .slice A n c] w fun e w' => e = .returned (.bool true) ∧ Below w.heap.size w w' := by
  have hlen := h.len
  have HJ0 := Lib.hid (show ∀ w' : World, Below w.heap.size w w' → J w' from fun w' hb => hJ w w' hj hb)
  have m2 := CE.m
  have e2 := CE.e
  have m3 := CS.m
  have e3 := CS.e
  have m4 := CD.m
  have e4 := CD.e
  have a4 := CD.a
  have hE := CE.c w hj A n c xs h hi hn
  have hS := fun w A n c hj h hi hn => CS.c w hj A n c xs h hi hn
  have hD := CD.c
  unfold EncG at hE
  obtain ⟨q, hq⟩ : ∃ q, tak tk xs = q := ⟨_, rfl⟩
  have hw0 : q = true → wrg tk xs = 0 := fun e => wrg_tak (hq.trans e)
  have hw1 : q = false → wrg tk xs ≠ 0 := fun e => wrg_not (hq.trans e)
  rw [hq] at hE hS hbk
  have HE := Lib.hid hE
  have HS := Lib.hid hS
  have HD := Lib.hid hD
  have HX := Lib.hid h
  have HI := Lib.hid hi
  have HL := Lib.hid hlen
  clear hE hS hD hq h hi hlen
  cases q with
  | false =>
    obtain ⟨r, hr⟩ : ∃ r, wrg tk xs = r := ⟨_, rfl⟩
    rw [hr] at HE
    have hr0 : (r != 0) = true := by have := hw1 rfl; simp; omega
    clear hw0 hw1 hr hbk
    go_enter Tryd.func19, Tryd.ntmps19
    go_wp2_with fail
    refine HE.out.mono ?_
    rintro e w1 ⟨A1, m1', c1, rfl, hown, hb1⟩
    simp only [Bool.false_eq_true, if_false] at hown
    obtain rfl : m1' = 0 := by have := hown.1; simpa using this.symm
    have HB1 := Lib.hid hb1
    clear hown hb1
    go_wp2_with fail
    refine (HS.out _ _ _ _ (HJ0.out _ HB1.out) (HX.out.below HB1.out) HI.out hn).mono ?_
    rintro e w4 ⟨rfl, hb4⟩
    go_wp2
    go_ret
    exact ⟨rfl, HB1.out.trans (hb4.mono HB1.out.size)⟩
  | true =>
    have hr := hw0 rfl
    rw [hr] at HE
    obtain ⟨hby, hle, hback, hpos, hless, hmore⟩ := hbk rfl
    rw [HL.out] at hback hless hmore
    have HBY := Lib.hid hby
    have HLESS := Lib.hid hless
    have HMORE := Lib.hid hmore
    have HBACK := Lib.hid hback
    obtain ⟨bs, hbs⟩ : ∃ bs, enc xs = bs := ⟨_, rfl⟩
    simp only [if_true] at HE HS
    rw [hbs] at HE HBY HLESS HMORE HBACK HS hle hpos
    clear hw0 hw1 hr hby hback hless hmore hbk hbs
    go_enter Tryd.func19, Tryd.ntmps19
    go_wp2_with fail
    refine HE.out.mono ?_
    rintro e w1 ⟨A1, m1, c1, rfl, hown, hb1⟩
    have hm1 : bs.length = m1 := row_len hown
    subst hm1
    have HO := Lib.hid (Rd.own hown)
    have HB1 := Lib.hid hb1
    clear hown hb1
    go_wp2_with fail
    refine (HD.out w1 (HJ0.out _ HB1.out) A1 bs.length c1 bs n HO.out HBY.out (by omega)).mono ?_
    rintro e w2 ⟨A2, m2', c2, rfl, hown2, hb2⟩
    rw [HBACK.out] at hown2
    have hm2 : xs.length = m2' := row_len hown2
    rw [HL.out] at hm2
    subst hm2
    rw [HBACK.out]
    have HO2 := Lib.hid (Rd.own hown2)
    have HB2 := Lib.hid (HB1.out.trans (hb2.mono HB1.out.size))
    have HO1 := Lib.hid (HO.out.below hb2)
    clear hown2 hb2 HE HB1 HO
    go_wp2_with fail
    refine (sameI_any A2 A n c2 n c xs xs w2 HO2.out (HX.out.below HB2.out)).mono ?_
    rintro e w3 ⟨rfl, hb3⟩
    rw [decide_eq_true rfl]
    have HB3 := Lib.hid (HB2.out.trans (hb3.mono HB2.out.size))
    have HO3 := Lib.hid (HO1.out.below hb3)
    clear hb3 HB2 HO1 HO2
    go_wp2_with fail
    refine (HS.out _ _ _ _ (HJ0.out _ HB3.out) (HX.out.below HB3.out) HI.out hn).mono ?_
    rintro e w4 ⟨rfl, hb4⟩
    have HB4 := Lib.hid (HB3.out.trans (hb4.mono HB3.out.size))
    have HO4 := Lib.hid (HO3.out.below hb4)
    clear hb4 HB3 HO3
    obtain ⟨e1, z1⟩ := HLESS.out
    obtain ⟨e5, z5⟩ := HMORE.out
    obtain ⟨er1, he1⟩ : ∃ er1, (dec (bs.take (bs.length - 1)) n).2 = er1 := ⟨_, rfl⟩
    obtain ⟨er2, he2⟩ : ∃ er2, (dec (bs ++ [0]) n).2 = er2 := ⟨_, rfl⟩
    rw [he1] at e1
    rw [he2] at e5
    have N1 : (er1 == 0) = false := by simp [e1]
    have N2 : (er2 != 0) = true := by simp [e5]
    have Z1 := Lib.hid (And.intro he1 z1)
    have Z2 := Lib.hid (And.intro he2 z5)
    clear he1 he2 z1 z5 e1 e5 HLESS HMORE
    have hcp := HO4.out.cap
    go_wp2_with fail
    refine wp_region_free 17 (by kernel_rfl) (by kernel_rfl) ?_
    refine chain_val (.iface T (.agg #[])) (S := [0]) rfl ?_ ?_
    · intro ρ w' hE hB hs
      have h0 : ρ (.tmp 0) = .iface T (.agg #[]) := hs 0 (by decide)
      clear hs
      refine if_t (by rfl) ?_
      (go_simp <;> exact wrapi64_in _ (by omega) (by omega))
    refine chain_val (.slice A1 bs.length c1) (S := [5]) rfl ?_ ?_
    · intro ρ w' hE hB hs
      have h5 : ρ (.tmp 5) = .slice A1 bs.length c1 := hs 5 (by decide)
      clear hs
      refine if_t (by rfl) ?_
      (go_simp <;> exact wrapi64_in _ (by omega) (by omega))
    refine chain_val (.slice A1 bs.length c1) (S := [5]) rfl ?_ ?_
    · intro ρ w' hE hB hs
      have h5 : ρ (.tmp 5) = .slice A1 bs.length c1 := hs 5 (by decide)
      clear hs
      refine if_t (by rfl) ?_
      (go_simp <;> exact wrapi64_in _ (by omega) (by omega))
    refine chain_val (.int .i64 (bs.length : Nat)) (S := [56]) rfl ?_ ?_
    · intro ρ w' hE hB hs
      have h56 : ρ (.tmp 56) = .slice A1 bs.length c1 := hs 56 (by decide)
      clear hs
      refine if_t (by rfl) ?_
      (go_simp <;> exact wrapi64_in _ (by omega) (by omega))
    refine chain_val (.int .i64 ((bs.length - 1 : Nat) : Int)) (S := [57]) rfl ?_ ?_
    · intro ρ w' hE hB hs
      have h57 : ρ (.tmp 57) = .int .i64 (bs.length : Nat) := hs 57 (by decide)
      clear hs
      have hc := hE.const
      refine if_t (by rfl) ?_
      go_simp
      (rw [wrapi64_in _ (by omega) (by omega)]; omega)
    refine chain_fact (RdF .u8 (bs.take (bs.length - 1))) (RdF.stable _ _) (S := [55, 58]) rfl ?_ ?_
    · intro ρ w' hE hB hs
      have h55 : ρ (.tmp 55) = .slice A1 bs.length c1 := hs 55 (by decide)
      have h58 : ρ (.tmp 58) = .int .i64 ((bs.length - 1 : Nat) : Int) := hs 58 (by decide)
      clear hs
      refine if_t (by rfl) ?_
      have hrun := run_h (P := Tryd.prog) (w := w') elemU8 A1 bs.length c1 (j := bs.length - 1) (by omega) .i64
      refine ⟨_, ?_, _, _, _, rfl, (HO4.out.below hB).take (by omega)⟩
      unfold execOp
      simp only [Option.map, h55, h58, hrun, Sem.run_bind, Result.andThen_ok, Sem.run_pure]
    refine chain_val (.slice A n c) (S := [1]) rfl ?_ ?_
    · intro ρ w' hE hB hs
      have h1 : ρ (.tmp 1) = .slice A n c := hs 1 (by decide)
      clear hs
      refine if_t (by rfl) ?_
      (go_simp <;> exact wrapi64_in _ (by omega) (by omega))
    refine chain_val (.int .i64 (n : Nat)) (S := [60]) rfl ?_ ?_
    · intro ρ w' hE hB hs
      have h60 : ρ (.tmp 60) = .slice A n c := hs 60 (by decide)
      clear hs
      refine if_t (by rfl) ?_
      (go_simp <;> exact wrapi64_in _ (by omega) (by omega))
    refine chain_val (.func (.method "Decode") #[.iface T (.agg #[])] #[]) (S := [54]) rfl ?_ ?_
    · intro ρ w' hE hB hs
      have h54 : ρ (.tmp 54) = .iface T (.agg #[]) := hs 54 (by decide)
      clear hs
      refine if_t (by rfl) ?_
      go_simp
    refine chain_val (.func (.method "Decode") #[.iface T (.agg #[])] #[]) (S := [62]) rfl ?_ ?_
    · intro ρ w' hE hB hs
      have h62 : ρ (.tmp 62) = .func (.method "Decode") #[.iface T (.agg #[])] #[] := hs 62 (by decide)
      clear hs
      refine if_t (by rfl) ?_
      go_simp
    refine chain_val (.iface T (.agg #[])) (S := [54]) rfl ?_ ?_
    · intro ρ w' hE hB hs
      have h54 : ρ (.tmp 54) = .iface T (.agg #[]) := hs 54 (by decide)
      clear hs
      refine if_t (by rfl) ?_
      (go_simp <;> exact wrapi64_in _ (by omega) (by omega))
    refine chain_call (DecF w4.heap.size [] er1) (DecF.stable _ _ _) (S := [64, 59, 61]) rfl ?_ ?_
    · intro ρ w' hE hB hs
      have h59 : (RdF .u8 (bs.take (bs.length - 1))) (ρ (.tmp 59)) w' := hs 59 (by decide)
      have h61 : ρ (.tmp 61) = .int .i64 (n : Nat) := hs 61 (by decide)
      have h64 : ρ (.tmp 64) = .iface T (.agg #[]) := hs 64 (by decide)
      clear hs
      obtain ⟨A59, n59, c59, e59, r59⟩ := h59
      refine ⟨(by rfl), fD, #[.agg #[], .slice A59 n59 c59, .int .i64 n], ?_, ?_⟩
      · go_simp
      · have hl := r59.len
        rw [List.length_take] at hl
        refine (HD.out _ (HJ0.out _ (HB4.out.trans (hB.mono HB4.out.size))) _ _ _ _ n r59 (fun x hx => HBY.out x (List.mem_of_mem_take hx)) (by omega)).mono ?_
        rintro e w5 ⟨A', m', c', rfl, ho, hb⟩
        rw [Z1.out.2] at ho
        exact ⟨_, rfl, hb, A', m', c', by rw [Z1.out.1], owns_weak ho hB.size⟩
    refine chain_fact (DecF w4.heap.size [] er1) (DecF.stable _ _ _) (S := [65]) rfl ?_ ?_
    · intro ρ w' hE hB hs
      have h65 : (DecF w4.heap.size [] er1) (ρ (.tmp 65)) w' := hs 65 (by decide)
      clear hs
      refine if_t (by rfl) ?_
      exact ⟨_, rfl, h65⟩
    refine chain_fact (OwF w4.heap.size 2 .i64 []) (OwF.stable _ _ _ _) (S := [53]) rfl ?_ ?_
    · intro ρ w' hE hB hs
      have h53 : (DecF w4.heap.size [] er1) (ρ (.tmp 53)) w' := hs 53 (by decide)
      clear hs
      refine if_t (by rfl) ?_
      obtain ⟨A', m', c', e53, ho⟩ := h53
      exact ⟨.slice A' m' c', by go_simp, A', m', c', rfl, ho⟩
    refine chain_val (.int .i64 er1) (S := [53]) rfl ?_ ?_
    · intro ρ w' hE hB hs
      have h53 : (DecF w4.heap.size [] er1) (ρ (.tmp 53)) w' := hs 53 (by decide)
      clear hs
      refine if_t (by rfl) ?_
      obtain ⟨A', m', c', e53, ho⟩ := h53
      go_simp
    refine chain_fact (OwF w4.heap.size 2 .i64 []) (OwF.stable _ _ _ _) (S := [66]) rfl ?_ ?_
    · intro ρ w' hE hB hs
      have h66 : (OwF w4.heap.size 2 .i64 []) (ρ (.tmp 66)) w' := hs 66 (by decide)
      clear hs
      refine if_t (by rfl) ?_
      exact ⟨_, rfl, h66⟩
    refine chain_val (.int .i64 er1) (S := [67]) rfl ?_ ?_
    · intro ρ w' hE hB hs
      have h67 : ρ (.tmp 67) = .int .i64 er1 := hs 67 (by decide)
      clear hs
      refine if_t (by rfl) ?_
      (go_simp <;> exact wrapi64_in _ (by omega) (by omega))
    intro w1 hB1
    simp only [List.reverse_cons, List.reverse_nil, List.nil_append, List.cons_append, Go.Free.Ends, forall_eq, Act.put, List.setIfInBounds_toArray, List.set_cons_zero, List.set_cons_succ]
    rintro _ _ _ _ _ _ _ ⟨A6, m6, c6, rfl, ho6⟩ _ ⟨A7, m7, c7, rfl, ho7⟩
    obtain rfl : m7 = 0 := by have := row_len ho7; simpa using this.symm
    obtain rfl : m6 = 0 := by have := row_len ho6; simpa using this.symm
    have HB5 := Lib.hid (HB4.out.trans (hB1.mono HB4.out.size))
    have HO5 := Lib.hid (HO4.out.below hB1)
    clear hB1 ho6 ho7 HB4 HO4 Z1
    go_wp2_with fail
    refine wp_region_freeS 17 5 (fun k => k == 1 || k == 3 || k == 4) (by kernel_rfl) (by kernel_rfl) (by kernel_rfl) (by decide) rfl ?_
    refine chainS_hard (step_val (.iface T (.agg #[])) (S := [0]) rfl ?_) (by decide) rfl (hard_eq _ _) ?_
    · intro ρ w' hE hB hs
      have h0 : ρ (.tmp 0) = .iface T (.agg #[]) := hs 0 (by decide)
      clear hs
      refine if_t (by rfl) ?_
      (go_simp <;> exact wrapi64_in _ (by omega) (by omega))
    refine chainS_soft (step_make (LitF (w1.heap.size) 5) (LitF.stable _ _) (S := []) rfl ?_) (by decide) rfl ?_
    · intro ρ w' hE hB hs
      clear hs
      exact ⟨(by rfl), .slice (some ⟨w'.heap.size, 0, none⟩) 0 0, w'.alloc (.cells #[] 5), (by go_simp), (Below.refl _ _).alloc (Nat.le_refl _) _, w'.heap.size, rfl, Nat.le_trans (by omega) hB.size, heap_alloc_new w' _⟩
    refine chainS_hard (step_val (.slice A1 bs.length c1) (S := [5]) rfl ?_) (by decide) rfl (hard_eq _ _) ?_
    · intro ρ w' hE hB hs
      have h5 : ρ (.tmp 5) = .slice A1 bs.length c1 := hs 5 (by decide)
      clear hs
      refine if_t (by rfl) ?_
      (go_simp <;> exact wrapi64_in _ (by omega) (by omega))
    refine chainS_soft (step_append0 (base := w1.heap.size) (k := .u8) (xs := bs) (S := [77, 78]) elemU8 rfl rfl (by omega) ?_ (by omega) (by omega)) (by decide) rfl ?_
    · intro ρ w' hE hB hs
      have h77 : (LitF (w1.heap.size) 5) (ρ (.tmp 77)) w' := hs 77 (by decide)
      have h78 : ρ (.tmp 78) = .slice A1 bs.length c1 := hs 78 (by decide)
      clear hs
      refine ⟨(by rfl), h77, ?_⟩
      exact ⟨_, _, _, h78, HO5.out.below hB⟩
    refine chainS_soft (step_make (RdF .u8 [0]) (RdF.stable _ _) (S := []) rfl ?_) (by decide) rfl ?_
    · intro ρ w' hE hB hs
      clear hs
      have hc := hE.const
      exact ⟨(by rfl), .slice (some ⟨w'.heap.size, 0, none⟩) 1 1, w'.alloc (.cells #[.int .u8 0] 5), (by go_simp), (Below.refl _ _).alloc (Nat.le_refl _) _, _, _, _, rfl, Rd.lit w' 5 .u8 [0] (by simp [maxLen])⟩
    refine chainS_append (base := w1.heap.size) (k := .u8) (xs := bs) (ys := [0]) (S := [79, 80]) rfl elemU8 rfl rfl rfl ?_ (by simp only [List.length_cons, List.length_nil]; omega) (by simp only [List.length_cons, List.length_nil]; omega) ?_
    · intro ρ w' hE hB hs
      have h79 : (OwF (w1.heap.size) 5 .u8 bs) (ρ (.tmp 79)) w' := hs 79 (by decide)
      have h80 : (RdF .u8 [0]) (ρ (.tmp 80)) w' := hs 80 (by decide)
      clear hs
      refine ⟨(by rfl), ?_⟩
      exact ⟨h79, h80⟩
    refine chainS_hard (step_val (.slice A n c) (S := [1]) rfl ?_) (by decide) rfl (hard_eq _ _) ?_
    · intro ρ w' hE hB hs
      have h1 : ρ (.tmp 1) = .slice A n c := hs 1 (by decide)
      clear hs
      refine if_t (by rfl) ?_
      (go_simp <;> exact wrapi64_in _ (by omega) (by omega))
    refine chainS_hard (step_val (.int .i64 (n : Nat)) (S := [82]) rfl ?_) (by decide) rfl (hard_eq _ _) ?_
    · intro ρ w' hE hB hs
      have h82 : ρ (.tmp 82) = .slice A n c := hs 82 (by decide)
      clear hs
      refine if_t (by rfl) ?_
      (go_simp <;> exact wrapi64_in _ (by omega) (by omega))
    refine chainS_hard (step_val (.func (.method "Decode") #[.iface T (.agg #[])] #[]) (S := [76]) rfl ?_) (by decide) rfl (hard_eq _ _) ?_
    · intro ρ w' hE hB hs
      have h76 : ρ (.tmp 76) = .iface T (.agg #[]) := hs 76 (by decide)
      clear hs
      refine if_t (by rfl) ?_
      go_simp
    refine chainS_hard (step_val (.func (.method "Decode") #[.iface T (.agg #[])] #[]) (S := [84]) rfl ?_) (by decide) rfl (hard_eq _ _) ?_
    · intro ρ w' hE hB hs
      have h84 : ρ (.tmp 84) = .func (.method "Decode") #[.iface T (.agg #[])] #[] := hs 84 (by decide)
      clear hs
      refine if_t (by rfl) ?_
      go_simp
    refine chainS_hard (step_val (.iface T (.agg #[])) (S := [76]) rfl ?_) (by decide) rfl (hard_eq _ _) ?_
    · intro ρ w' hE hB hs
      have h76 : ρ (.tmp 76) = .iface T (.agg #[]) := hs 76 (by decide)
      clear hs
      refine if_t (by rfl) ?_
      (go_simp <;> exact wrapi64_in _ (by omega) (by omega))
    refine chainS_late (step_call (DecF w1.heap.size [] er2) (DecF.stable _ _ _) (S := [86, 81, 83]) rfl ?_) (by decide) rfl (by kernel_rfl) ?_
    · intro ρ w' hE hB hs
      have h81 : (OwF (w1.heap.size) 5 .u8 (bs ++ [0])) (ρ (.tmp 81)) w' := hs 81 (by decide)
      have h83 : ρ (.tmp 83) = .int .i64 (n : Nat) := hs 83 (by decide)
      have h86 : ρ (.tmp 86) = .iface T (.agg #[]) := hs 86 (by decide)
      clear hs
      obtain ⟨A81, n81, c81, e81, r81⟩ := h81
      refine ⟨(by rfl), fD, #[.agg #[], .slice A81 n81 c81, .int .i64 n], ?_, ?_⟩
      · go_simp
      · have hl := row_len r81
        simp only [List.length_append, List.length_cons, List.length_nil] at hl
        refine (HD.out _ (HJ0.out _ (HB5.out.trans (hB.mono HB5.out.size))) _ _ _ _ n (Rd.own r81) (By.app0 HBY.out) (by omega)).mono ?_
        rintro e w5 ⟨A', m', c', rfl, ho, hb⟩
        rw [Z2.out.2] at ho
        exact ⟨_, rfl, hb, A', m', c', by rw [Z2.out.1], owns_weak ho hB.size⟩
    refine chainS_late (step_fact (DecF w1.heap.size [] er2) (DecF.stable _ _ _) (S := [87]) rfl ?_) (by decide) rfl (by kernel_rfl) ?_
    · intro ρ w' hE hB hs
      have h87 : (DecF w1.heap.size [] er2) (ρ (.tmp 87)) w' := hs 87 (by decide)
      clear hs
      refine if_t (by rfl) ?_
      exact ⟨_, rfl, h87⟩
    refine chainS_late (step_fact (OwF w1.heap.size 2 .i64 []) (OwF.stable _ _ _ _) (S := [75]) rfl ?_) (by decide) rfl (by kernel_rfl) ?_
    · intro ρ w' hE hB hs
      have h75 : (DecF w1.heap.size [] er2) (ρ (.tmp 75)) w' := hs 75 (by decide)
      clear hs
      refine if_t (by rfl) ?_
      obtain ⟨A', m', c', e75, ho⟩ := h75
      exact ⟨.slice A' m' c', by go_simp, A', m', c', rfl, ho⟩
    refine chainS_hard (step_val (.int .i64 er2) (S := [75]) rfl ?_) (by decide) rfl (hard_eq _ _) ?_
    · intro ρ w' hE hB hs
      have h75 : (DecF w1.heap.size [] er2) (ρ (.tmp 75)) w' := hs 75 (by decide)
      clear hs
      refine if_t (by rfl) ?_
      obtain ⟨A', m', c', e75, ho⟩ := h75
      go_simp
    refine chainS_late (step_fact (OwF w1.heap.size 2 .i64 []) (OwF.stable _ _ _ _) (S := [88]) rfl ?_) (by decide) rfl (by kernel_rfl) ?_
    · intro ρ w' hE hB hs
      have h88 : (OwF w1.heap.size 2 .i64 []) (ρ (.tmp 88)) w' := hs 88 (by decide)
      clear hs
      refine if_t (by rfl) ?_
      exact ⟨_, rfl, h88⟩
    refine chainS_hard (step_val (.int .i64 er2) (S := [89]) rfl ?_) (by decide) rfl (hard_eq _ _) ?_
    · intro ρ w' hE hB hs
      have h89 : ρ (.tmp 89) = .int .i64 er2 := hs 89 (by decide)
      clear hs
      refine if_t (by rfl) ?_
      (go_simp <;> exact wrapi64_in _ (by omega) (by omega))
    intro w1 hB1
    simp only [List.reverse_cons, List.reverse_nil, List.nil_append, List.cons_append, Go.Free.Ends, forall_eq, Act.put, List.setIfInBounds_toArray, List.set_cons_zero, List.set_cons_succ]
    rintro _ _ _ _ _ _ _ _ _ _ _ _ _ ⟨A8, m8, c8, rfl, ho8⟩ _ ⟨A9, m9, c9, rfl, ho9⟩
    obtain rfl : m9 = 0 := by have := row_len ho9; simpa using this.symm
    obtain rfl : m8 = 0 := by have := row_len ho8; simpa using this.symm
    have HB6 := Lib.hid (HB5.out.trans (hB1.mono HB5.out.size))
    clear hB1 ho8 ho9 HB5 HO5 Z2
    go_wp2
    go_ret
    exact ⟨rfl, HB6.out⟩
end Go.Proofs.YtaohdbagcfgoeaaDoor

namespace Go.Proofs.YtaohdbagcfgoeaaDoor
open Go.RowKit Go.Cor

/-- one digit laid above what there is -/
theorem or_digit (acc x : Int) (k : Nat) (h0 : 0 ≤ acc) (h1 : acc < 128 ^ k) (hx0 : 0 ≤ x) (hx : x ≤ 255) (hk : k ≤ 9) (h9 : k = 9 → x ≤ 1) :
    bits .or .u64 acc (IntKind.u64.wrap (IntKind.u64.wrap (bits .and .u8 x 127) * 2 ^ (7 * k))) = acc + 128 ^ k * (x % 128) := by
  have e1 : bits .and .u8 x 127 = x % 128 := by have := and_mask_u8 x 7 (by decide) hx0 hx; simpa using this
  have e3 : (2 : Int) ^ (7 * k) = 128 ^ k := by rw [Int.pow_mul]; rfl
  have hp : (0 : Int) < 128 ^ k := Int.pow_pos (by decide)
  have hb : acc + 128 ^ k * (x % 128) ≤ 18446744073709551615 := by
    by_cases hk9 : k = 9
    · subst hk9; have := h9 rfl; omega
    · have : k = 0 ∨ k = 1 ∨ k = 2 ∨ k = 3 ∨ k = 4 ∨ k = 5 ∨ k = 6 ∨ k = 7 ∨ k = 8 := by omega
      rcases this with rfl | rfl | rfl | rfl | rfl | rfl | rfl | rfl | rfl <;> simp at h1 ⊢ <;> omega
  have hm : (0 : Int) ≤ 128 ^ k * (x % 128) := Int.mul_nonneg (by omega) (by omega)
  rw [e1, wrapu64_in (x % 128) (by omega) (by omega), e3, Int.mul_comm, wrapu64_in _ hm (by omega), ← e3]
  exact or_parts_u64 acc (x % 128) (7 * k) h0 (by rw [e3]; exact h1) (by omega) (by rw [e3]; exact hb)
theorem or_digit9 (acc x : Int) (h0 : 0 ≤ acc) (h1 : acc < 128 ^ 9) (hx0 : 0 ≤ x) (hx : x ≤ 1) :
    bits .or .u64 acc (IntKind.u64.wrap (IntKind.u64.wrap (bits .and .u8 x 127) * 9223372036854775808)) = acc + 128 ^ 9 * (x % 128) := by
  have := or_digit acc x 9 h0 h1 hx0 (by omega) (by decide) (fun _ => hx)
  rw [← this]; rfl

theorem zig_bits (v : Int) (h1 : -9223372036854775808 ≤ v) (h2 : v ≤ 9223372036854775807) :
    bits .xor .u64 (IntKind.u64.wrap (IntKind.u64.wrap v * 2)) (IntKind.u64.wrap (v / 9223372036854775808)) = zig v := by
  unfold zig
  simp only [wrapu64]
  split
  · have e : v / 9223372036854775808 % 18446744073709551616 = 0 := by omega
    rw [e, xor_zero_u64 _ (by omega) (by omega)]
    omega
  · have e : v / 9223372036854775808 % 18446744073709551616 = 18446744073709551615 := by omega
    rw [e, xor_ones_u64 _ (by omega) (by omega)]
    omega
theorem zag_bits (z : Int) (h1 : 0 ≤ z) (h2 : z ≤ 18446744073709551615) (y : Int) (hy : y = -(z % 2)) : bits .xor .i64 (z / 2) y = zag z := by
  subst hy
  unfold zag
  split
  · have e : z % 2 = 0 := by assumption
    rw [e]
    exact bits_xor_i64_zero _ (by omega) (by omega)
  · have e : z % 2 = 1 := by omega
    rw [e]
    rw [show (-(1 : Int)) = -1 from rfl, bits_xor_i64_ones _ (by omega) (by omega)]
    omega
set_option maxHeartbeats 400000 in
theorem zig_any (v : Int) (w : World) (h1 : -9223372036854775808 ≤ v) (h2 : v ≤ 9223372036854775807) :
    Calls Tryd.prog 37 #[.int .i64 v] w fun e w' => e = .returned (.int .u64 (zig v)) ∧ w = w' := by
  go_enter Tryd.func37, Tryd.ntmps37
  go_wp2
  go_ret
  exact ⟨ret_i (zig_bits v h1 h2), rfl⟩
set_option maxHeartbeats 400000 in
theorem zag_any (z : Int) (w : World) (h1 : 0 ≤ z) (h2 : z ≤ 18446744073709551615) :
    Calls Tryd.prog 33 #[.int .u64 z] w fun e w' => e = .returned (.int .i64 (zag z)) ∧ w = w' := by
  go_enter Tryd.func33, Tryd.ntmps33
  go_wp2
  go_ret
  refine ⟨ret_i (zag_bits z h1 h2 _ ?_), rfl⟩
  have e1 : bits .and .u64 z 1 = z % 2 := by have := and_mask_u64 z 1 (by decide) h1 h2; simpa using this
  rw [e1, IntWalk.wrap64_in (z % 2) ⟨by omega, by omega⟩, IntWalk.wrap64_in _ ⟨by omega, by omega⟩]
set_option maxHeartbeats 400000 in
theorem refZig_any (v : Int) (w : World) (h1 : -9223372036854775808 ≤ v) (h2 : v ≤ 9223372036854775807) :
    Calls Tryd.prog 22 #[.int .i64 v] w fun e w' => e = .returned (.int .u64 (zig v)) ∧ w = w' := by
  by_cases h : 0 ≤ v
  · go_enter Tryd.func22, Tryd.ntmps22
    go_wp2
    go_ret
    exact ⟨ret_i (by unfold zig; omega), rfl⟩
  · go_enter Tryd.func22, Tryd.ntmps22
    go_wp2
    go_ret
    exact ⟨ret_i (by unfold zig; omega), rfl⟩
set_option maxHeartbeats 400000 in
theorem refZag_any (z : Int) (w : World) (h1 : 0 ≤ z) (h2 : z ≤ 18446744073709551615) :
    Calls Tryd.prog 35 #[.int .u64 z] w fun e w' => e = .returned (.int .i64 (zag z)) ∧ w = w' := by
  by_cases h : z % 2 = 0
  · have H := Lib.hid h
    have hb : (z % 2 == 0) = true := by simp [h]
    clear h
    go_enter Tryd.func35, Tryd.ntmps35
    go_wp2
    go_ret
    exact ⟨ret_i (by have := H.out; unfold zag; omega), rfl⟩
  · have H := Lib.hid h
    have hb : (z % 2 == 0) = false := by simp; omega
    clear h
    go_enter Tryd.func35, Tryd.ntmps35
    go_wp2
    go_ret
    exact ⟨ret_i (by have := H.out; unfold zag; omega), rfl⟩

theorem vput_split (v : Nat) (h : 128 ≤ v) (pre : List Int) : pre ++ vput v = pre ++ [((v : Int) % 128 + 128)] ++ vput (v / 128) := by
  rw [vput_big h]; simp
end Go.Proofs.YtaohdbagcfgoeaaDoor

namespace Go.Cor
open Go Go.RowKit
/-- a row that is not empty, of the call's own -/
theorem owns_addr {w : World} {B : Nat} {E : TypeId} {k : IntKind} {A : Option Addr} {n c : Nat} {xs : List Int} (h : Owns w B E k A n c xs) (hn : 0 < n) : ∃ g, A = some ⟨g, 0, none⟩ ∧ B ≤ g ∧ g < w.heap.size := by
  rcases h.2 with ⟨h1, h2⟩ | ⟨g, cap, cur, h1, hB, hg, _⟩
  · omega
  · injection h1 with e1 e2 e3
    exact ⟨g, e1, hB, lt_of_block hg⟩
end Go.Cor

namespace Go.Proofs.YtaohdbagcfgoeaaDoor
open Go.RowKit Go.Cor Go.Free



set_option maxHeartbeats 1000000 in
theorem put64_any (A : Option Addr) (n c : Nat) (xs : List Int) (v m : Nat) (w : World) (h : Rd w .u8 A n c xs) (hn : n ≤ 100000) (_hv : (v : Int) ≤ 18446744073709551615) (hm : m ≤ 8) :
    Calls Tryd.prog 47 #[.slice A n c, .int .u64 v, .int .i64 m] w (RetRow w.heap.size 5 .u8 w (xs ++ leb v m)) := by
  have H := Lib.hid h
  clear h
  go_enter Tryd.func47, Tryd.ntmps47
  go_wp2_with fail
  refine (clone_any A n c xs w H.out (by omega)).mono ?_
  rintro e w1 ⟨A1, n1, c1, rfl, hown1, hb1⟩
  obtain rfl : n1 = n := by have := row_len hown1; have := H.out.len; omega
  have HO := Lib.hid hown1
  have HB := Lib.hid hb1
  clear hown1 hb1
  go_wp2
  go_loopw [7, 8, 12, 13, 14, 15, 16, 17, 18, 19, 20, 21, 22, 23] (fun v7 _ v12 _ _ _ _ _ _ _ _ _ _ _ wr => ∃ i : Nat, v12 = .int .i64 i ∧ i ≤ m ∧ ∃ A' c', v7 = .slice A' (n1 + i) c' ∧ Hid (Owns wr w.heap.size 5 .u8 A' (n1 + i) c' (xs ++ leb v i) ∧ Below w.heap.size w wr))
    (fun _ _ v12 _ _ _ _ _ _ _ _ _ _ _ _ => m - (intOf v12).toNat)
  case atStart => exact ⟨0, rfl, by omega, A1, c1, rfl, Lib.hid ⟨by simpa [leb] using HO.out, HB.out⟩⟩
  case round =>
    obtain ⟨i, rfl, hi, A', c', rfl, hI⟩ := hrel
    by_cases hlt : i < m
    · have hpow : (2 : Int) ^ (8 * i) = ((256 ^ i : Nat) : Int) := by rw [Int.natCast_pow, Int.pow_mul]; rfl
      go_wp2_with (at_builtin; refine wpList_append_r rfl rfl elemU8 (hI.out.1.alloc _) rfl (RdV.one (Box.new _ _ _)) rfl one_one (by omega) (by omega) (by have := hI.out.2.size; simp; omega) ?_; intro A2 c2 w2 hown hg _)
      go_roundw
      case rel =>
        refine ⟨i + 1, by go_num, by omega, A2, c2, rfl, Lib.hid ⟨?_, below_grown (hI.out.2.alloc hI.out.2.size _) (hI.out.1.alloc _) hg (by have := hI.out.2.size; simp; omega)⟩⟩
        have := owns_snoc hown
        rw [List.append_assoc] at this
        rw [← leb_snoc]
        exact this
      case measure => simp [intOf] <;> omega
    · go_wp2
      go_ret
      obtain rfl : i = m := by omega
      exact ⟨A', n1 + i, c', rfl, hI.out.1, hI.out.2⟩
theorem Put64_any (A : Option Addr) (n c : Nat) (xs : List Int) (v : Nat) (w : World) (h : Rd w .u8 A n c xs) (hn : n ≤ 100000) (hv : (v : Int) ≤ 18446744073709551615) :
    Calls Tryd.prog 36 #[.slice A n c, .int .u64 v] w (RetRow w.heap.size 5 .u8 w (xs ++ leb v 8)) := by
  have HC := Lib.hid (put64_any A n c xs v 8 w h hn hv (by decide))
  clear h
  go_enter Tryd.func36, Tryd.ntmps36
  go_wp2_with fail
  refine HC.out.mono ?_
  rintro e w1 ⟨A1, n1, c1, rfl, hown1, hb1⟩
  go_wp2
  go_ret
  exact ⟨A1, n1, c1, rfl, hown1, hb1⟩

end Go.Proofs.YtaohdbagcfgoeaaDoor
