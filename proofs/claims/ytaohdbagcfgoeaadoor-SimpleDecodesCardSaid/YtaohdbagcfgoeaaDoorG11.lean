/-
  A codec, as an interface's value: Wrong, Told, Back, whatever the codec.
  Are two rows of numbers alike? (Printed by wip/genwid.py.)
  A codec, as an interface's value: Back, whatever the codec.
  Chapter 2: an error that is thrown, and caught: Throw, Check, Tryd.
  Chapter 2: Get: what is answered, or the error that was thrown, at each kind of row.
  A codec that takes whatever a block is.
  Chapter 1, plain: a row of bits as a number. A writer that holds 'many' bits holds leb V (octets many) with V < 2^many; to put v is to make V + v * 2^many. A reader at 'at_' tells (num b / 2^at_) % 2^width.
  Chapter 1: is it a width? does a number fit?
  What the tables say of rows of numbers without a sign.
-/
import Derived.Test.YtaohdbagcfgoeaaDoorRows
import Derived.WalkKit
import Derived.WalkSpells
import Derived.WalkLawsBesides
import Derived.ProofKit
import Derived.OpenShut
import Derived.Defers
import Derived.Recover
import Derived.Test.YtaohdbagcfgoeaaDoorG6
import Derived.Test.YtaohdbagcfgoeaaDoorG7
import Derived.Test.YtaohdbagcfgoeaaDoorG8
import Derived.Test.YtaohdbagcfgoeaaDoorG9
import Derived.Test.YtaohdbagcfgoeaaDoorG10
namespace Go.Cor
/-- are numbers taken? -/
def tak (tk : List Int → Bool) (xs : List Int) : Bool := blk xs.length && tk xs
/-- what is wrong with a block -/
def wrg (tk : List Int → Bool) (xs : List Int) : Int := if blk xs.length then (if tk xs then 0 else 10) else 7
theorem wrg_tak {tk : List Int → Bool} {xs : List Int} (h : tak tk xs = true) : wrg tk xs = 0 := by
  unfold tak at h; unfold wrg; simp at h; simp [h]
theorem wrg_not {tk : List Int → Bool} {xs : List Int} (h : tak tk xs = false) : wrg tk xs ≠ 0 := by
  unfold tak at h; unfold wrg; simp at h; split
  · rename_i h1; rw [h h1]; decide
  · decide
end Go.Cor
namespace Go.Proofs.YtaohdbagcfgoeaaDoor
open Go.RowKit Go.Cor Go.Free

/-- a codec whose value is the empty struct: Takes -/
structure Taker (T : TypeId) (fT : FuncId) (tk : List Int → Bool) : Prop where
  m : ∀ w, (method 206 T (.agg #[]) "Takes").run Tryd.prog w = .ok (fT, .agg #[]) w
  e : ∀ args w, (callFunc fT args).run Tryd.prog w = .ok (.enter fT args) w
  c : ∀ w A n c xs, Rd w .i64 A n c xs → In .i64 xs → n ≤ 1100 → Calls Tryd.prog fT #[.agg #[], .slice A n c] w fun e w' => e = .returned (.bool (tak tk xs)) ∧ Below w.heap.size w w'

set_option maxRecDepth 100000 in
set_option maxHeartbeats 1000000 in
theorem wrongG {T : TypeId} {fT : FuncId} {tk : List Int → Bool} (C : Taker T fT tk) (A : Option Addr) (n c : Nat) (xs : List Int) (w : World) (h : Rd w .i64 A n c xs) (hi : In .i64 xs) (hn : n ≤ 1100) :
    Calls Tryd.prog 24 #[.iface T (.agg #[]), .slice A n c] w fun e w' => e = .returned (.int .i64 (wrg tk xs)) ∧ Below w.heap.size w w' := by
  have hlen := h.len
  have hb := block_any n
  have hm := C.m
  have he := C.e
  have HT := Lib.hid (C.c w A n c xs h hi hn)
  unfold tak at HT
  unfold wrg
  rw [hlen] at HT ⊢
  obtain ⟨q, hq⟩ : ∃ q, blk n = q := ⟨_, rfl⟩
  obtain ⟨r, hr⟩ : ∃ r, tk xs = r := ⟨_, rfl⟩
  rw [hq] at hb HT ⊢
  rw [hr] at HT ⊢
  have HB := Lib.hid hb
  clear h hi hb hq hr hlen
  cases q with
  | true =>
    cases r with
    | true =>
      go_enter Tryd.func24, Tryd.ntmps24
      go_wp2_with fail
      refine (HB.out w).mono ?_
      rintro e w' ⟨rfl, rfl⟩
      go_wp2_with fail
      refine HT.out.mono ?_
      rintro e w1 ⟨rfl, hb⟩
      go_wp2
      go_ret
      exact ⟨rfl, hb⟩
    | false =>
      go_enter Tryd.func24, Tryd.ntmps24
      go_wp2_with fail
      refine (HB.out w).mono ?_
      rintro e w' ⟨rfl, rfl⟩
      go_wp2_with fail
      refine HT.out.mono ?_
      rintro e w1 ⟨rfl, hb⟩
      go_wp2
      go_ret
      exact ⟨rfl, hb⟩
  | false =>
    go_enter Tryd.func24, Tryd.ntmps24
    go_wp2_with fail
    refine (HB.out w).mono ?_
    rintro e w' ⟨rfl, rfl⟩
    go_wp2
    go_ret
    exact ⟨rfl, Below.refl _ _⟩

/-- what Encode hands out -/
def EncG (B : Nat) (w : World) (tk : List Int → Bool) (enc : List Int → List Int) (xs : List Int) (e : Ending) (w' : World) : Prop :=
  ∃ A m c, e = .returned (.tuple #[.slice A m c, .int .i64 (wrg tk xs)]) ∧ Owns w' B 5 .u8 A m c (if tak tk xs then enc xs else []) ∧ Below B w w'
/-- Encode -/
structure Encer (T : TypeId) (fE : FuncId) (tk : List Int → Bool) (enc : List Int → List Int) : Prop where
  m : ∀ w, (method 206 T (.agg #[]) "Encode").run Tryd.prog w = .ok (fE, .agg #[]) w
  e : ∀ args w, (callFunc fE args).run Tryd.prog w = .ok (.enter fE args) w
  c : ∀ w A n c xs, Rd w .i64 A n c xs → In .i64 xs → n ≤ 1100 → Calls Tryd.prog fE #[.agg #[], .slice A n c] w (EncG w.heap.size w tk enc xs)
/-- Size -/
structure Sizer (T : TypeId) (fS : FuncId) (tk : List Int → Bool) (enc : List Int → List Int) : Prop where
  m : ∀ w, (method 206 T (.agg #[]) "Size").run Tryd.prog w = .ok (fS, .agg #[]) w
  e : ∀ args w, (callFunc fS args).run Tryd.prog w = .ok (.enter fS args) w
  c : ∀ w A n c xs, Rd w .i64 A n c xs → In .i64 xs → n ≤ 1100 → Calls Tryd.prog fS #[.agg #[], .slice A n c] w fun e w' => e = .returned (.int .i64 (if tak tk xs then ((enc xs).length : Int) else 0)) ∧ Below w.heap.size w w'

set_option maxRecDepth 100000 in
set_option maxHeartbeats 3000000 in
theorem toldG {T : TypeId} {fT fE fS : FuncId} {tk : List Int → Bool} {enc : List Int → List Int} (CT : Taker T fT tk) (CE : Encer T fE tk enc) (CS : Sizer T fS tk enc)
    (A : Option Addr) (n c : Nat) (xs : List Int) (w : World) (h : Rd w .i64 A n c xs) (hi : In .i64 xs) (hn : n ≤ 1100) (B : Option Addr) (m d : Nat) (ys : List Int) (hB : Rd w .u8 B m d ys) (hy : tak tk xs = true → ys = enc xs) (t : Bool) (ht : t = tk xs) :
    Calls Tryd.prog 11 #[.iface T (.agg #[]), .slice A n c, .bool t, .slice B m d] w fun e w' => e = .returned (.bool true) ∧ Below w.heap.size w w' := by
  have hlen := h.len
  have hb := refBlock_any n
  have m1 := CT.m
  have e1 := CT.e
  have m2 := CE.m
  have e2 := CE.e
  have m3 := CS.m
  have e3 := CS.e
  have hT := CT.c
  have hE := CE.c w A n c xs h hi hn
  have hS := CS.c
  have hW := wrongG CT A n c xs
  have hk : tak tk xs = (blk n && tk xs) := by unfold tak; rw [hlen]
  have hkw : wrg tk xs = if blk n then (if tk xs then 0 else 10) else 7 := by unfold wrg; rw [hlen]
  unfold EncG at hE
  obtain ⟨q, hq⟩ : ∃ q, blk n = q := ⟨_, rfl⟩
  obtain ⟨r, hr⟩ : ∃ r, tk xs = r := ⟨_, rfl⟩
  rw [hr] at ht
  subst ht
  rw [hq, hr] at hk hkw
  rw [hq] at hb
  have hT' := fun w A n c h hi hn => hT w A n c xs h hi hn
  have hS' := fun w A n c h hi hn => hS w A n c xs h hi hn
  rw [hk] at hT' hS' hE hy
  rw [hkw] at hE hW
  have HE := Lib.hid hE
  have HB := Lib.hid hb
  have HW := Lib.hid hW
  have HT := Lib.hid hT'
  have HS := Lib.hid hS'
  have HR := Lib.hid hB
  have HX := Lib.hid h
  have HI := Lib.hid hi
  have HY := Lib.hid hy
  clear hE hb hW hT hS hT' hS' hq hr h hB hi hy hk hkw hlen
  cases q with
  | true =>
    cases t with
    | true =>
      go_enter Tryd.func11, Tryd.ntmps11
      go_wp2_with fail
      refine HE.out.mono ?_
      rintro e w1 ⟨A1, m1', c1, rfl, hown, hb1⟩
      simp only [Bool.and_self, if_true] at hown ⊢
      have HO := Lib.hid (Rd.own hown)
      have HB1 := Lib.hid hb1
      clear hown hb1
      go_wp2_with fail
      refine (HB.out _).mono ?_
      rintro e w' ⟨rfl, rfl⟩
      go_wp2_with fail
      refine (HW.out _ (HX.out.below HB1.out) HI.out hn).mono ?_
      rintro e w2 ⟨rfl, hb2⟩
      have HO2 := Lib.hid (HO.out.below hb2)
      have HB2 := Lib.hid (HB1.out.trans (hb2.mono HB1.out.size))
      clear hb2
      go_wp2_with fail
      refine (HT.out _ _ _ _ (HX.out.below HB2.out) HI.out hn).mono ?_
      rintro e w3 ⟨rfl, hb3⟩
      have ho3 := HO2.out.below hb3
      have HB3 := Lib.hid (HB2.out.trans (hb3.mono HB2.out.size))
      have hcv := conv_bytes ho3 30 5 9 Tryd.underlying30 Tryd.underlying5 Tryd.underlying9
      have hcv2 := conv_bytes (HR.out.below HB3.out) 30 5 9 Tryd.underlying30 Tryd.underlying5 Tryd.underlying9
      rw [HY.out rfl] at hcv2
      have hml : m = (enc xs).length := by have := HR.out.len; rw [HY.out rfl] at this; exact this.symm
      have HM := Lib.hid hml
      clear hb3 ho3 hml
      go_wp2_with fail
      refine (HS.out _ _ _ _ (HX.out.below HB3.out) HI.out hn).mono ?_
      rintro e w4 ⟨rfl, hb4⟩
      go_wp2
      go_ret
      exact ⟨ret_b (by simp [HM.out]), HB3.out.trans (hb4.mono HB3.out.size)⟩
    | false =>
      go_enter Tryd.func11, Tryd.ntmps11
      go_wp2_with fail
      refine HE.out.mono ?_
      rintro e w1 ⟨A1, m1', c1, rfl, hown, hb1⟩
      simp only [Bool.and_false, Bool.false_eq_true, if_false] at hown ⊢
      obtain rfl : m1' = 0 := by have := hown.1; simpa using this.symm
      have HB1 := Lib.hid hb1
      clear hown hb1
      go_wp2_with fail
      refine (HB.out _).mono ?_
      rintro e w' ⟨rfl, rfl⟩
      go_wp2_with fail
      refine (HW.out _ (HX.out.below HB1.out) HI.out hn).mono ?_
      rintro e w2 ⟨rfl, hb2⟩
      have HB2 := Lib.hid (HB1.out.trans (hb2.mono HB1.out.size))
      clear hb2
      go_wp2_with fail
      refine (HT.out _ _ _ _ (HX.out.below HB2.out) HI.out hn).mono ?_
      rintro e w3 ⟨rfl, hb3⟩
      have HB3 := Lib.hid (HB2.out.trans (hb3.mono HB2.out.size))
      clear hb3
      go_wp2_with fail
      refine (HS.out _ _ _ _ (HX.out.below HB3.out) HI.out hn).mono ?_
      rintro e w4 ⟨rfl, hb4⟩
      go_wp2
      go_ret
      exact ⟨rfl, HB3.out.trans (hb4.mono HB3.out.size)⟩
  | false =>
    go_enter Tryd.func11, Tryd.ntmps11
    go_wp2_with fail
    refine HE.out.mono ?_
    rintro e w1 ⟨A1, m1', c1, rfl, hown, hb1⟩
    simp only [Bool.false_and, Bool.false_eq_true, if_false] at hown ⊢
    obtain rfl : m1' = 0 := by have := hown.1; simpa using this.symm
    have HB1 := Lib.hid hb1
    clear hown hb1
    go_wp2_with fail
    refine (HB.out _).mono ?_
    rintro e w' ⟨rfl, rfl⟩
    go_wp2_with fail
    refine (HW.out _ (HX.out.below HB1.out) HI.out hn).mono ?_
    rintro e w2 ⟨rfl, hb2⟩
    have HB2 := Lib.hid (HB1.out.trans (hb2.mono HB1.out.size))
    clear hb2
    go_wp2_with fail
    refine (HT.out _ _ _ _ (HX.out.below HB2.out) HI.out hn).mono ?_
    rintro e w3 ⟨rfl, hb3⟩
    have HB3 := Lib.hid (HB2.out.trans (hb3.mono HB2.out.size))
    clear hb3
    go_wp2_with fail
    refine (HS.out _ _ _ _ (HX.out.below HB3.out) HI.out hn).mono ?_
    rintro e w4 ⟨rfl, hb4⟩
    go_wp2
    go_ret
    exact ⟨rfl, HB3.out.trans (hb4.mono HB3.out.size)⟩
end Go.Proofs.YtaohdbagcfgoeaaDoor

namespace Go.Proofs.YtaohdbagcfgoeaaDoor
open Go.RowKit Go.Cor Go.Free


set_option maxHeartbeats 1000000 in
theorem sameI_any (A B : Option Addr) (n c m d : Nat) (xs ys : List Int) (w : World) (h1 : Rd w .i64 A n c xs) (h2 : Rd w .i64 B m d ys) :
    Calls Tryd.prog 16 #[.slice A n c, .slice B m d] w fun e w' => e = .returned (.bool (decide (xs = ys))) ∧ Below w.heap.size w w' := by
  have hn : n ≤ maxLen := Nat.le_trans h1.cap h1.max
  have hm : m ≤ maxLen := Nat.le_trans h2.cap h2.max
  unfold maxLen at hn hm
  have H1 := Lib.hid h1
  have H2 := Lib.hid h2
  clear h1 h2
  by_cases hnm : n = m
  · subst hnm
    go_enter Tryd.func16, Tryd.ntmps16
    go_wp2
    go_loopw [5, 11, 12, 13, 14, 15, 16, 17, 18, 19, 20, 21, 22, 23, 24, 25] (fun i5 _ _ _ _ _ _ _ _ _ _ _ _ _ _ _ wr => ∃ i : Nat, i5 = .int .i64 i ∧ i ≤ n ∧ Hid (xs.take i = ys.take i ∧ Below w.heap.size w wr)) (fun i _ _ _ _ _ _ _ _ _ _ _ _ _ _ _ _ => n - (intOf i).toNat)
    case atStart => exact ⟨0, rfl, by omega, Lib.hid ⟨by simp, Below.refl _ _⟩⟩
    case round =>
      obtain ⟨i, rfl, hi, hI⟩ := hrel
      by_cases hlt : i < n
      · obtain ⟨b, o, rfl, hbl, hc⟩ := (H1.out.below hI.out.2).get (by omega)
        have hc1 := hc i hlt
        obtain ⟨b', o', rfl, hbl', hc'⟩ := (H2.out.below hI.out.2).get (by omega)
        have hc2 := hc' i hlt
        clear hc hc'
        have hl1 := H1.out.len
        have hl2 := H2.out.len
        obtain ⟨x, hx⟩ : ∃ x, xs.getD i 0 = x := ⟨_, rfl⟩
        obtain ⟨y, hy⟩ : ∃ y, ys.getD i 0 = y := ⟨_, rfl⟩
        rw [hx] at hc1
        rw [hy] at hc2
        have e1 : xs.take (i + 1) = xs.take i ++ [x] := by rw [take_snoc (by omega), ← hx]; simp
        have e2 : ys.take (i + 1) = ys.take i ++ [y] := by rw [take_snoc (by omega), ← hy]; simp
        have E1 := Lib.hid e1
        have E2 := Lib.hid e2
        clear e1 e2 hx hy hl1 hl2
        by_cases hxy : x = y
        · subst hxy
          go_wp2_with fail
          refine wp_region_free 9 (by kernel_rfl) (by kernel_rfl) ?_
          refine chain_val (.slice (some ⟨b, o, none⟩) n c) (S := [0]) rfl ?_ ?_
          · intro ρ w' hE hB hs
            have h0 : ρ (.tmp 0) = .slice (some ⟨b, o, none⟩) n c := hs 0 (by decide)
            clear hs
            refine if_t (by rfl) ?_
            (go_simp <;> exact wrapi64_in _ (by omega) (by omega))
          refine chain_val (.int .i64 (i : Int)) (S := [5]) rfl ?_ ?_
          · intro ρ w' hE hB hs
            have h5 : ρ (.tmp 5) = .int .i64 (i : Int) := hs 5 (by decide)
            clear hs
            refine if_t (by rfl) ?_
            (go_simp <;> exact wrapi64_in _ (by omega) (by omega))
          refine chain_val (.pointer (some ⟨b, o + i, none⟩)) (S := [17, 18]) rfl ?_ ?_
          · intro ρ w' hE hB hs
            have h17 : ρ (.tmp 17) = .slice (some ⟨b, o, none⟩) n c := hs 17 (by decide)
            have h18 : ρ (.tmp 18) = .int .i64 (i : Int) := hs 18 (by decide)
            clear hs
            refine if_t (by rfl) ?_
            (go_simp <;> (intro hh; omega))
          refine chain_val (.int .i64 x) (S := [19]) rfl ?_ ?_
          · intro ρ w' hE hB hs
            have h19 : ρ (.tmp 19) = .pointer (some ⟨b, o + i, none⟩) := hs 19 (by decide)
            clear hs
            refine if_t (by rfl) ?_
            have hcl := (hB.cell (p := ⟨b, o + i, none⟩) hbl).trans hc1
            go_simp
          refine chain_val (.slice (some ⟨b', o', none⟩) n d) (S := [1]) rfl ?_ ?_
          · intro ρ w' hE hB hs
            have h1 : ρ (.tmp 1) = .slice (some ⟨b', o', none⟩) n d := hs 1 (by decide)
            clear hs
            refine if_t (by rfl) ?_
            (go_simp <;> exact wrapi64_in _ (by omega) (by omega))
          refine chain_val (.int .i64 (i : Int)) (S := [5]) rfl ?_ ?_
          · intro ρ w' hE hB hs
            have h5 : ρ (.tmp 5) = .int .i64 (i : Int) := hs 5 (by decide)
            clear hs
            refine if_t (by rfl) ?_
            (go_simp <;> exact wrapi64_in _ (by omega) (by omega))
          refine chain_val (.pointer (some ⟨b', o' + i, none⟩)) (S := [21, 22]) rfl ?_ ?_
          · intro ρ w' hE hB hs
            have h21 : ρ (.tmp 21) = .slice (some ⟨b', o', none⟩) n d := hs 21 (by decide)
            have h22 : ρ (.tmp 22) = .int .i64 (i : Int) := hs 22 (by decide)
            clear hs
            refine if_t (by rfl) ?_
            (go_simp <;> (intro hh; omega))
          refine chain_val (.int .i64 x) (S := [23]) rfl ?_ ?_
          · intro ρ w' hE hB hs
            have h23 : ρ (.tmp 23) = .pointer (some ⟨b', o' + i, none⟩) := hs 23 (by decide)
            clear hs
            refine if_t (by rfl) ?_
            have hcl := (hB.cell (p := ⟨b', o' + i, none⟩) hbl').trans hc2
            go_simp
          refine chain_val (.bool false) (S := [20, 24]) rfl ?_ ?_
          · intro ρ w' hE hB hs
            have h20 : ρ (.tmp 20) = .int .i64 x := hs 20 (by decide)
            have h24 : ρ (.tmp 24) = .int .i64 x := hs 24 (by decide)
            clear hs
            refine if_t (by rfl) ?_
            (go_simp <;> exact wrapi64_in _ (by omega) (by omega))
          intro w1 hB1
          simp only [List.reverse_cons, List.reverse_nil, List.nil_append, List.cons_append, Go.Free.Ends, forall_eq, Act.put, List.setIfInBounds_toArray, List.set_cons_zero, List.set_cons_succ]
          have HB2 := Lib.hid (hI.out.2.trans (hB1.mono hI.out.2.size))
          clear hB1
          go_wp2
          go_roundw
          case rel => exact ⟨i + 1, by go_num, by omega, Lib.hid ⟨by rw [E1.out, E2.out, hI.out.1], HB2.out⟩⟩
          case measure => simp [intOf] <;> omega
        · have hne : (x == y) = false := by simpa using hxy
          go_wp2_with fail
          refine wp_region_free 9 (by kernel_rfl) (by kernel_rfl) ?_
          refine chain_val (.slice (some ⟨b, o, none⟩) n c) (S := [0]) rfl ?_ ?_
          · intro ρ w' hE hB hs
            have h0 : ρ (.tmp 0) = .slice (some ⟨b, o, none⟩) n c := hs 0 (by decide)
            clear hs
            refine if_t (by rfl) ?_
            (go_simp <;> exact wrapi64_in _ (by omega) (by omega))
          refine chain_val (.int .i64 (i : Int)) (S := [5]) rfl ?_ ?_
          · intro ρ w' hE hB hs
            have h5 : ρ (.tmp 5) = .int .i64 (i : Int) := hs 5 (by decide)
            clear hs
            refine if_t (by rfl) ?_
            (go_simp <;> exact wrapi64_in _ (by omega) (by omega))
          refine chain_val (.pointer (some ⟨b, o + i, none⟩)) (S := [17, 18]) rfl ?_ ?_
          · intro ρ w' hE hB hs
            have h17 : ρ (.tmp 17) = .slice (some ⟨b, o, none⟩) n c := hs 17 (by decide)
            have h18 : ρ (.tmp 18) = .int .i64 (i : Int) := hs 18 (by decide)
            clear hs
            refine if_t (by rfl) ?_
            (go_simp <;> (intro hh; omega))
          refine chain_val (.int .i64 x) (S := [19]) rfl ?_ ?_
          · intro ρ w' hE hB hs
            have h19 : ρ (.tmp 19) = .pointer (some ⟨b, o + i, none⟩) := hs 19 (by decide)
            clear hs
            refine if_t (by rfl) ?_
            have hcl := (hB.cell (p := ⟨b, o + i, none⟩) hbl).trans hc1
            go_simp
          refine chain_val (.slice (some ⟨b', o', none⟩) n d) (S := [1]) rfl ?_ ?_
          · intro ρ w' hE hB hs
            have h1 : ρ (.tmp 1) = .slice (some ⟨b', o', none⟩) n d := hs 1 (by decide)
            clear hs
            refine if_t (by rfl) ?_
            (go_simp <;> exact wrapi64_in _ (by omega) (by omega))
          refine chain_val (.int .i64 (i : Int)) (S := [5]) rfl ?_ ?_
          · intro ρ w' hE hB hs
            have h5 : ρ (.tmp 5) = .int .i64 (i : Int) := hs 5 (by decide)
            clear hs
            refine if_t (by rfl) ?_
            (go_simp <;> exact wrapi64_in _ (by omega) (by omega))
          refine chain_val (.pointer (some ⟨b', o' + i, none⟩)) (S := [21, 22]) rfl ?_ ?_
          · intro ρ w' hE hB hs
            have h21 : ρ (.tmp 21) = .slice (some ⟨b', o', none⟩) n d := hs 21 (by decide)
            have h22 : ρ (.tmp 22) = .int .i64 (i : Int) := hs 22 (by decide)
            clear hs
            refine if_t (by rfl) ?_
            (go_simp <;> (intro hh; omega))
          refine chain_val (.int .i64 y) (S := [23]) rfl ?_ ?_
          · intro ρ w' hE hB hs
            have h23 : ρ (.tmp 23) = .pointer (some ⟨b', o' + i, none⟩) := hs 23 (by decide)
            clear hs
            refine if_t (by rfl) ?_
            have hcl := (hB.cell (p := ⟨b', o' + i, none⟩) hbl').trans hc2
            go_simp
          refine chain_val (.bool true) (S := [20, 24]) rfl ?_ ?_
          · intro ρ w' hE hB hs
            have h20 : ρ (.tmp 20) = .int .i64 x := hs 20 (by decide)
            have h24 : ρ (.tmp 24) = .int .i64 y := hs 24 (by decide)
            clear hs
            refine if_t (by rfl) ?_
            (go_simp <;> exact wrapi64_in _ (by omega) (by omega))
          intro w1 hB1
          simp only [List.reverse_cons, List.reverse_nil, List.nil_append, List.cons_append, Go.Free.Ends, forall_eq, Act.put, List.setIfInBounds_toArray, List.set_cons_zero, List.set_cons_succ]
          have HB2 := Lib.hid (hI.out.2.trans (hB1.mono hI.out.2.size))
          clear hB1
          go_wp2
          go_ret
          refine ⟨ret_b ?_, HB2.out⟩
          have : xs ≠ ys := by
            rintro rfl
            have := E1.out.symm.trans E2.out
            exact hxy (by simpa using this)
          simp [this]
      · go_wp2
        go_ret
        have : xs = ys := by
          have h := hI.out.1
          rwa [List.take_of_length_le (by have := H1.out.len; omega), List.take_of_length_le (by have := H2.out.len; omega)] at h
        exact ⟨ret_b (by simp [this]), hI.out.2⟩
  · have hne : xs ≠ ys := by
      rintro rfl
      exact hnm (H1.out.len.symm.trans H2.out.len)
    have hnb : ((n : Int) == (m : Int)) = false := by simp; omega
    have HNE := Lib.hid hne
    clear hne hnm
    go_enter Tryd.func16, Tryd.ntmps16
    go_wp2
    go_ret
    exact ⟨ret_b (by simp [HNE.out]), Below.refl _ _⟩


end Go.Proofs.YtaohdbagcfgoeaaDoor

namespace Go.Cor
theorem By.app0 {xs : List Int} (h : ∀ x ∈ xs, 0 ≤ x ∧ x ≤ 255) : ∀ x ∈ xs ++ [0], 0 ≤ x ∧ x ≤ 255 := by
  intro x hx
  rw [List.mem_append] at hx
  rcases hx with hx | hx
  · exact h x hx
  · simp at hx; omega
end Go.Cor
namespace Go.Proofs.YtaohdbagcfgoeaaDoor
open Go.RowKit Go.Cor Go.Free

/-- what Decode hands out -/
def DecG (B : Nat) (w : World) (dec : List Int → Int → List Int × Int) (ys : List Int) (N : Int) (e : Ending) (w' : World) : Prop :=
  ∃ A m c, e = .returned (.tuple #[.slice A m c, .int .i64 (dec ys N).2]) ∧ Owns w' B 2 .i64 A m c (dec ys N).1 ∧ Below B w w'
/-- Decode -/
structure Decer (T : TypeId) (fD : FuncId) (dec : List Int → Int → List Int × Int) : Prop where
  m : ∀ w, (method 206 T (.agg #[]) "Decode").run Tryd.prog w = .ok (fD, .agg #[]) w
  a : ∀ w, (nilAhead 206 T (.agg #[]) "Decode").run Tryd.prog w = .ok (some false) w
  e : ∀ args w, (callFunc fD args).run Tryd.prog w = .ok (.enter fD args) w
  c : ∀ w A n c ys N, Rd w .u8 A n c ys → (∀ x ∈ ys, 0 ≤ x ∧ x ≤ 255) → n ≤ 100000 → Calls Tryd.prog fD #[.agg #[], .slice A n c, .int .i64 N] w (DecG w.heap.size w dec ys N)

/-- a pair that Decode hands out -/
def DecF (B : Nat) (xs : List Int) (er : Int) : Fact := fun v w => ∃ A m c, v = .tuple #[.slice A m c, .int .i64 er] ∧ Owns w B 2 .i64 A m c xs
theorem DecF.stable (B : Nat) (xs : List Int) (er : Int) : Stable (DecF B xs er) := fun _ _ _ ⟨A, m, c, h1, h2⟩ hb => ⟨A, m, c, h1, Owns.below h2 hb⟩
/-- what Back asks of the plain functions -/
structure Backs (tk : List Int → Bool) (enc : List Int → List Int) (dec : List Int → Int → List Int × Int) (xs : List Int) : Prop where
  by_ : ∀ x ∈ enc xs, 0 ≤ x ∧ x ≤ 255
  len : (enc xs).length ≤ 20000
  back : dec (enc xs) xs.length = (xs, 0)
  pos : 0 < (enc xs).length
  less : (dec ((enc xs).take ((enc xs).length - 1)) xs.length).2 ≠ 0 ∧ (dec ((enc xs).take ((enc xs).length - 1)) xs.length).1 = []
  more : (dec (enc xs ++ [0]) xs.length).2 ≠ 0 ∧ (dec (enc xs ++ [0]) xs.length).1 = []

set_option maxRecDepth 100000 in
set_option maxHeartbeats 4000000 in
theorem backG {T : TypeId} {fE fS fD : FuncId} {tk : List Int → Bool} {enc : List Int → List Int} {dec : List Int → Int → List Int × Int} (CE : Encer T fE tk enc) (CS : Sizer T fS tk enc) (CD : Decer T fD dec)
    (A : Option Addr) (n c : Nat) (xs : List Int) (w : World) (h : Rd w .i64 A n c xs) (hi : In .i64 xs) (hn : n ≤ 1100) (hbk : tak tk xs = true → Backs tk enc dec xs) :
    Calls Tryd.prog 19 #[.iface T (.agg #[]), .slice A n c] w fun e w' => e = .returned (.bool true) ∧ Below w.heap.size w w' := by
  have hlen := h.len
  have m2 := CE.m
  have e2 := CE.e
  have m3 := CS.m
  have e3 := CS.e
  have m4 := CD.m
  have e4 := CD.e
  have a4 := CD.a
  have hE := CE.c w A n c xs h hi hn
  have hS := fun w A n c h hi hn => CS.c w A n c xs h hi hn
  have hD := CD.c
  unfold EncG at hE
  obtain ⟨q, hq⟩ : ∃ q, tak tk xs = q := ⟨_, rfl⟩
  have hw0 : q = true → wrg tk xs = 0 := fun e => wrg_tak (hq.trans e)
  have hw1 : q = false → wrg tk xs ≠ 0 := fun e => wrg_not (hq.trans e)
  rw [hq] at hE hS hbk
  have HE := Lib.hid hE
  have HS := Lib.hid hS
  have HD := Lib.hid hD
  have HX := Lib.hid h
  have HI := Lib.hid hi
  have HL := Lib.hid hlen
  clear hE hS hD hq h hi hlen
  cases q with
  | false =>
    obtain ⟨r, hr⟩ : ∃ r, wrg tk xs = r := ⟨_, rfl⟩
    rw [hr] at HE
    have hr0 : (r != 0) = true := by have := hw1 rfl; simp; omega
    clear hw0 hw1 hr hbk
    go_enter Tryd.func19, Tryd.ntmps19
    go_wp2_with fail
    refine HE.out.mono ?_
    rintro e w1 ⟨A1, m1', c1, rfl, hown, hb1⟩
    simp only [Bool.false_eq_true, if_false] at hown
    obtain rfl : m1' = 0 := by have := hown.1; simpa using this.symm
    have HB1 := Lib.hid hb1
    clear hown hb1
    go_wp2_with fail
    refine (HS.out _ _ _ _ (HX.out.below HB1.out) HI.out hn).mono ?_
    rintro e w4 ⟨rfl, hb4⟩
    go_wp2
    go_ret
    exact ⟨rfl, HB1.out.trans (hb4.mono HB1.out.size)⟩
  | true =>
    have hr := hw0 rfl
    rw [hr] at HE
    obtain ⟨hby, hle, hback, hpos, hless, hmore⟩ := hbk rfl
    rw [HL.out] at hback hless hmore
    have HBY := Lib.hid hby
    have HLESS := Lib.hid hless
    have HMORE := Lib.hid hmore
    have HBACK := Lib.hid hback
    obtain ⟨bs, hbs⟩ : ∃ bs, enc xs = bs := ⟨_, rfl⟩
    simp only [if_true] at HE HS
    rw [hbs] at HE HBY HLESS HMORE HBACK HS hle hpos
    clear hw0 hw1 hr hby hback hless hmore hbk hbs
    go_enter Tryd.func19, Tryd.ntmps19
    go_wp2_with fail
    refine HE.out.mono ?_
    rintro e w1 ⟨A1, m1, c1, rfl, hown, hb1⟩
    have hm1 : bs.length = m1 := row_len hown
    subst hm1
    have HO := Lib.hid (Rd.own hown)
    have HB1 := Lib.hid hb1
    clear hown hb1
    go_wp2_with fail
    refine (HD.out w1 A1 bs.length c1 bs n HO.out HBY.out (by omega)).mono ?_
    rintro e w2 ⟨A2, m2', c2, rfl, hown2, hb2⟩
    rw [HBACK.out] at hown2
    have hm2 : xs.length = m2' := row_len hown2
    rw [HL.out] at hm2
    subst hm2
    rw [HBACK.out]
    have HO2 := Lib.hid (Rd.own hown2)
    have HB2 := Lib.hid (HB1.out.trans (hb2.mono HB1.out.size))
    have HO1 := Lib.hid (HO.out.below hb2)
    clear hown2 hb2 HE HB1 HO
    go_wp2_with fail
    refine (sameI_any A2 A n c2 n c xs xs w2 HO2.out (HX.out.below HB2.out)).mono ?_
    rintro e w3 ⟨rfl, hb3⟩
    rw [decide_eq_true rfl]
    have HB3 := Lib.hid (HB2.out.trans (hb3.mono HB2.out.size))
    have HO3 := Lib.hid (HO1.out.below hb3)
    clear hb3 HB2 HO1 HO2
    go_wp2_with fail
    refine (HS.out _ _ _ _ (HX.out.below HB3.out) HI.out hn).mono ?_
    rintro e w4 ⟨rfl, hb4⟩
    have HB4 := Lib.hid (HB3.out.trans (hb4.mono HB3.out.size))
    have HO4 := Lib.hid (HO3.out.below hb4)
    clear hb4 HB3 HO3
    obtain ⟨e1, z1⟩ := HLESS.out
    obtain ⟨e5, z5⟩ := HMORE.out
    obtain ⟨er1, he1⟩ : ∃ er1, (dec (bs.take (bs.length - 1)) n).2 = er1 := ⟨_, rfl⟩
    obtain ⟨er2, he2⟩ : ∃ er2, (dec (bs ++ [0]) n).2 = er2 := ⟨_, rfl⟩
    rw [he1] at e1
    rw [he2] at e5
    have N1 : (er1 == 0) = false := by simp [e1]
    have N2 : (er2 != 0) = true := by simp [e5]
    have Z1 := Lib.hid (And.intro he1 z1)
    have Z2 := Lib.hid (And.intro he2 z5)
    clear he1 he2 z1 z5 e1 e5 HLESS HMORE
    have hcp := HO4.out.cap
    go_wp2_with fail
    refine wp_region_free 17 (by kernel_rfl) (by kernel_rfl) ?_
    refine chain_val (.iface T (.agg #[])) (S := [0]) rfl ?_ ?_
    · intro ρ w' hE hB hs
      have h0 : ρ (.tmp 0) = .iface T (.agg #[]) := hs 0 (by decide)
      clear hs
      refine if_t (by rfl) ?_
      (go_simp <;> exact wrapi64_in _ (by omega) (by omega))
    refine chain_val (.slice A1 bs.length c1) (S := [5]) rfl ?_ ?_
    · intro ρ w' hE hB hs
      have h5 : ρ (.tmp 5) = .slice A1 bs.length c1 := hs 5 (by decide)
      clear hs
      refine if_t (by rfl) ?_
      (go_simp <;> exact wrapi64_in _ (by omega) (by omega))
    refine chain_val (.slice A1 bs.length c1) (S := [5]) rfl ?_ ?_
    · intro ρ w' hE hB hs
      have h5 : ρ (.tmp 5) = .slice A1 bs.length c1 := hs 5 (by decide)
      clear hs
      refine if_t (by rfl) ?_
      (go_simp <;> exact wrapi64_in _ (by omega) (by omega))
    refine chain_val (.int .i64 (bs.length : Nat)) (S := [56]) rfl ?_ ?_
    · intro ρ w' hE hB hs
      have h56 : ρ (.tmp 56) = .slice A1 bs.length c1 := hs 56 (by decide)
      clear hs
      refine if_t (by rfl) ?_
      (go_simp <;> exact wrapi64_in _ (by omega) (by omega))
    refine chain_val (.int .i64 ((bs.length - 1 : Nat) : Int)) (S := [57]) rfl ?_ ?_
    · intro ρ w' hE hB hs
      have h57 : ρ (.tmp 57) = .int .i64 (bs.length : Nat) := hs 57 (by decide)
      clear hs
      have hc := hE.const
      refine if_t (by rfl) ?_
      go_simp
      (rw [wrapi64_in _ (by omega) (by omega)]; omega)
    refine chain_fact (RdF .u8 (bs.take (bs.length - 1))) (RdF.stable _ _) (S := [55, 58]) rfl ?_ ?_
    · intro ρ w' hE hB hs
      have h55 : ρ (.tmp 55) = .slice A1 bs.length c1 := hs 55 (by decide)
      have h58 : ρ (.tmp 58) = .int .i64 ((bs.length - 1 : Nat) : Int) := hs 58 (by decide)
      clear hs
      refine if_t (by rfl) ?_
      have hrun := run_h (P := Tryd.prog) (w := w') elemU8 A1 bs.length c1 (j := bs.length - 1) (by omega) .i64
      refine ⟨_, ?_, _, _, _, rfl, (HO4.out.below hB).take (by omega)⟩
      unfold execOp
      simp only [Option.map, h55, h58, hrun, Sem.run_bind, Result.andThen_ok, Sem.run_pure]
    refine chain_val (.slice A n c) (S := [1]) rfl ?_ ?_
    · intro ρ w' hE hB hs
      have h1 : ρ (.tmp 1) = .slice A n c := hs 1 (by decide)
      clear hs
      refine if_t (by rfl) ?_
      (go_simp <;> exact wrapi64_in _ (by omega) (by omega))
    refine chain_val (.int .i64 (n : Nat)) (S := [60]) rfl ?_ ?_
    · intro ρ w' hE hB hs
      have h60 : ρ (.tmp 60) = .slice A n c := hs 60 (by decide)
      clear hs
      refine if_t (by rfl) ?_
      (go_simp <;> exact wrapi64_in _ (by omega) (by omega))
    refine chain_val (.func (.method "Decode") #[.iface T (.agg #[])] #[]) (S := [54]) rfl ?_ ?_
    · intro ρ w' hE hB hs
      have h54 : ρ (.tmp 54) = .iface T (.agg #[]) := hs 54 (by decide)
      clear hs
      refine if_t (by rfl) ?_
      go_simp
    refine chain_val (.func (.method "Decode") #[.iface T (.agg #[])] #[]) (S := [62]) rfl ?_ ?_
    · intro ρ w' hE hB hs
      have h62 : ρ (.tmp 62) = .func (.method "Decode") #[.iface T (.agg #[])] #[] := hs 62 (by decide)
      clear hs
      refine if_t (by rfl) ?_
      go_simp
    refine chain_val (.iface T (.agg #[])) (S := [54]) rfl ?_ ?_
    · intro ρ w' hE hB hs
      have h54 : ρ (.tmp 54) = .iface T (.agg #[]) := hs 54 (by decide)
      clear hs
      refine if_t (by rfl) ?_
      (go_simp <;> exact wrapi64_in _ (by omega) (by omega))
    refine chain_call (DecF w4.heap.size [] er1) (DecF.stable _ _ _) (S := [64, 59, 61]) rfl ?_ ?_
    · intro ρ w' hE hB hs
      have h59 : (RdF .u8 (bs.take (bs.length - 1))) (ρ (.tmp 59)) w' := hs 59 (by decide)
      have h61 : ρ (.tmp 61) = .int .i64 (n : Nat) := hs 61 (by decide)
      have h64 : ρ (.tmp 64) = .iface T (.agg #[]) := hs 64 (by decide)
      clear hs
      obtain ⟨A59, n59, c59, e59, r59⟩ := h59
      refine ⟨(by rfl), fD, #[.agg #[], .slice A59 n59 c59, .int .i64 n], ?_, ?_⟩
      · go_simp
      · have hl := r59.len
        rw [List.length_take] at hl
        refine (HD.out _ _ _ _ _ n r59 (fun x hx => HBY.out x (List.mem_of_mem_take hx)) (by omega)).mono ?_
        rintro e w5 ⟨A', m', c', rfl, ho, hb⟩
        rw [Z1.out.2] at ho
        exact ⟨_, rfl, hb, A', m', c', by rw [Z1.out.1], owns_weak ho hB.size⟩
    refine chain_fact (DecF w4.heap.size [] er1) (DecF.stable _ _ _) (S := [65]) rfl ?_ ?_
    · intro ρ w' hE hB hs
      have h65 : (DecF w4.heap.size [] er1) (ρ (.tmp 65)) w' := hs 65 (by decide)
      clear hs
      refine if_t (by rfl) ?_
      exact ⟨_, rfl, h65⟩
    refine chain_fact (OwF w4.heap.size 2 .i64 []) (OwF.stable _ _ _ _) (S := [53]) rfl ?_ ?_
    · intro ρ w' hE hB hs
      have h53 : (DecF w4.heap.size [] er1) (ρ (.tmp 53)) w' := hs 53 (by decide)
      clear hs
      refine if_t (by rfl) ?_
      obtain ⟨A', m', c', e53, ho⟩ := h53
      exact ⟨.slice A' m' c', by go_simp, A', m', c', rfl, ho⟩
    refine chain_val (.int .i64 er1) (S := [53]) rfl ?_ ?_
    · intro ρ w' hE hB hs
      have h53 : (DecF w4.heap.size [] er1) (ρ (.tmp 53)) w' := hs 53 (by decide)
      clear hs
      refine if_t (by rfl) ?_
      obtain ⟨A', m', c', e53, ho⟩ := h53
      go_simp
    refine chain_fact (OwF w4.heap.size 2 .i64 []) (OwF.stable _ _ _ _) (S := [66]) rfl ?_ ?_
    · intro ρ w' hE hB hs
      have h66 : (OwF w4.heap.size 2 .i64 []) (ρ (.tmp 66)) w' := hs 66 (by decide)
      clear hs
      refine if_t (by rfl) ?_
      exact ⟨_, rfl, h66⟩
    refine chain_val (.int .i64 er1) (S := [67]) rfl ?_ ?_
    · intro ρ w' hE hB hs
      have h67 : ρ (.tmp 67) = .int .i64 er1 := hs 67 (by decide)
      clear hs
      refine if_t (by rfl) ?_
      (go_simp <;> exact wrapi64_in _ (by omega) (by omega))
    intro w1 hB1
    simp only [List.reverse_cons, List.reverse_nil, List.nil_append, List.cons_append, Go.Free.Ends, forall_eq, Act.put, List.setIfInBounds_toArray, List.set_cons_zero, List.set_cons_succ]
    rintro _ _ _ _ _ _ _ ⟨A6, m6, c6, rfl, ho6⟩ _ ⟨A7, m7, c7, rfl, ho7⟩
    obtain rfl : m7 = 0 := by have := row_len ho7; simpa using this.symm
    obtain rfl : m6 = 0 := by have := row_len ho6; simpa using this.symm
    have HB5 := Lib.hid (HB4.out.trans (hB1.mono HB4.out.size))
    have HO5 := Lib.hid (HO4.out.below hB1)
    clear hB1 ho6 ho7 HB4 HO4 Z1
    go_wp2_with fail
    refine wp_region_freeS 17 5 (fun k => k == 1 || k == 3 || k == 4) (by kernel_rfl) (by kernel_rfl) (by kernel_rfl) (by decide) rfl ?_
    refine chainS_hard (step_val (.iface T (.agg #[])) (S := [0]) rfl ?_) (by decide) rfl (hard_eq _ _) ?_
    · intro ρ w' hE hB hs
      have h0 : ρ (.tmp 0) = .iface T (.agg #[]) := hs 0 (by decide)
      clear hs
      refine if_t (by rfl) ?_
      (go_simp <;> exact wrapi64_in _ (by omega) (by omega))
    refine chainS_soft (step_make (LitF (w1.heap.size) 5) (LitF.stable _ _) (S := []) rfl ?_) (by decide) rfl ?_
    · intro ρ w' hE hB hs
      clear hs
      exact ⟨(by rfl), .slice (some ⟨w'.heap.size, 0, none⟩) 0 0, w'.alloc (.cells #[] 5), (by go_simp), (Below.refl _ _).alloc (Nat.le_refl _) _, w'.heap.size, rfl, Nat.le_trans (by omega) hB.size, heap_alloc_new w' _⟩
    refine chainS_hard (step_val (.slice A1 bs.length c1) (S := [5]) rfl ?_) (by decide) rfl (hard_eq _ _) ?_
    · intro ρ w' hE hB hs
      have h5 : ρ (.tmp 5) = .slice A1 bs.length c1 := hs 5 (by decide)
      clear hs
      refine if_t (by rfl) ?_
      (go_simp <;> exact wrapi64_in _ (by omega) (by omega))
    refine chainS_soft (step_append0 (base := w1.heap.size) (k := .u8) (xs := bs) (S := [77, 78]) elemU8 rfl rfl (by omega) ?_ (by omega) (by omega)) (by decide) rfl ?_
    · intro ρ w' hE hB hs
      have h77 : (LitF (w1.heap.size) 5) (ρ (.tmp 77)) w' := hs 77 (by decide)
      have h78 : ρ (.tmp 78) = .slice A1 bs.length c1 := hs 78 (by decide)
      clear hs
      refine ⟨(by rfl), h77, ?_⟩
      exact ⟨_, _, _, h78, HO5.out.below hB⟩
    refine chainS_soft (step_make (RdF .u8 [0]) (RdF.stable _ _) (S := []) rfl ?_) (by decide) rfl ?_
    · intro ρ w' hE hB hs
      clear hs
      have hc := hE.const
      exact ⟨(by rfl), .slice (some ⟨w'.heap.size, 0, none⟩) 1 1, w'.alloc (.cells #[.int .u8 0] 5), (by go_simp), (Below.refl _ _).alloc (Nat.le_refl _) _, _, _, _, rfl, Rd.lit w' 5 .u8 [0] (by simp [maxLen])⟩
    refine chainS_append (base := w1.heap.size) (k := .u8) (xs := bs) (ys := [0]) (S := [79, 80]) rfl elemU8 rfl rfl rfl ?_ (by simp only [List.length_cons, List.length_nil]; omega) (by simp only [List.length_cons, List.length_nil]; omega) ?_
    · intro ρ w' hE hB hs
      have h79 : (OwF (w1.heap.size) 5 .u8 bs) (ρ (.tmp 79)) w' := hs 79 (by decide)
      have h80 : (RdF .u8 [0]) (ρ (.tmp 80)) w' := hs 80 (by decide)
      clear hs
      refine ⟨(by rfl), ?_⟩
      exact ⟨h79, h80⟩
    refine chainS_hard (step_val (.slice A n c) (S := [1]) rfl ?_) (by decide) rfl (hard_eq _ _) ?_
    · intro ρ w' hE hB hs
      have h1 : ρ (.tmp 1) = .slice A n c := hs 1 (by decide)
      clear hs
      refine if_t (by rfl) ?_
      (go_simp <;> exact wrapi64_in _ (by omega) (by omega))
    refine chainS_hard (step_val (.int .i64 (n : Nat)) (S := [82]) rfl ?_) (by decide) rfl (hard_eq _ _) ?_
    · intro ρ w' hE hB hs
      have h82 : ρ (.tmp 82) = .slice A n c := hs 82 (by decide)
      clear hs
      refine if_t (by rfl) ?_
      (go_simp <;> exact wrapi64_in _ (by omega) (by omega))
    refine chainS_hard (step_val (.func (.method "Decode") #[.iface T (.agg #[])] #[]) (S := [76]) rfl ?_) (by decide) rfl (hard_eq _ _) ?_
    · intro ρ w' hE hB hs
      have h76 : ρ (.tmp 76) = .iface T (.agg #[]) := hs 76 (by decide)
      clear hs
      refine if_t (by rfl) ?_
      go_simp
    refine chainS_hard (step_val (.func (.method "Decode") #[.iface T (.agg #[])] #[]) (S := [84]) rfl ?_) (by decide) rfl (hard_eq _ _) ?_
    · intro ρ w' hE hB hs
      have h84 : ρ (.tmp 84) = .func (.method "Decode") #[.iface T (.agg #[])] #[] := hs 84 (by decide)
      clear hs
      refine if_t (by rfl) ?_
      go_simp
    refine chainS_hard (step_val (.iface T (.agg #[])) (S := [76]) rfl ?_) (by decide) rfl (hard_eq _ _) ?_
    · intro ρ w' hE hB hs
      have h76 : ρ (.tmp 76) = .iface T (.agg #[]) := hs 76 (by decide)
      clear hs
      refine if_t (by rfl) ?_
      (go_simp <;> exact wrapi64_in _ (by omega) (by omega))
    refine chainS_late (step_call (DecF w1.heap.size [] er2) (DecF.stable _ _ _) (S := [86, 81, 83]) rfl ?_) (by decide) rfl (by kernel_rfl) ?_
    · intro ρ w' hE hB hs
      have h81 : (OwF (w1.heap.size) 5 .u8 (bs ++ [0])) (ρ (.tmp 81)) w' := hs 81 (by decide)
      have h83 : ρ (.tmp 83) = .int .i64 (n : Nat) := hs 83 (by decide)
      have h86 : ρ (.tmp 86) = .iface T (.agg #[]) := hs 86 (by decide)
      clear hs
      obtain ⟨A81, n81, c81, e81, r81⟩ := h81
      refine ⟨(by rfl), fD, #[.agg #[], .slice A81 n81 c81, .int .i64 n], ?_, ?_⟩
      · go_simp
      · have hl := row_len r81
        simp only [List.length_append, List.length_cons, List.length_nil] at hl
        refine (HD.out _ _ _ _ _ n (Rd.own r81) (By.app0 HBY.out) (by omega)).mono ?_
        rintro e w5 ⟨A', m', c', rfl, ho, hb⟩
        rw [Z2.out.2] at ho
        exact ⟨_, rfl, hb, A', m', c', by rw [Z2.out.1], owns_weak ho hB.size⟩
    refine chainS_late (step_fact (DecF w1.heap.size [] er2) (DecF.stable _ _ _) (S := [87]) rfl ?_) (by decide) rfl (by kernel_rfl) ?_
    · intro ρ w' hE hB hs
      have h87 : (DecF w1.heap.size [] er2) (ρ (.tmp 87)) w' := hs 87 (by decide)
      clear hs
      refine if_t (by rfl) ?_
      exact ⟨_, rfl, h87⟩
    refine chainS_late (step_fact (OwF w1.heap.size 2 .i64 []) (OwF.stable _ _ _ _) (S := [75]) rfl ?_) (by decide) rfl (by kernel_rfl) ?_
    · intro ρ w' hE hB hs
      have h75 : (DecF w1.heap.size [] er2) (ρ (.tmp 75)) w' := hs 75 (by decide)
      clear hs
      refine if_t (by rfl) ?_
      obtain ⟨A', m', c', e75, ho⟩ := h75
      exact ⟨.slice A' m' c', by go_simp, A', m', c', rfl, ho⟩
    refine chainS_hard (step_val (.int .i64 er2) (S := [75]) rfl ?_) (by decide) rfl (hard_eq _ _) ?_
    · intro ρ w' hE hB hs
      have h75 : (DecF w1.heap.size [] er2) (ρ (.tmp 75)) w' := hs 75 (by decide)
      clear hs
      refine if_t (by rfl) ?_
      obtain ⟨A', m', c', e75, ho⟩ := h75
      go_simp
    refine chainS_late (step_fact (OwF w1.heap.size 2 .i64 []) (OwF.stable _ _ _ _) (S := [88]) rfl ?_) (by decide) rfl (by kernel_rfl) ?_
    · intro ρ w' hE hB hs
      have h88 : (OwF w1.heap.size 2 .i64 []) (ρ (.tmp 88)) w' := hs 88 (by decide)
      clear hs
      refine if_t (by rfl) ?_
      exact ⟨_, rfl, h88⟩
    refine chainS_hard (step_val (.int .i64 er2) (S := [89]) rfl ?_) (by decide) rfl (hard_eq _ _) ?_
    · intro ρ w' hE hB hs
      have h89 : ρ (.tmp 89) = .int .i64 er2 := hs 89 (by decide)
      clear hs
      refine if_t (by rfl) ?_
      (go_simp <;> exact wrapi64_in _ (by omega) (by omega))
    intro w1 hB1
    simp only [List.reverse_cons, List.reverse_nil, List.nil_append, List.cons_append, Go.Free.Ends, forall_eq, Act.put, List.setIfInBounds_toArray, List.set_cons_zero, List.set_cons_succ]
    rintro _ _ _ _ _ _ _ _ _ _ _ _ _ ⟨A8, m8, c8, rfl, ho8⟩ _ ⟨A9, m9, c9, rfl, ho9⟩
    obtain rfl : m9 = 0 := by have := row_len ho9; simpa using this.symm
    obtain rfl : m8 = 0 := by have := row_len ho8; simpa using this.symm
    have HB6 := Lib.hid (HB5.out.trans (hB1.mono HB5.out.size))
    clear hB1 ho8 ho9 HB5 HO5 Z2
    go_wp2
    go_ret
    exact ⟨rfl, HB6.out⟩
end Go.Proofs.YtaohdbagcfgoeaaDoor

namespace Go.Cor
open Go Go.RowKit

/-- all is kept but the blocks T -/
abbrev Mod (T : Nat → Prop) := Keep (fun _ k => ¬ T k)
theorem Mod.of_below {T : Nat → Prop} {W W' : World} (h : Below W.heap.size W W') : Mod T W W' := Keep.of_below h
theorem Mod.below {W W' : World} {B : Nat} {T : Nat → Prop} (h : Mod T W W') (hB : B ≤ W.heap.size) (hT : ∀ k, T k → B ≤ k) : Below B W W' :=
  below_keep h hB fun k hk ht => by have := hT k ht; omega
/-- round a try: the box that it makes is new -/
theorem Mod.tried {T : Nat → Prop} {w4 w1 w5 : World} {o : Obj} (hm : Mod T (w4.alloc o) w1) (hk : Keep (fun _ k => k ≠ w4.heap.size) w1 w5) : Mod T w4 w5 := by
  have h1 : Mod T w4 w1 := (Keep.alloc _ w4 o).trans hm fun _ _ h => h
  exact ⟨hk.os.trans h1.os, hk.tape.trans h1.tape, hk.output.trans h1.output, Nat.le_trans h1.size hk.size, fun k hlt h => (hk.block k (Nat.lt_of_lt_of_le hlt h1.size) (by omega)).trans (h1.block k hlt h)⟩
theorem Below.of_mod {w w' : World} (h : Mod (fun _ => False) w w') : Below w.heap.size w w' := h.below (Nat.le_refl _) fun _ h => h.elim
theorem Mod.trans {T : Nat → Prop} {A B C : World} (h : Mod T A B) (k : Mod T B C) : Mod T A C := Keep.trans h k fun _ _ h => h
end Go.Cor
namespace Go.Proofs.YtaohdbagcfgoeaaDoor
open Go.RowKit Go.Cor Go.Free

/-- an error that is thrown -/
abbrev Thr (n : Int) : Ending := .panicked [{ v := .iface 87 (.agg #[.int .i64 n]), recovered := false }]

theorem throw_ok (w : World) : Calls Tryd.prog 53 #[.int .i64 0] w fun e w' => e = .returned (.tuple #[]) ∧ w = w' := by
  go_enter Tryd.func53, Tryd.ntmps53
  go_wp2
  go_end0
  exact ⟨rfl, rfl⟩
theorem throw_any (n : Int) (w : World) (hn : n ≠ 0) : Calls Tryd.prog 53 #[.int .i64 n] w fun e w' => e = Thr n ∧ w = w' := by
  have h1 : (n != 0) = true := by simp [hn]
  clear hn
  go_enter Tryd.func53, Tryd.ntmps53
  go_wp2
  exact ⟨rfl, rfl, rfl⟩
theorem check_true (n : Int) (w : World) : Calls Tryd.prog 46 #[.bool true, .int .i64 n] w fun e w' => e = .returned (.tuple #[]) ∧ w = w' := by
  go_enter Tryd.func46, Tryd.ntmps46
  go_wp2
  go_end0
  exact ⟨rfl, rfl⟩
theorem check_false (n : Int) (w : World) (hn : n ≠ 0) : Calls Tryd.prog 46 #[.bool false, .int .i64 n] w fun e w' => e = Thr n ∧ w = w' := by
  go_enter Tryd.func46, Tryd.ntmps46
  go_wp2_with fail
  refine (throw_any n w hn).mono ?_
  rintro e w' ⟨rfl, rfl⟩
  exact ⟨rfl, rfl, rfl⟩

/-! ### the deferred closure -/
/-- the body is left, with no defers, in the world W' -/
def Went (W' : World) (e : Exit) (a : Act) (w : World) : Prop := (e = .normal ∨ e = .ret) ∧ a.defers = [] ∧ w = W'

theorem catch_idle (p : Addr) (w : World) :
    CallsD Tryd.prog 54 #[.pointer (some p)] .returning w fun e u' w' => e = .returned (.tuple #[]) ∧ u' = .returning ∧ w' = w := by
  refine callsD_of_wpS Tryd.func54 rfl fun c₀ cs hu => ?_
  apply wpS_seq
  apply wpS_region
  simp [wpOpsS, go_sem, recoverD, hu, Tryd.ntmps54, Exit.thenS]
  refine wpS_of_wp (wp_mono (Q := Went w) ?_ ?_)
  · show Code.wp _ _ _ { tmps := #[.pointer (some p), .nilIface, undef, undef, .nilIface, undef, undef, undef, undef, undef, undef, undef, undef, undef, undef, undef, undef], defers := [] } _
    go_wp2
    exact ⟨.inr rfl, rfl, rfl⟩
  · rintro e a w' ⟨h1, h2, rfl⟩
    cases c₀
    rcases h1 with rfl | rfl <;> simp_all [bodyPostS, results, Tryd.results54]
theorem assert_thrown (n : Int) (w : World) : (Instr.typeAssert (.iface 87 (.agg #[.int .i64 n])) 20 87 true).run Tryd.prog w = .ok (.tuple #[.agg #[.int .i64 n], .bool true]) w := by kernel_rfl
set_option maxRecDepth 100000 in
set_option maxHeartbeats 1000000 in
theorem catch_thrown (b : Nat) (n : Int) (old : Value) (w : World) (hb : Box w b 33 old) :
    CallsD Tryd.prog 54 #[.pointer (some ⟨b, 0, none⟩)] (.panicking [{ v := .iface 87 (.agg #[.int .i64 n]), recovered := false }]) w fun e u' w' =>
      e = .returned (.tuple #[]) ∧ u' = .panicking [{ v := .iface 87 (.agg #[.int .i64 n]), recovered := true }] ∧ w' = (w.setCell ⟨b, 0, none⟩ (.int .i64 n)).alloc (.cells #[.int .i64 n] 87) := by
  have hc := cell_of_one (hb.alloc (.cells #[.int .i64 n] 87))
  have hz := free_of_one (hb.alloc (.cells #[.int .i64 n] 87))
  have hlt := lt_of_block hb
  clear hb
  have hta := fun (w : World) => assert_thrown n w
  refine callsD_of_wpS Tryd.func54 rfl fun c₀ cs hu => ?_
  apply wpS_seq
  apply wpS_region
  simp [wpOpsS, go_sem, recoverD, hu, Tryd.ntmps54, Exit.thenS]
  refine wpS_of_wp (wp_mono (Q := Went ((w.setCell ⟨b, 0, none⟩ (.int .i64 n)).alloc (.cells #[.int .i64 n] 87))) ?_ ?_)
  · show Code.wp _ _ _ { tmps := #[.pointer (some ⟨b, 0, none⟩), .iface 87 (.agg #[.int .i64 n]), undef, undef, .iface 87 (.agg #[.int .i64 n]), undef, undef, undef, undef, undef, undef, undef, undef, undef, undef, undef, undef], defers := [] } _
    go_wp2
    exact ⟨.inl rfl, rfl, rfl⟩
  · rintro e a w' ⟨h1, h2, rfl⟩
    cases c₀
    rcases h1 with rfl | rfl <;> simp_all [bodyPostS, results, Tryd.results54]

/-- it returns nothing, or throws an error that is none of nought -/
def Tried (R : Int → World → Prop) (e : Ending) (w : World) : Prop := ∃ n : Int, R n w ∧ ((n = 0 ∧ e = .returned (.tuple #[])) ∨ (n ≠ 0 ∧ e = Thr n))

set_option maxRecDepth 100000 in
set_option maxHeartbeats 1000000 in
theorem try_any (g : FuncId) (caps : Array Value) (w : World) (R : Int → World → Prop) (eg : ∀ args w, (callFunc g args).run Tryd.prog w = .ok (.enter g args) w)
    (hdo : Calls Tryd.prog g caps (w.alloc (.cells #[.int .i64 0] 33)) (Tried R)) (hbox : ∀ n w1, R n w1 → Box w1 w.heap.size 33 (.int .i64 0)) :
    Calls Tryd.prog 48 #[.func (.func g) #[] caps] w fun e w' => ∃ n w1, R n w1 ∧ e = .returned (.int .i64 n) ∧ Keep (fun _ k => k ≠ w.heap.size) w1 w' := by
  have hmf : ∀ (fn : Fn) (first cap : Array Value) (w : World), (Instr.makeFunc fn first cap).run Tryd.prog w = .ok (.func fn first cap) w := fun _ _ _ _ => rfl
  have HD := Lib.hid hdo
  clear hdo
  go_enter_defers Tryd.func48, Tryd.ntmps48
  go_wp2_with fail
  refine HD.out.mono ?_
  rintro e w1 ⟨n, hR, ⟨rfl, rfl⟩ | ⟨hn, rfl⟩⟩
  · have hB := hbox 0 w1 hR
    have hc := cell_of_one hB
    have hz := free_of_one hB
    have hlt := lt_of_block hB
    have HB := Lib.hid hB
    clear hbox hB
    go_wp2
    refine leaves_cons (f := 54) (args := #[.pointer (some ⟨w.heap.size, 0, none⟩)]) (by simp) (by simp [go_sem]) ?_
    refine (catch_idle ⟨w.heap.size, 0, none⟩ _).mono ?_
    rintro e u' w'' ⟨rfl, rfl, rfl⟩
    have h2 := cell_of_one (one_setCell (u := .int .i64 0) HB.out)
    simp [Leaves, settle, results, Tryd.results48, go_sem, h2]
    exact ⟨0, w1, hR, rfl, .setCell _ (by simp) _⟩
  · have hB := hbox n w1 hR
    have HB := Lib.hid hB
    clear hbox hB
    go_wp2
    refine leaves_cons (f := 54) (args := #[.pointer (some ⟨w.heap.size, 0, none⟩)]) (by simp) (by simp [go_sem]) ?_
    refine (catch_thrown w.heap.size n _ _ HB.out).mono ?_
    rintro e u' w'' ⟨rfl, rfl, rfl⟩
    have h2 := cell_of_one ((Box.alloc (one_setCell (u := .int .i64 n) HB.out)) (.cells #[.int .i64 n] 87))
    simp [Leaves, settle, results, Tryd.results48, go_sem, h2]
    exact ⟨n, w1, hR, rfl, (Keep.setCell _ (by simp) _).trans (.alloc _ _ _) fun _ _ h => h⟩
end Go.Proofs.YtaohdbagcfgoeaaDoor

namespace Go.Proofs.YtaohdbagcfgoeaaDoor
open Go.RowKit Go.Cor Go.Free

/-- what a reading hands out: a row, or an error that is thrown; what it keeps -/
def Gives (T : Nat → Prop) (R : Option Addr → Nat → Nat → World → Prop) (S : Int → World → Prop) (w : World) (e : Ending) (w' : World) : Prop :=
  ((∃ A n c, e = .returned (.slice A n c) ∧ R A n c w') ∨ (∃ n : Int, n ≠ 0 ∧ e = Thr n ∧ S n w')) ∧ Mod T w w'
/-- all but the three boxes that Get makes -/
abbrev Past (B : Nat) := Keep (fun _ k => k < B ∨ B + 3 ≤ k)
/-- what Get hands out -/
def Gets (T : Nat → Prop) (R : Option Addr → Nat → Nat → World → Prop) (S : Int → World → Prop) (w : World) (e : Ending) (w' : World) : Prop :=
  ((∃ A n c w4, e = .returned (.tuple #[.slice A n c, .int .i64 0]) ∧ R A n c w4 ∧ Past w.heap.size w4 w') ∨ (∃ (n : Int) (w4 : World), n ≠ 0 ∧ e = .returned (.tuple #[.slice none 0 0, .int .i64 n]) ∧ S n w4 ∧ Past w.heap.size w4 w')) ∧ Mod T w w'

/-- the middle of it -/
def MidI (T : Nat → Prop) (R : Option Addr → Nat → Nat → World → Prop) (S : Int → World → Prop) (B : Nat) (w3 : World) (n : Int) (w1 : World) : Prop :=
  ∃ w4, Mod T w3 w4 ∧ Box w1 (B + 2) 33 (.int .i64 0) ∧ ((n = 0 ∧ ∃ A m c, R A m c w4 ∧ w1 = w4.setCell ⟨B + 1, 0, none⟩ (.slice A m c) ∧ Box w1 (B + 1) 22 (.slice A m c)) ∨ (n ≠ 0 ∧ S n w4 ∧ w1 = w4))
set_option maxRecDepth 100000 in
set_option maxHeartbeats 1000000 in
theorem get1I (g : FuncId) (caps : Array Value) (w3 : World) (B : Nat) (T : Nat → Prop) (hT : ∀ k, T k → k < B) (R : Option Addr → Nat → Nat → World → Prop) (S : Int → World → Prop) (eg : ∀ args w, (callFunc g args).run Tryd.prog w = .ok (.enter g args) w)
    (hdo : Calls Tryd.prog g caps w3 (Gives T R S w3)) (h0 : Box w3 B 75 (.func (.func g) #[] caps)) (h1 : Box w3 (B + 1) 22 (.slice none 0 0)) (h2 : Box w3 (B + 2) 33 (.int .i64 0)) :
    Calls Tryd.prog 49 #[.pointer (some ⟨B, 0, none⟩), .pointer (some ⟨B + 1, 0, none⟩)] w3 (Tried (MidI T R S B w3)) := by
  have HD := Lib.hid hdo
  have hc := cell_of_one h0
  have H1 := Lib.hid h1
  have H2 := Lib.hid h2
  have HT := Lib.hid hT
  clear hdo h0 h1 h2 hT
  go_enter Tryd.func49, Tryd.ntmps49
  go_wp2_with fail
  refine HD.out.mono ?_
  rintro e w4 ⟨⟨A, n, c, rfl, hR⟩ | ⟨n, hn, rfl, hS⟩, hm⟩
  · have h1' := H1.out.keep hm (fun h => by have := HT.out _ h; omega)
    have h2' := H2.out.keep hm (fun h => by have := HT.out _ h; omega)
    have hc1 := cell_of_one h1'
    have hz1 := free_of_one h1'
    have G1 := Lib.hid h1'
    have G2 := Lib.hid h2'
    have HR := Lib.hid hR
    have HM := Lib.hid hm
    clear h1' h2' hR hm
    go_wp2
    go_end0
    exact ⟨0, ⟨w4, HM.out, G2.out.far (by simp) _, .inl ⟨rfl, A, n, c, HR.out, rfl, one_setCell G1.out⟩⟩, .inl ⟨rfl, rfl⟩⟩
  · have h2' := H2.out.keep hm (fun h => by have := HT.out _ h; omega)
    exact ⟨rfl, n, ⟨w4, hm, h2', .inr ⟨hn, hS, rfl⟩⟩, .inr ⟨hn, rfl⟩⟩
set_option maxRecDepth 100000 in
set_option maxHeartbeats 1000000 in
theorem getI_any (g : FuncId) (caps : Array Value) (w : World) (T : Nat → Prop) (hT : ∀ k, T k → k < w.heap.size) (R : Option Addr → Nat → Nat → World → Prop) (S : Int → World → Prop) (eg : ∀ args w, (callFunc g args).run Tryd.prog w = .ok (.enter g args) w)
    (hdo : ∀ w3, Below w.heap.size w w3 → w3.heap.size = w.heap.size + 3 → Calls Tryd.prog g caps w3 (Gives T R S w3)) :
    Calls Tryd.prog 41 #[.func (.func g) #[] caps] w (Gets T R S w) := by
  have hmf : ∀ (fn : Fn) (first cap : Array Value) (w : World), (Instr.makeFunc fn first cap).run Tryd.prog w = .ok (.func fn first cap) w := fun _ _ _ _ => rfl
  obtain ⟨w3, hw3⟩ : ∃ w3, ((w.alloc (.cells #[.func (.func g) #[] caps] 75)).alloc (.cells #[.slice none 0 0] 22)).alloc (.cells #[.int .i64 0] 33) = w3 := ⟨_, rfl⟩
  have hb3 : Below w.heap.size w w3 := by rw [← hw3]; exact (((Below.refl _ _).alloc (Nat.le_refl _) _).alloc (by simp) _).alloc (by simp; omega) _
  have hs3 : w3.heap.size = w.heap.size + 3 := by rw [← hw3]; simp
  have b0 : Box w3 w.heap.size 75 (.func (.func g) #[] caps) := by rw [← hw3]; exact ((Box.new _ _ _).alloc _).alloc _
  have b1 : Box w3 (w.heap.size + 1) 22 (.slice none 0 0) := by rw [← hw3]; have := (Box.new (w.alloc (.cells #[.func (.func g) #[] caps] 75)) 22 (.slice none 0 0)).alloc (.cells #[.int .i64 0] 33); rwa [World.size_alloc] at this
  have b2 : Box w3 (w.heap.size + 2) 33 (.int .i64 0) := by rw [← hw3]; have := Box.new ((w.alloc (.cells #[.func (.func g) #[] caps] 75)).alloc (.cells #[.slice none 0 0] 22)) 33 (.int .i64 0); rwa [World.size_alloc, World.size_alloc] at this
  have HG := Lib.hid (get1I g caps w3 w.heap.size T hT R S eg (hdo w3 hb3 hs3) b0 b1 b2)
  have HB3 := Lib.hid hb3
  have HT := Lib.hid hT
  have eg1 : ∀ args w, (callFunc 49 args).run Tryd.prog w = .ok (.enter 49 args) w := enters_f Tryd.func49 (by kernel_rfl) rfl
  have HE := Lib.hid eg1
  clear eg hdo b0 b1 b2 hb3 hs3 hT eg1
  go_enter Tryd.func41, Tryd.ntmps41
  go_wp2_with fail
  refine (try_any _ _ _ (MidI T R S w.heap.size w3) HE.out ?_ ?_).mono ?_
  · rw [hw3]; exact HG.out
  · rintro n w1 ⟨w4, _, h, _⟩
    simpa using h
  rintro e w5 ⟨n, w1, ⟨w4, hm, hb2, hor⟩, rfl, hk⟩
  have hk' : Past w.heap.size w1 w5 := hk.weak fun k _ h e => by simp at e; omega
  have hM : Mod T w w4 := (Keep.of_below HB3.out).trans hm fun k _ h => h
  have hsz : w.heap.size ≤ w4.heap.size := hM.size
  rcases hor with ⟨rfl, A, m, c, hR, rfl, hbx⟩ | ⟨hn, hS, rfl⟩
  · have hbx' := hbx.keep hk (by simp)
    have hc5 := cell_of_one hbx'
    have HK := Lib.hid (show Past w.heap.size w4 w5 from (Keep.setCell (S := fun _ k => k < w.heap.size ∨ w.heap.size + 3 ≤ k) w4 (by simp <;> omega) _).trans hk' fun _ _ h => h)
    have HM := Lib.hid hM
    have HR := Lib.hid hR
    have hk5 : Mod T w w5 := ⟨HK.out.os.trans hM.os, HK.out.tape.trans hM.tape, HK.out.output.trans hM.output, Nat.le_trans hM.size HK.out.size, fun k hlt h => (HK.out.block k (by omega) (.inl hlt)).trans (hM.block k hlt h)⟩
    have HM5 := Lib.hid hk5
    clear hbx hbx' hk hk' hb2 hm hM hR hk5
    go_wp2
    go_ret2
    exact ⟨.inl ⟨A, m, c, w4, rfl, HR.out, HK.out⟩, HM5.out⟩
  · have HK := Lib.hid hk'
    have HS := Lib.hid hS
    have hk5 : Mod T w w5 := ⟨hk'.os.trans hM.os, hk'.tape.trans hM.tape, hk'.output.trans hM.output, Nat.le_trans hM.size hk'.size, fun k hlt h => (hk'.block k (by omega) (.inl hlt)).trans (hM.block k hlt h)⟩
    have HM5 := Lib.hid hk5
    have hne : (n != 0) = true := by simp [hn]
    have HN := Lib.hid hn
    clear hk hk' hb2 hm hM hS hk5 hn
    go_wp2
    go_ret2
    exact ⟨.inr ⟨n, w1, HN.out, rfl, HS.out, HK.out⟩, HM5.out⟩
end Go.Proofs.YtaohdbagcfgoeaaDoor

namespace Go.Cor
def tkAll : List Int → Bool := fun _ => true
theorem tak_all (xs : List Int) : tak tkAll xs = blk xs.length := by unfold tak tkAll; simp
theorem wrg_all (xs : List Int) : wrg tkAll xs = if blk xs.length then 0 else 7 := by unfold wrg tkAll; simp
end Go.Cor

namespace Go.Cor
theorem leb_at {V k j : Nat} (h : j < k) : (leb V k)[j]? = some (((V / 256 ^ j % 256 : Nat)) : Int) := by
  unfold leb
  rw [List.getElem?_map, List.getElem?_range h]; rfl
theorem two8 (k : Nat) : (256 : Nat) ^ k = 2 ^ (8 * k) := by rw [Nat.pow_mul]
theorem pow_split (many : Nat) : (2 : Nat) ^ many = 256 ^ (many / 8) * 2 ^ (many % 8) := by
  rw [two8, ← Nat.pow_add]; congr 1; omega
/-- a new byte is nought -/
theorem leb_open {V k : Nat} (h : V < 256 ^ k) : leb V k ++ [0] = leb V (k + 1) := by
  refine List.ext_getElem? fun j => ?_
  by_cases h1 : j < k
  · rw [List.getElem?_append_left (by rw [leb_len]; exact h1), leb_at h1, leb_at (by omega)]
  · by_cases h2 : j = k
    · subst h2
      rw [List.getElem?_append_right (by rw [leb_len]; omega), leb_len, leb_at (by omega), Nat.sub_self, Nat.div_eq_of_lt h]; rfl
    · rw [List.getElem?_eq_none (by simp [leb_len]; omega), List.getElem?_eq_none (by rw [leb_len]; omega)]
/-- the last byte takes more bits -/
theorem leb_more {V many u : Nat} (hV : V < 2 ^ many) (hu : u < 2 ^ (8 - many % 8)) :
    (leb V (many / 8 + 1)).set (many / 8) ((V / 256 ^ (many / 8) + u * 2 ^ (many % 8) : Nat) : Int) = leb (V + u * 2 ^ many) (many / 8 + 1) := by
  have hp := pow_split many
  obtain ⟨k, hk⟩ : ∃ k, many / 8 = k := ⟨_, rfl⟩
  obtain ⟨a, ha⟩ : ∃ a, many % 8 = a := ⟨_, rfl⟩
  have ha8 : a < 8 := by omega
  rw [hk, ha] at hp ⊢
  rw [ha] at hu
  rw [hp] at hV ⊢
  refine List.ext_getElem? fun j => ?_
  by_cases h1 : j < k
  · rw [List.getElem?_set_ne (by omega), leb_at (by omega), leb_at (by omega)]
    congr 2
    have e : u * (256 ^ k * 2 ^ a) = 256 ^ j * (256 * (256 ^ (k - j - 1) * u * 2 ^ a)) := by
      have : (256 : Nat) ^ k = 256 ^ j * (256 * 256 ^ (k - j - 1)) := by
        rw [← Nat.pow_succ', ← Nat.pow_add]; congr 1; omega
      rw [this]; simp only [Nat.mul_assoc, Nat.mul_left_comm, Nat.mul_comm]
    rw [e, Nat.add_mul_div_left _ _ (Nat.pow_pos (by decide)), Nat.add_mul_mod_self_left]
  · by_cases h2 : j = k
    · subst h2
      rw [List.getElem?_set_self (by rw [leb_len]; omega), leb_at (by omega)]
      congr 2
      have e : u * (256 ^ j * 2 ^ a) = 256 ^ j * (u * 2 ^ a) := by simp only [Nat.mul_assoc, Nat.mul_left_comm, Nat.mul_comm]
      rw [e, Nat.add_mul_div_left _ _ (Nat.pow_pos (by decide))]
      have h3 : V / 256 ^ j < 2 ^ a := Nat.div_lt_of_lt_mul hV
      have h4 : (u + 1) * 2 ^ a ≤ 2 ^ (8 - a) * 2 ^ a := Nat.mul_le_mul_right _ hu
      rw [← Nat.pow_add, show 8 - a + a = 8 by omega, Nat.add_mul] at h4
      rw [Nat.mod_eq_of_lt (by omega)]
    · rw [List.getElem?_eq_none (by simp [leb_len]; omega), List.getElem?_eq_none (by rw [leb_len]; omega)]
end Go.Cor

namespace Go.Cor
theorem shr_nat (v k : Nat) : (v : Int) / 2 ^ k = ((v / 2 ^ k : Nat) : Int) := by simp
theorem shr_nought (v k : Nat) : ((v : Int) / 2 ^ k == 0) = decide (v < 2 ^ k) := by
  rw [shr_nat, Bool.eq_iff_iff]
  simp only [beq_iff_eq, decide_eq_true_eq]
  have hp : 0 < 2 ^ k := Nat.pow_pos (by decide)
  rw [show (((v / 2 ^ k : Nat) : Int) = 0) ↔ v / 2 ^ k = 0 by omega, Nat.div_eq_zero_iff]
  omega
end Go.Cor
namespace Go.Proofs.YtaohdbagcfgoeaaDoor
open Go.RowKit Go.Cor Go.Free

end Go.Proofs.YtaohdbagcfgoeaaDoor

namespace Go.Proofs.YtaohdbagcfgoeaaDoor
open Go.RowKit Go.Cor Go.Free

theorem elemU64 : ElemT Tryd.prog 44 48 (.int .u64 0) 1 8 := ⟨Tryd.underlying44, by kernel_rfl, rfl, by decide⟩
end Go.Proofs.YtaohdbagcfgoeaaDoor
