/-
  Chapter 9: Encode.
  Chapter 9: Name; awake.
  Chapter 9: the reference's Takes.
  Chapter 9: the reference's Many, Bits.
  Chapter 9: the reference's fits.
  Chapter 9: the reference's Encode.
-/
import Derived.Test.YtaohdbagcfgoeaaDoorG14
import Derived.Test.YtaohdbagcfgoeaaDoorG16
import Derived.Test.YtaohdbagcfgoeaaDoorG18
import Derived.Test.YtaohdbagcfgoeaaDoorG19
namespace Go.Cor
open Go Go.RowKit
/-- a word, so far -/
def wsofar (k : Nat) (l : List Int) (i : Nat) : Nat := k * 1152921504606846976 + if sbits k = 0 then 0 else pk (sbits k) (l.take i)
theorem wsofar_end (k : Nat) (l : List Int) : wsofar k l (smany k) = swd k l := by unfold wsofar swd; rw [two60]
theorem wsofar_zero (k : Nat) (l : List Int) : wsofar k l 0 = k * 1152921504606846976 := by unfold wsofar; split <;> simp [pk]
theorem wsofar_none {k : Nat} (h : sbits k = 0) (l : List Int) (i : Nat) : wsofar k l (i + 1) = wsofar k l i := by unfold wsofar; rw [if_pos h, if_pos h]
theorem wsofar_step {k : Nat} (hk : k < 16) (hb : sbits k ≠ 0) {l : List Int} (hf : sfit k l = true) (h0 : ∀ u ∈ l, 0 ≤ u) {i v : Nat} (hi : i < smany k) (hv : l[i]?.getD 0 = v) :
    v < 2 ^ sbits k ∧ sbits k * i + sbits k ≤ 60 ∧ v * 2 ^ (sbits k * i) < 18446744073709551616 ∧ bits .or .u64 ((wsofar k l i : Nat) : Int) ((v * 2 ^ (sbits k * i) : Nat) : Int) = ((wsofar k l (i + 1) : Nat) : Int) := by
  have hft := fit_take hf h0 hb
  have hml := (fit_of hf).1
  have hq := shp_ok k hk
  have hin : i < l.length := by omega
  have hmem : l[i]?.getD 0 ∈ l.take (smany k) := by
    rw [List.getElem?_eq_getElem hin]
    exact List.mem_take_iff_getElem.2 ⟨i, by omega, rfl⟩
  have hvb := (hft _ hmem).2
  rw [hv, Int.toNat_natCast] at hvb
  have h1 : sbits k * i + sbits k ≤ 60 := by
    have : sbits k * (i + 1) ≤ sbits k * smany k := Nat.mul_le_mul_left _ hi
    rw [Nat.mul_add, Nat.mul_one] at this; omega
  have hlt : pk (sbits k) (l.take i) < 2 ^ (sbits k * i) := by
    have h2 : Fitl (sbits k) (l.take i) := fun u hu => hft u (by
      obtain ⟨t, ht, rfl⟩ := List.mem_take_iff_getElem.1 hu
      exact List.mem_take_iff_getElem.2 ⟨t, by omega, rfl⟩)
    have h3 := pk_lt h2
    rwa [List.length_take, Nat.min_eq_left (by omega)] at h3
  have h4 : v * 2 ^ (sbits k * i) < 18446744073709551616 := by
    have h5 : (v + 1) * 2 ^ (sbits k * i) ≤ 2 ^ sbits k * 2 ^ (sbits k * i) := Nat.mul_le_mul_right _ hvb
    rw [← Nat.pow_add, Nat.add_mul] at h5
    have h6 : (2 : Nat) ^ (sbits k + sbits k * i) ≤ 2 ^ 60 := pow_mono2 (by omega)
    rw [two60] at h6
    have := pow_pos2 (sbits k * i)
    omega
  refine ⟨hvb, h1, h4, ?_⟩
  have h7 := word_or hk hlt hvb h1
  unfold wsofar
  rw [if_neg hb, if_neg hb, pk_take _ hin, hv, Int.toNat_natCast]
  exact h7
theorem wsofar_lt {k : Nat} (hk : k < 16) {l : List Int} (hf : sfit k l = true) (h0 : ∀ u ∈ l, 0 ≤ u) : swd k l < 18446744073709551616 := by
  have h1 := swd_lt hk hf h0
  have hq := shp_ok k hk
  have h2 : (2 : Nat) ^ (sbits k * smany k) ≤ 2 ^ 60 := pow_mono2 hq.2.2.2
  unfold swd
  rw [two60] at h2 ⊢
  omega
end Go.Cor
namespace Go.Proofs.YtaohdbagcfgoeaaDoor
open Go.RowKit Go.Cor Go.Free

set_option maxRecDepth 100000 in
set_option maxHeartbeats 4000000 in
theorem sEncode_any (w : World) (hj : Shp w) (A : Option Addr) (n c : Nat) (xs : List Int) (h : Rd w .i64 A n c xs) (hi : In .i64 xs) (hn : n ≤ 1100) :
    Calls Tryd.prog 17 #[.agg #[], .slice A n c] w (EncG w.heap.size w stk sform xs) := by
  have hl := h.len
  have hw := fun w hj h => wrongJ shpKeep simT A n c xs w hj h hi hn
  have hwk : tak stk xs = true → wrg stk xs = 0 := wrg_tak
  have hwn : tak stk xs = false → wrg stk xs ≠ 0 := wrg_not
  obtain ⟨q, hq⟩ : ∃ q, tak stk xs = q := ⟨_, rfl⟩
  obtain ⟨g, hg⟩ : ∃ g, wrg stk xs = g := ⟨_, rfl⟩
  rw [hq, hg] at hwk hwn
  rw [hg] at hw
  have HQ := Lib.hid (And.intro hq hg)
  have HW := Lib.hid hw
  have H := Lib.hid h
  have HJ := Lib.hid hj
  cases q with
  | false =>
    have hg0 := hwn rfl
    have hne : (g != 0) = true := by simp [hg0]
    clear hw hwk hwn hq hg h hi hj hl
    go_enter Tryd.func17, Tryd.ntmps17
    go_wp2_with fail
    refine (HW.out _ (HJ.out.keep _ _ ((Below.refl _ _).alloc (Nat.le_refl _) _)) (H.out.alloc _)).mono ?_
    rintro e w1 ⟨rfl, hb⟩
    go_wp2
    go_ret2
    exact ⟨none, 0, 0, by rw [HQ.out.2]; rfl, by rw [HQ.out.1]; exact owns_nil _ _ _ _, ((Below.refl _ _).alloc (Nat.le_refl _) _).trans (hb.mono (by simp))⟩
  | true =>
    have hg0 := hwk rfl
    subst hg0
    have hst : stk xs = true := by have := HQ.out.1; unfold tak at this; simp at this; exact this.2
    have hf := stk_fit hst
    have hzi := zigs_in xs hi
    have hul : (xs.map zig).length = n := by simp [hl]
    have HZ := Lib.hid (fun w h => szigs_any A n c xs w h hi (by omega))
    have hF : sform xs = srest (xs.map zig) := by unfold sform; rw [if_pos hst]
    have hTn := (srest_len _ (xs.map zig) hul).1
    obtain ⟨us, hus⟩ : ∃ us, xs.map zig = us := ⟨_, rfl⟩
    rw [hus] at hf hzi hul hF hTn HZ
    have HU := Lib.hid (And.intro hf (And.intro hzi (And.intro hul hTn)))
    have HF := Lib.hid hF
    clear hw hwk hwn hq hg h hi hj hl hst hf hzi hul hF hTn hus
    go_enter Tryd.func17, Tryd.ntmps17
    go_wp2_with fail
    refine (HW.out _ (HJ.out.keep _ _ ((Below.refl _ _).alloc (Nat.le_refl _) _)) (H.out.alloc _)).mono ?_
    rintro e w1 ⟨rfl, hb⟩
    have HB1 := Lib.hid (((Below.refl w.heap.size w).alloc (Nat.le_refl _) (.cells #[] 24)).trans (hb.mono (by simp)))
    clear hb
    go_wp2_with fail
    refine (HZ.out _ (H.out.below HB1.out)).mono ?_
    rintro e w2 ⟨A2, n2, c2, rfl, ho2, hb2⟩
    obtain rfl : n2 = n := by have h1 := row_len ho2; have := HU.out.2.2.1; omega
    have HB2 := Lib.hid (HB1.out.trans (hb2.mono HB1.out.size))
    have HR2 := Lib.hid (Rd.own ho2)
    clear ho2 hb2
    go_wp2_with fail
    go_loopg [7, 8] n2 (fun gg v7 v8 wr => ∃ (i d mb : Nat) (A' Ab : Option Addr) (c' cb : Nat), v7 = .slice Ab mb cb ∧ mb ≤ 10000 ∧ d = gg ∧ v8 = .slice A' d c' ∧ Hid (∃ Bs, Owns wr w.heap.size 5 .u8 Ab mb cb Bs ∧ d + i = n2 ∧ Bs ++ srest (us.drop i) = srest us ∧ Rd w2 .u64 A' d c' (us.drop i) ∧ Below w2.heap.size w2 wr))
    case atStart => exact ⟨0, n2, 0, A2, none, c2, 0, rfl, by omega, rfl, rfl, Lib.hid ⟨[], owns_nil _ _ _ _, rfl, by simp, by rw [List.drop_zero]; exact HR2.out, Below.refl _ _⟩⟩
    case round =>
      obtain ⟨i, d, mb, A', Ab, c', cb, rfl, hmb, hdg, rfl, hI⟩ := hrel
      subst hdg
      obtain ⟨wo, rfl⟩ : ∃ wo, wo = wr := ⟨_, rfl⟩
      obtain ⟨Bs, hob, hdi, hBs, hrd, hbl⟩ := hI.out
      by_cases hd0 : 0 < d
      · have hd : decide ((0 : Int) < (d : Int)) = true := by simp; omega
        have hml := HU.out.2.2.1
        obtain ⟨k, m, hk, hm, hk16, hm1, him, hst⟩ := sel_facts HU.out.1 (i := i) (by omega)
        have hu0 : ∀ u ∈ us.drop i, 0 ≤ u := fun u hu => (HU.out.2.1 u (List.mem_of_mem_drop hu)).1
        have hjo := HJ.out.keep _ _ (HB2.out.trans (hbl.mono HB2.out.size))
        have hsel := sel_any A' d c' (us.drop i) wo hjo (hrd.below hbl) (fun x hx => HU.out.2.1 x (List.mem_of_mem_drop hx))
        rw [hk, if_pos hk16, if_pos hk16, hm] at hsel
        have hfk : sfit k (us.drop i) = true := by rw [← hk]; exact sel_fit (by omega)
        have hws := fun (hb : sbits k ≠ 0) j v (hj : j < smany k) (hv : (us.drop i)[j]?.getD 0 = ((v : Nat) : Int)) => wsofar_step hk16 hb hfk hu0 hj hv
        have hwn := fun (hb : sbits k = 0) j => wsofar_none hb (us.drop i) j
        have hwe := wsofar_end k (us.drop i)
        have hwz := wsofar_zero k (us.drop i)
        have hwl := wsofar_lt hk16 hfk hu0
        have hbit := fun w (hj : Shp w) => hj.bits hk16
        have hq := shp_ok k hk16
        rw [hm] at hws hwe hq
        obtain ⟨b, hb⟩ : ∃ b, sbits k = b := ⟨_, rfl⟩
        rw [hb] at hws hwn hbit hq
        have hm240 := hq.2.1
        have hb60 := hq.2.2.1
        have HSEL := Lib.hid hsel
        have HWS := Lib.hid (And.intro hws (And.intro hwn (And.intro hwe (And.intro hwz hwl))))
        have HBT := Lib.hid hbit
        have HR := Lib.hid (And.intro hrd (And.intro hbl (And.intro hdi (And.intro hBs hst))))
        have HOB := Lib.hid hob
        have hmd : m ≤ d := by omega
        have hdl : (us.drop i).length = d := by rw [List.length_drop]; omega
        have HDL := Lib.hid hdl
        clear hdi hBs hrd hbl hk hm hst hsel him hI hml hob hu0 hjo hfk hws hwn hwe hwz hwl hbit hq hb hdl
        go_wp2_with fail
        refine HSEL.out.mono ?_
        rintro e w3 ⟨rfl, hb3⟩
        have HB3 := Lib.hid (HR.out.2.1.trans (hb3.mono HR.out.2.1.size))
        have HOB3 := Lib.hid (Owns.below HOB.out hb3)
        have hcb := HBT.out w3 (HJ.out.keep _ _ (HB2.out.trans (HB3.out.mono HB2.out.size)))
        clear hb3
        go_wp2_with (refine wpList_slice_h (o := ⟨some 36, _, _, _, _, _⟩) rfl rfl elemU64 HR.out.1 rfl (kh := .i64) (j := m) rfl hmd ?_; intro hrd4; have HRD4 := Lib.hid hrd4; clear hrd4)
        go_loopg [11, 38] m (fun gg v11 v38 wr => ∃ j W : Nat, v38 = .int .i64 j ∧ v11 = .int .u64 W ∧ j ≤ m ∧ gg = m - j ∧ w3 = wr ∧ (W : Int) ≤ 18446744073709551615 ∧ Hid (W = wsofar k (us.drop i) j))
        case atStart => exact ⟨0, k * 1152921504606846976, rfl, by go_num, by omega, by omega, rfl, by omega, Lib.hid (by rw [HWS.out.2.2.2.1])⟩
        case round =>
          obtain ⟨j, W, rfl, rfl, hjm, rfl, rfl, hW64, hW⟩ := hrel
          by_cases hlt : j < m
          · obtain ⟨b', o, rfl, hbl, hc⟩ := (HRD4.out.below HB3.out).get (by omega)
            have hcell := hc j hlt
            rw [List.getD_eq_getElem?_getD, List.getElem?_take_of_lt hlt] at hcell
            by_cases hb0 : b = 0
            · subst hb0
              have HW1 := Lib.hid (show W = wsofar k (us.drop i) (j + 1) by rw [HWS.out.2.1 rfl j]; exact hW.out)
              obtain ⟨x, hx⟩ : ∃ x, (us.drop i)[j]?.getD 0 = x := ⟨_, rfl⟩
              rw [hx] at hcell
              clear hc hx
              go_wp2
              go_roundg (m - (j + 1))
              case measure => omega
              case rel => exact ⟨j + 1, W, by go_num, rfl, by omega, rfl, rfl, hW64, HW1⟩
            · have hbd : decide ((0 : Int) < (b : Int)) = true := by simp; omega
              have hxu := HR.out.1.len
              have hx0 := (HU.out.2.1 ((us.drop i)[j]?.getD 0) (List.mem_of_mem_drop (by rw [List.getElem?_eq_getElem (by have := HDL.out; omega)]; exact List.getElem_mem _)))
              obtain ⟨x, hx⟩ := Int.eq_ofNat_of_zero_le hx0.1
              have hs := HWS.out.1 hb0 j x hlt hx
              rw [hx] at hcell
              have hmul : IntKind.i64.wrap ((j : Int) * (b : Int)) = ((b * j : Nat) : Int) := by
                rw [Int.mul_comm, ← Int.natCast_mul]; exact wrapi64_in _ (by omega) (by omega)
              have hw0 := hW.out
              rw [← hw0] at hs
              obtain ⟨W', hW'⟩ : ∃ W', wsofar k (us.drop i) (j + 1) = W' := ⟨_, rfl⟩
              rw [hW'] at hs
              obtain ⟨e, he⟩ : ∃ e, b * j = e := ⟨_, rfl⟩
              rw [he] at hs hmul
              obtain ⟨y, hy⟩ : ∃ y, x * 2 ^ e = y := ⟨_, rfl⟩
              rw [hy] at hs
              obtain ⟨hs1, hs2, hs3, hs4⟩ := hs
              have hwr : IntKind.u64.wrap ((x : Int) * 2 ^ e) = (y : Int) := by
                have e1 : ((x : Int) * 2 ^ e) = (y : Int) := by rw [← hy]; simp
                rw [e1]; exact wrapu64_in _ (by omega) (by omega)
              have HW1 := Lib.hid hW'.symm
              have hw1l : (W' : Int) ≤ 18446744073709551615 := by
                have h5 := hs4
                rw [bits_u64 _ _ _ (by omega) (by omega)] at h5
                have h6 : W ||| y < 2 ^ 64 := Nat.or_lt_two_pow (by omega) (by omega)
                have h8 : ((W ||| y : Nat) : Int) = (W' : Int) := h5
                have h7 : W ||| y = W' := by exact_mod_cast h8
                omega
              clear hc hx0 hx hw0 hW' he hs1 hy
              go_wp2
              go_roundg (m - (j + 1))
              case measure => omega
              case rel => exact ⟨j + 1, W', by go_num, by first | rfl | rw [hwr, hs4], by omega, rfl, rfl, hw1l, HW1⟩
          · obtain rfl : j = m := by omega
            have hWe := hW.out
            rw [HWS.out.2.2.1] at hWe
            have HST := Lib.hid hWe
            clear hWe
            go_wp2_with fail
            refine (Put64_any _ _ _ _ _ _ (Rd.own HOB3.out) (by omega) hW64).mono ?_
            rintro e w4 ⟨A4, n4, c4, rfl, ho4, hb4⟩
            have HO4 := Lib.hid (owns_weak ho4 (HB2.out.trans (HB3.out.mono HB2.out.size)).size)
            have HB4 := Lib.hid (HB3.out.trans (hb4.mono HB3.out.size))
            have hn4 : n4 ≤ 10000 := by
              have h1 := row_len ho4
              have h2 := congrArg List.length HR.out.2.2.2.1
              have h3 := congrArg List.length HR.out.2.2.2.2
              have h4 := HU.out.2.2.2
              rw [List.length_append, leb_len] at h1 h3
              rw [List.length_append] at h2
              omega
            clear ho4 hb4
            go_wp2_with (refine wpList_slice_l (o := ⟨some 64, _, _, _, _, _⟩) rfl rfl elemU64 HR.out.1 rfl (kl := .i64) (l := j) rfl hmd ?_; intro A5 c5 hrd5; rw [List.drop_drop] at hrd5; have HRD5 := Lib.hid hrd5; clear hrd5)
            go_roundg (d - j)
            case measure => omega
            case rel =>
              refine ⟨i + j, d - j, n4, A5, A4, c5, c4, rfl, hn4, rfl, rfl, Lib.hid ⟨_, HO4.out, by have := HR.out.2.2.1; omega, ?_, HRD5.out, HB4.out⟩⟩
              rw [List.append_assoc, HST.out, ← HR.out.2.2.2.1, HR.out.2.2.2.2]
      · obtain rfl : d = 0 := by omega
        rw [List.drop_of_length_le (by have := HU.out.2.2.1; omega), srest_nil, List.append_nil] at hBs
        subst hBs
        have HO := Lib.hid (And.intro hob (HB2.out.trans (hbl.mono HB2.out.size)))
        clear hdi hrd hbl hob hI
        go_wp2
        go_ret2
        exact ⟨Ab, mb, cb, by rw [HQ.out.2]; rfl, by rw [HQ.out.1, if_pos rfl, HF.out]; exact HO.out.1, HO.out.2⟩
theorem simE : EncerJ Shp 24 17 stk sform :=
  ⟨ms_encode, enters_f Tryd.func17 (by kernel_rfl) rfl, sEncode_any⟩
end Go.Proofs.YtaohdbagcfgoeaaDoor

namespace Go.Cor
open Go
theorem srest_eg : srest [1, 1] = [1, 0, 0, 64, 0, 0, 0, 224] := by
  have h : sel [1, 1] = 14 := by decide +kernel
  rw [srest_step (by decide) (by rw [h]; decide), h, show smany 14 = 2 by decide, show ([1, 1] : List Int).drop 2 = [] by rfl, srest_nil, List.append_nil]
  decide +kernel
theorem sform_eg : sform [-1, -1] = [1, 0, 0, 64, 0, 0, 0, 224] := by
  have h : stk [-1, -1] = true := by decide +kernel
  unfold sform
  rw [if_pos h, show ([-1, -1] : List Int).map zig = [1, 1] by decide +kernel, srest_eg]
end Go.Cor
namespace Go.Proofs.YtaohdbagcfgoeaaDoor
open Go.RowKit Go.Cor Go.Free

theorem sName_any (w : World) : Calls Tryd.prog 13 #[.agg #[]] w fun e w' => e = .returned (.string ⟨#[115, 105, 109, 112, 108, 101]⟩) ∧ Below w.heap.size w w' := by
  go_enter Tryd.func13, Tryd.ntmps13
  go_wp2
  go_ret
  exact ⟨rfl, (Below.refl _ _).alloc (Nat.le_refl _) _⟩

set_option maxRecDepth 100000 in
set_option maxHeartbeats 2000000 in
theorem awake09 (w : World) (hj : Shp w) : Calls Tryd.prog 10 #[] w fun e w' => e = .returned (.bool true) ∧ Below w.heap.size w w' := by
  have he := simE.c _ (shpKeep _ (w.alloc (.cells #[.int .i64 (-1), .int .i64 (-1)] 2)) hj ((Below.refl _ _).alloc (Nat.le_refl _) _)) _ 2 2 [-1, -1] (Rd.lit w 2 .i64 [-1, -1]) (by intro x hx; simp at hx; subst hx; exact ⟨by decide, by decide⟩) (by decide)
  unfold EncG at he
  rw [show wrg stk [-1, -1] = 0 by decide +kernel, show tak stk [-1, -1] = true by decide +kernel, if_pos rfl, sform_eg] at he
  have HE := Lib.hid he
  clear he
  go_enter Tryd.func10, Tryd.ntmps10
  go_wp2_with fail
  refine HE.out.mono ?_
  rintro e w1 ⟨A1, m1, c1, rfl, hown, hb1⟩
  have HO1 := Lib.hid (Rd.own hown)
  have HB1 := Lib.hid (((Below.refl w.heap.size w).alloc (Nat.le_refl _) _).trans (hb1.mono (by simp)))
  clear hown hb1
  have hv1 := conv_bytes HO1.out 30 5 9 Tryd.underlying30 Tryd.underlying5 Tryd.underlying9
  have hv2 := conv_bytes (Rd.lit w1 5 .u8 [1, 0, 0, 64, 0, 0, 0, 224]) 30 5 9 Tryd.underlying30 Tryd.underlying5 Tryd.underlying9
  rw [show strOfNums [1, 0, 0, 64, 0, 0, 0, 224] = ⟨#[1, 0, 0, 64, 0, 0, 0, 224]⟩ by decide +kernel] at hv1 hv2
  simp only [List.map_cons, List.map_nil, List.length_cons, List.length_nil] at hv2
  go_wp2
  go_ret
  exact ⟨rfl, HB1.out.alloc HB1.out.size _⟩
end Go.Proofs.YtaohdbagcfgoeaaDoor

namespace Go.Proofs.YtaohdbagcfgoeaaDoor
open Go.RowKit Go.Cor Go.Free

set_option maxRecDepth 100000 in
set_option maxHeartbeats 1000000 in
theorem refSTakes_any (A : Option Addr) (n c : Nat) (xs : List Int) (w : World) (h : Rd w .i64 A n c xs) (hi : In .i64 xs) (hn : n ≤ 2000) :
    Calls Tryd.prog 9 #[.slice A n c] w fun e w' => e = .returned (.bool (stk xs)) ∧ w = w' := by
  have hl := h.len
  obtain ⟨F, hF⟩ : ∃ F, stk xs = F := ⟨_, rfl⟩
  have HF := Lib.hid hF
  rw [hF]
  have H := Lib.hid h
  have HI := Lib.hid (And.intro hi hl)
  clear h hi hl hF
  go_enter Tryd.func9, Tryd.ntmps9
  go_wp2
  go_loopg [3] n (fun g v3 wr => ∃ i : Nat, v3 = .int .i64 i ∧ i ≤ n ∧ g = n - i ∧ w = wr ∧ Hid (∀ t, t < i → zig (xs[t]?.getD 0) < 1152921504606846976))
  case atStart => exact ⟨0, rfl, by omega, by omega, rfl, Lib.hid (fun t ht => by omega)⟩
  case round =>
    obtain ⟨i, rfl, hi, rfl, rfl, hI⟩ := hrel
    by_cases hlt : i < n
    · obtain ⟨b', o, rfl, hbl, hc⟩ := H.out.get (by omega)
      have hcell := hc i hlt
      rw [List.getD_eq_getElem?_getD] at hcell
      have hx := HI.out.1 (xs[i]?.getD 0) (by rw [List.getElem?_eq_getElem (by have := HI.out.2; omega)]; exact List.getElem_mem _)
      obtain ⟨x, hxe⟩ : ∃ x, xs[i]?.getD 0 = x := ⟨_, rfl⟩
      rw [hxe] at hcell hx
      have hzz := zig_nonneg x
      have hzm := zig_max x hx.1 hx.2
      have hzg := fun w => refZig_any x w hx.1 hx.2
      obtain ⟨z, hz⟩ := Int.eq_ofNat_of_zero_le hzz
      rw [hz] at hzm hzg
      have HZ := Lib.hid hzg
      have HX := Lib.hid (And.intro hxe hz)
      obtain ⟨hx0, hx1⟩ := hx
      clear hc hxe hzz hzg hz
      by_cases hbig : z < 1152921504606846976
      · have hd : decide ((1152921504606846976 : Int) ≤ (z : Int)) = false := by simp; omega
        go_wp2_with fail
        refine (HZ.out _).mono ?_
        rintro e w2 ⟨rfl, rfl⟩
        go_wp2_with fail
        go_roundg (n - (i + 1))
        case measure => omega
        case rel =>
          refine ⟨i + 1, by go_num, by omega, rfl, rfl, Lib.hid (fun t ht => ?_)⟩
          by_cases hti : t < i
          · exact hI.out t hti
          · obtain rfl : t = i := by omega
            rw [HX.out.1, HX.out.2]; omega
      · have hd : decide ((1152921504606846976 : Int) ≤ (z : Int)) = true := by simp; omega
        obtain rfl : F = false := by rw [← HF.out, stk_false (i := i) (by have := HI.out.2; omega) (by rw [HX.out.1, HX.out.2]; omega)]
        go_wp2_with fail
        refine (HZ.out _).mono ?_
        rintro e w2 ⟨rfl, rfl⟩
        go_wp2
        go_ret
        exact ⟨rfl, rfl⟩
    · obtain rfl : i = n := by omega
      obtain rfl : F = true := by rw [← HF.out]; exact stk_true (fun t ht => hI.out t (by have := HI.out.2; omega))
      go_wp2
      go_ret
      exact ⟨rfl, rfl⟩
end Go.Proofs.YtaohdbagcfgoeaaDoor

namespace Go.Proofs.YtaohdbagcfgoeaaDoor
open Go.RowKit Go.Cor Go.Free

theorem sixteen {k : Nat} (h : k < 16) : k = 0 ∨ k = 1 ∨ k = 2 ∨ k = 3 ∨ k = 4 ∨ k = 5 ∨ k = 6 ∨ k = 7 ∨ k = 8 ∨ k = 9 ∨ k = 10 ∨ k = 11 ∨ k = 12 ∨ k = 13 ∨ k = 14 ∨ k = 15 := by omega
set_option maxRecDepth 100000 in
set_option maxHeartbeats 2000000 in
theorem sMany_any (k : Nat) (hk : k < 16) (w : World) : Calls Tryd.prog 26 #[.int .i64 k] w fun e w' => e = .returned (.int .i64 (smany k)) ∧ Below w.heap.size w w' := by
  rcases sixteen hk with rfl | rfl | rfl | rfl | rfl | rfl | rfl | rfl | rfl | rfl | rfl | rfl | rfl | rfl | rfl | rfl <;>
  · clear hk
    go_enter Tryd.func26, Tryd.ntmps26
    go_wp2
    go_ret
    exact ⟨rfl, (Below.refl _ _).alloc (Nat.le_refl _) _⟩
set_option maxRecDepth 100000 in
set_option maxHeartbeats 2000000 in
theorem sBits_any (k : Nat) (hk : k < 16) (w : World) : Calls Tryd.prog 28 #[.int .i64 k] w fun e w' => e = .returned (.int .i64 (sbits k)) ∧ Below w.heap.size w w' := by
  rcases sixteen hk with rfl | rfl | rfl | rfl | rfl | rfl | rfl | rfl | rfl | rfl | rfl | rfl | rfl | rfl | rfl | rfl <;>
  · clear hk
    go_enter Tryd.func28, Tryd.ntmps28
    go_wp2
    go_ret
    exact ⟨rfl, (Below.refl _ _).alloc (Nat.le_refl _) _⟩
end Go.Proofs.YtaohdbagcfgoeaaDoor

namespace Go.Proofs.YtaohdbagcfgoeaaDoor
open Go.RowKit Go.Cor Go.Free

set_option maxRecDepth 100000 in
set_option maxHeartbeats 4000000 in
theorem rfits_any (k : Nat) (hk : k < 16) (A : Option Addr) (n c : Nat) (xs : List Int) (at_ : Nat) (hat : at_ ≤ n) (w : World) (h : Rd w .i64 A n c xs) (hi : In .i64 xs) (hn : n ≤ 2000) :
    Calls Tryd.prog 25 #[.slice A n c, .int .i64 at_, .int .i64 k] w fun e w' => e = .returned (.bool (sfit k ((xs.map zig).drop at_))) ∧ Below w.heap.size w w' := by
  have hl := h.len
  have hq := shp_ok k hk
  have hma := fun w => sMany_any k hk w
  have hbi := fun w => sBits_any k hk w
  obtain ⟨m, hm⟩ : ∃ m, smany k = m := ⟨_, rfl⟩
  obtain ⟨b, hb⟩ : ∃ b, sbits k = b := ⟨_, rfl⟩
  have hF : sfit k ((xs.map zig).drop at_) = decide (m ≤ n - at_ ∧ ∀ v ∈ ((xs.map zig).drop at_).take m, if b = 0 then v = 1 else v.toNat < 2 ^ b) := by unfold sfit; rw [hm, hb, List.length_drop, List.length_map, hl]
  rw [hm] at hma hq
  rw [hb] at hbi hq
  obtain ⟨F, hFe⟩ : ∃ F, sfit k ((xs.map zig).drop at_) = F := ⟨_, rfl⟩
  rw [hFe] at hF ⊢
  obtain ⟨hq1, hq2, hq3, _⟩ := hq
  have HF := Lib.hid hF
  have H := Lib.hid h
  have HU := Lib.hid (And.intro hi hl)
  have HMA := Lib.hid hma
  have HBI := Lib.hid hbi
  clear h hi hl hm hb hF hFe hma hbi
  by_cases hmn : n < at_ + m
  · have hd : decide ((n : Int) < (at_ : Int) + (m : Int)) = true := by simp; omega
    obtain rfl : F = false := by rw [HF.out]; simp; omega
    go_enter Tryd.func25, Tryd.ntmps25
    go_wp2_with fail
    refine (HMA.out _).mono ?_
    rintro e w1 ⟨rfl, hb1⟩
    go_wp2
    go_ret
    exact ⟨rfl, hb1⟩
  · have hd : decide ((n : Int) < (at_ : Int) + (m : Int)) = false := by simp; omega
    go_enter Tryd.func25, Tryd.ntmps25
    go_wp2_with fail
    refine (HMA.out _).mono ?_
    rintro e w1 ⟨rfl, hb1⟩
    have HB1 := Lib.hid hb1
    clear hb1
    go_wp2_with fail
    go_loopg [7] m (fun gg v7 wr => ∃ i : Nat, v7 = .int .i64 i ∧ at_ ≤ i ∧ i ≤ at_ + m ∧ gg = at_ + m - i ∧ Hid (Below w.heap.size w wr ∧ ∀ t, at_ ≤ t → t < i → if b = 0 then zig (xs[t]?.getD 0) = 1 else (zig (xs[t]?.getD 0)).toNat < 2 ^ b))
    case atStart => exact ⟨at_, rfl, by omega, by omega, by omega, Lib.hid ⟨HB1.out, fun t h1 h2 => by omega⟩⟩
    case round =>
      obtain ⟨i, rfl, hi1, hi2, rfl, hI⟩ := hrel
      obtain ⟨wo, rfl⟩ : ∃ wo, wo = wr := ⟨_, rfl⟩
      by_cases hlt : i < at_ + m
      · have hd2 : decide ((i : Int) < (at_ : Int) + (m : Int)) = true := by simp; omega
        go_wp2_with fail
        refine (HMA.out _).mono ?_
        rintro e w2 ⟨rfl, hb2⟩
        have HB2 := Lib.hid (hI.out.1.trans (hb2.mono hI.out.1.size))
        clear hb2
        obtain ⟨b', o, rfl, hbl, hc⟩ := (H.out.below HB2.out).get (by omega)
        have hcell := hc i (by omega)
        rw [List.getD_eq_getElem?_getD] at hcell
        have hin : i < xs.length := by have := HU.out.2; omega
        have hxu := HU.out.1 (xs[i]?.getD 0) (by rw [List.getElem?_eq_getElem hin]; exact List.getElem_mem _)
        have hmem : zig (xs[i]?.getD 0) ∈ ((xs.map zig).drop at_).take m := by
          rw [List.getElem?_eq_getElem hin]
          refine List.mem_take_iff_getElem.2 ⟨i - at_, by rw [List.length_drop, List.length_map]; omega, ?_⟩
          simp [show at_ + (i - at_) = i by omega]
        obtain ⟨x, hx⟩ : ∃ x, xs[i]?.getD 0 = x := ⟨_, rfl⟩
        rw [hx] at hcell hxu hmem
        have hzg := fun w => refZig_any x w hxu.1 hxu.2
        have hzm := zig_max x hxu.1 hxu.2
        obtain ⟨z, hz⟩ := Int.eq_ofNat_of_zero_le (zig_nonneg x)
        rw [hz] at hmem hzg hzm
        have HZG := Lib.hid hzg
        have HX := Lib.hid (And.intro hx hz)
        have HMEM := Lib.hid hmem
        have hall : ∀ w', Below w.heap.size w w' → (if b = 0 then (z : Int) = 1 else z < 2 ^ b) → Hid (Below w.heap.size w w' ∧ ∀ t, at_ ≤ t → t < i + 1 → if b = 0 then zig (xs[t]?.getD 0) = 1 else (zig (xs[t]?.getD 0)).toNat < 2 ^ b) := fun w' hbw hok => Lib.hid ⟨hbw, fun t h1 h2 => by
          by_cases hti : t < i
          · exact hI.out.2 t h1 hti
          · obtain rfl : t = i := by omega
            rw [hx, hz]
            by_cases hb0 : b = 0
            · rw [if_pos hb0] at hok ⊢; exact hok
            · rw [if_neg hb0] at hok ⊢; simpa using hok⟩
        have HALL := Lib.hid hall
        have hfit := fun w => refFits_any z b (by omega) hzm w
        have HFIT := Lib.hid hfit
        clear hc hxu hx hzg hz hmem hall hfit
        go_wp2_with fail
        refine (HZG.out _).mono ?_
        rintro e w3 ⟨rfl, rfl⟩
        by_cases hb0 : b = 0
        · subst hb0
          by_cases hz1 : z = 1
          · subst hz1
            go_wp2_with fail
            refine (HBI.out _).mono ?_
            rintro e w4 ⟨rfl, hb4⟩
            have HB4 := Lib.hid (HB2.out.trans (hb4.mono HB2.out.size))
            clear hb4
            go_wp2_with fail
            refine (HBI.out _).mono ?_
            rintro e w5 ⟨rfl, hb5⟩
            have HB5 := Lib.hid (HB4.out.trans (hb5.mono HB4.out.size))
            clear hb5
            go_wp2_with fail
            go_roundg (at_ + m - (i + 1))
            case measure => omega
            case rel => exact ⟨i + 1, by go_num, by omega, by omega, rfl, HALL.out _ HB5.out (by simp)⟩
          · have hne : ((z : Int) != 1) = true := by simp; omega
            obtain rfl : F = false := by
              rw [HF.out, decide_eq_false_iff_not]
              rintro ⟨_, h2⟩
              have h3 := h2 _ HMEM.out
              rw [if_pos rfl] at h3
              omega
            go_wp2_with fail
            refine (HBI.out _).mono ?_
            rintro e w4 ⟨rfl, hb4⟩
            have HB4 := Lib.hid (HB2.out.trans (hb4.mono HB2.out.size))
            clear hb4
            go_wp2
            go_ret
            exact ⟨rfl, HB4.out⟩
        · have hbe : ((b : Int) == 0) = false := by simp [hb0]
          have hbd : decide ((0 : Int) < (b : Int)) = true := by simp; omega
          obtain ⟨q, hq⟩ : ∃ q, decide (z < 2 ^ b) = q := ⟨_, rfl⟩
          have HFI2 := Lib.hid (fun w => by have := HFIT.out w; rw [hq] at this; exact this)
          have HQ := Lib.hid hq
          clear hq
          go_wp2_with fail
          refine (HBI.out _).mono ?_
          rintro e w4 ⟨rfl, hb4⟩
          have HB4 := Lib.hid (HB2.out.trans (hb4.mono HB2.out.size))
          clear hb4
          go_wp2_with fail
          refine (HBI.out _).mono ?_
          rintro e w5 ⟨rfl, hb5⟩
          have HB5 := Lib.hid (HB4.out.trans (hb5.mono HB4.out.size))
          clear hb5
          go_wp2_with fail
          refine (HBI.out _).mono ?_
          rintro e w6 ⟨rfl, hb6⟩
          have HB6 := Lib.hid (HB5.out.trans (hb6.mono HB5.out.size))
          clear hb6
          go_wp2_with fail
          refine (HFI2.out _).mono ?_
          rintro e w7 ⟨rfl, rfl⟩
          cases q with
          | true =>
            go_wp2_with fail
            go_roundg (at_ + m - (i + 1))
            case measure => omega
            case rel => exact ⟨i + 1, by go_num, by omega, by omega, rfl, HALL.out _ HB6.out (by rw [if_neg hb0]; exact of_decide_eq_true HQ.out)⟩
          | false =>
            obtain rfl : F = false := by
              rw [HF.out, decide_eq_false_iff_not]
              rintro ⟨_, h2⟩
              have h3 := h2 _ HMEM.out
              rw [if_neg hb0, Int.toNat_natCast] at h3
              exact of_decide_eq_false HQ.out h3
            go_wp2
            go_ret
            exact ⟨rfl, HB6.out⟩
      · obtain rfl : i = at_ + m := by omega
        obtain rfl : F = true := by
          rw [HF.out, decide_eq_true_iff]
          refine ⟨by omega, fun v hv => ?_⟩
          obtain ⟨t, ht, rfl⟩ := List.mem_take_iff_getElem.1 hv
          rw [List.length_drop, List.length_map, HU.out.2] at ht
          have h2 := hI.out.2 (at_ + t) (by omega) (by omega)
          rw [List.getElem?_eq_getElem (by rw [HU.out.2]; omega)] at h2
          simpa using h2
        have hd2 : decide (((at_ + m : Nat) : Int) < (at_ : Int) + (m : Int)) = false := by simp
        go_wp2_with fail
        refine (HMA.out _).mono ?_
        rintro e w2 ⟨rfl, hb2⟩
        have HB2 := Lib.hid (hI.out.1.trans (hb2.mono hI.out.1.size))
        clear hb2
        go_wp2
        go_ret
        exact ⟨rfl, HB2.out⟩
end Go.Proofs.YtaohdbagcfgoeaaDoor

namespace Go.Cor
open Go Go.RowKit
theorem nbs_false (t : Nat) : nbs (List.replicate t false) = 0 := by
  induction t with
  | zero => rfl
  | succ t ih => rw [List.replicate_succ, nbs, ih]; rfl
/-- a word, bit by bit -/
theorem word_bits {k : Nat} (hk : k < 16) {l : List Int} (h : sfit k l = true) (h0 : ∀ u ∈ l, 0 ≤ u) :
    nbs (bitl (sbits k) (l.take (smany k)) ++ List.replicate (60 - sbits k * smany k) false ++ bitsOf k 4) = swd k l := by
  have hq := shp_ok k hk
  have hml := (fit_of h).1
  have hlen : (bitl (sbits k) (l.take (smany k))).length = sbits k * smany k := by rw [bitl_len, List.length_take, Nat.min_eq_left hml]
  have hl2 : (bitl (sbits k) (l.take (smany k)) ++ List.replicate (60 - sbits k * smany k) false).length = 60 := by rw [List.length_append, hlen, List.length_replicate]; omega
  rw [nbs_app, hl2, nbs_app, nbs_false, nbs_bits, Nat.mod_eq_of_lt (by omega)]
  unfold swd
  by_cases hb : sbits k = 0
  · rw [if_pos hb]
    have : bitl (sbits k) (l.take (smany k)) = [] := List.eq_nil_of_length_eq_zero (by rw [hlen, hb]; omega)
    rw [this]
    simp [nbs, Nat.mul_comm]
  · rw [if_neg hb, nbs_bitl (fit_take h h0 hb)]
    rw [Nat.mul_zero, Nat.add_zero, Nat.mul_comm, Nat.add_comm]
end Go.Cor
namespace Go.Proofs.YtaohdbagcfgoeaaDoor
open Go.RowKit Go.Cor Go.Free

set_option maxRecDepth 100000 in
set_option maxHeartbeats 8000000 in
theorem refSEncode_any (A : Option Addr) (n c : Nat) (xs : List Int) (w : World) (h : Rd w .i64 A n c xs) (hi : In .i64 xs) (hn : n ≤ 1100) :
    Calls Tryd.prog 12 #[.slice A n c] w (RetRow w.heap.size 5 .u8 w (sform xs)) := by
  have hl := h.len
  have ht := fun w h => refSTakes_any A n c xs w h hi (by omega)
  obtain ⟨q, hq⟩ : ∃ q, stk xs = q := ⟨_, rfl⟩
  rw [hq] at ht
  have HT := Lib.hid ht
  have H := Lib.hid h
  cases q with
  | false =>
    have HF := Lib.hid (show sform xs = [] by unfold sform; rw [hq]; rfl)
    clear h hi hl ht hq
    go_enter Tryd.func12, Tryd.ntmps12
    go_wp2_with fail
    refine (HT.out _ H.out).mono ?_
    rintro e w1 ⟨rfl, rfl⟩
    go_wp2
    go_ret
    exact ⟨none, 0, 0, rfl, by rw [HF.out]; exact owns_nil _ _ _ _, Below.refl _ _⟩
  | true =>
    have hf := stk_fit hq
    have hul : (xs.map zig).length = n := by simp [hl]
    have HFT := Lib.hid (fun k hk a ha w h => rfits_any k hk A n c xs a ha w h hi (by omega))
    have hF : sform xs = srest (xs.map zig) := by unfold sform; rw [if_pos hq]
    have hTn := (srest_len _ (xs.map zig) hul).1
    have hzi : ∀ i x, xs[i]?.getD 0 = x → i < n → ∃ z : Nat, zig x = z ∧ (z : Int) ≤ 18446744073709551615 ∧ ((xs.map zig)[i]?.getD 0) = z ∧ ∀ w, Calls Tryd.prog 22 #[.int .i64 x] w fun e w' => e = .returned (.int .u64 z) ∧ w = w' := by
      rintro i x rfl hin
      have hx := hi (xs[i]?.getD 0) (by rw [List.getElem?_eq_getElem (by omega)]; exact List.getElem_mem _)
      obtain ⟨z, hz⟩ := Int.eq_ofNat_of_zero_le (zig_nonneg (xs[i]?.getD 0))
      have h1 := zig_max _ hx.1 hx.2
      have h2 := fun w => refZig_any _ w hx.1 hx.2
      rw [hz] at h1 h2
      exact ⟨z, hz, h1, by rw [← hz, List.getElem?_map, List.getElem?_eq_getElem (by omega)]; rfl, h2⟩
    obtain ⟨us, hus⟩ : ∃ us, xs.map zig = us := ⟨_, rfl⟩
    rw [hus] at hf hul HFT hF hTn hzi
    have HU := Lib.hid (And.intro hf (And.intro hul hTn))
    have HF := Lib.hid hF
    have HZI := Lib.hid hzi
    have HXL := Lib.hid hl
    clear h hi hl ht hq hf hul hF hTn hzi hus
    go_enter Tryd.func12, Tryd.ntmps12
    go_wp2_with fail
    refine (HT.out _ H.out).mono ?_
    rintro e w1 ⟨rfl, rfl⟩
    go_wp2_with fail
    go_loopg [3, 4] n (fun gg v3 v4 wr => ∃ (at_ mb : Nat) (Ab : Option Addr) (cb : Nat), v3 = .slice Ab mb cb ∧ mb ≤ 10000 ∧ v4 = .int .i64 at_ ∧ at_ ≤ n ∧ gg = n - at_ ∧ Hid (∃ Bs, Owns wr w.heap.size 5 .u8 Ab mb cb Bs ∧ Bs ++ srest (us.drop at_) = srest us ∧ Below w.heap.size w wr))
    case atStart => exact ⟨0, 0, none, 0, rfl, by omega, rfl, by omega, by omega, Lib.hid ⟨[], owns_nil _ _ _ _, by simp, Below.refl _ _⟩⟩
    case round =>
      obtain ⟨at_, mb, Ab, cb, rfl, hmb, rfl, hat, rfl, hI⟩ := hrel
      obtain ⟨wo, rfl⟩ : ∃ wo, wo = wr := ⟨_, rfl⟩
      obtain ⟨Bs, hob, hBs, hbl⟩ := hI.out
      by_cases hlt : at_ < n
      · obtain ⟨k, m, hk, hm, hk16, hm1, him, hst⟩ := sel_facts HU.out.1 (i := at_) (by have := HU.out.2.1; omega)
        rw [HU.out.2.1] at him
        have hu0 : ∀ u ∈ us.drop at_, 0 ≤ u := fun u hu => (HU.out.1 u (List.mem_of_mem_drop hu)).1
        have hyes : sfit k (us.drop at_) = true := by rw [← hk]; exact sel_fit (by omega)
        have hno : ∀ j, j < k → sfit j (us.drop at_) = false := fun j hj => sel_not (by omega)
        have hwb := word_bits hk16 hyes hu0
        have hq := shp_ok k hk16
        have hMA := fun w => sMany_any k hk16 w
        have hBI := fun w => sBits_any k hk16 w
        rw [hm] at hwb hq hMA
        obtain ⟨b, hb⟩ : ∃ b, sbits k = b := ⟨_, rfl⟩
        rw [hb] at hwb hq hBI
        have hsn := fun j (hj : j < m) => bitl_snoc b (l := us.drop at_) (i := j) (by rw [List.length_drop, HU.out.2.1]; omega)
        obtain ⟨l, hle⟩ : ∃ l, us.drop at_ = l := ⟨_, rfl⟩
        have hget : ∀ j, l[j]?.getD 0 = us[at_ + j]?.getD 0 := fun j => by rw [← hle, List.getElem?_drop]
        rw [hle] at hwb hsn hno hyes hst hBs
        obtain ⟨hq1, hq2, hq3, hq4⟩ := hq
        have HNO := Lib.hid (And.intro hno hyes)
        have HWB := Lib.hid hwb
        have HMA := Lib.hid hMA
        have HBI := Lib.hid hBI
        have HSN := Lib.hid hsn
        have HLE := Lib.hid hle
        have HGET := Lib.hid hget
        have HR := Lib.hid (And.intro hbl (And.intro hBs hst))
        have HOB := Lib.hid hob
        clear hob hBs hbl hk hm hst hu0 hyes hno hwb hMA hBI hb hsn hle hI hget
        go_wp2_with fail
        go_loopg [5] k (fun gg v5 wr => ∃ s : Nat, v5 = .int .i64 s ∧ s ≤ k ∧ gg = k - s ∧ Hid (Below wo.heap.size wo wr))
        case atStart => exact ⟨0, rfl, by omega, by omega, Lib.hid (Below.refl _ _)⟩
        case round =>
          obtain ⟨s, rfl, hs, rfl, hS⟩ := hrel
          have hfc := HFT.out s (by omega) at_ (by omega) wr (H.out.below (HR.out.1.trans (hS.out.mono HR.out.1.size)))
          rw [HLE.out] at hfc
          by_cases hsk : s < k
          · rw [HNO.out.1 s hsk] at hfc
            have HFC := Lib.hid hfc
            clear hfc
            go_wp2_with fail
            refine HFC.out.mono ?_
            rintro e w3 ⟨rfl, hb3⟩
            have HB3 := Lib.hid (hS.out.trans (hb3.mono hS.out.size))
            clear hb3
            go_wp2_with fail
            go_roundg (k - (s + 1))
            case measure => omega
            case rel => exact ⟨s + 1, by go_num, by omega, rfl, HB3⟩
          · obtain rfl : s = k := by omega
            rw [HNO.out.2] at hfc
            have HFC := Lib.hid hfc
            clear hfc
            go_wp2_with fail
            refine HFC.out.mono ?_
            rintro e w3 ⟨rfl, hb3⟩
            have HB3 := Lib.hid (hS.out.trans (hb3.mono hS.out.size))
            clear hb3
            go_wp2_with fail
            go_loopg [6, 7] m (fun gg v6 v7 wr => ∃ (i j L : Nat) (A6 : Option Addr) (c6 : Nat), v7 = .int .i64 i ∧ i = at_ + j ∧ j ≤ m ∧ gg = m - j ∧ v6 = .slice A6 L c6 ∧ L = b * j ∧ Hid (wr.ownsRow wo.heap.size 4 1 (.slice A6 L c6) L ((bitl b (l.take j)).map .bool) ∧ Below wo.heap.size wo wr))
            case atStart => exact ⟨at_, 0, 0, none, 0, rfl, rfl, by omega, by omega, rfl, by simp, Lib.hid ⟨⟨rfl, .inl ⟨rfl, rfl⟩⟩, HB3.out⟩⟩
            case round =>
              obtain ⟨i, j, L, A6, c6, rfl, hij, hjm, rfl, rfl, hL, hJ⟩ := hrel
              have hL60 : L ≤ 60 := by rw [hL]; exact Nat.le_trans (Nat.mul_le_mul_left _ hjm) hq4
              have HL := Lib.hid hL
              have HIJ := Lib.hid hij
              have hin : j < m → i < n := fun h => by omega
              have hd2 : decide ((i : Int) < (at_ : Int) + (m : Int)) = decide (j < m) := by rw [Bool.eq_iff_iff]; simp; omega
              clear hL hij
              go_wp2_with fail
              refine (HMA.out _).mono ?_
              rintro e w4 ⟨rfl, hb4⟩
              have HB4 := Lib.hid (hJ.out.2.trans (hb4.mono hJ.out.2.size))
              have HO4 := Lib.hid (owns_keep (S := fun _ _ => True) hJ.out.1 (.of_below hb4) fun _ _ _ => trivial)
              clear hb4
              by_cases hjl : j < m
              · rw [decide_eq_true hjl] at hd2
                have hin := hin hjl
                obtain ⟨b', o, rfl, hbl, hc⟩ := (H.out.below (HR.out.1.trans (HB4.out.mono HR.out.1.size))).get (by omega)
                have hcell := hc i hin
                rw [List.getD_eq_getElem?_getD] at hcell
                obtain ⟨x, hx⟩ : ∃ x, xs[i]?.getD 0 = x := ⟨_, rfl⟩
                rw [hx] at hcell
                obtain ⟨z, hz1, hz2, hz3, hz4⟩ := HZI.out i x hx hin
                have hsn := HSN.out j hjl
                rw [HGET.out, ← HIJ.out, hz3, Int.toNat_natCast] at hsn
                have HSN1 := Lib.hid hsn
                have HZ := Lib.hid hz4
                have HBT := Lib.hid (fun w => refBits_any z b (by omega) hz2 w)
                clear hc hx hz1 hz3 hz4 hsn
                go_wp2_with fail
                refine (HZ.out _).mono ?_
                rintro e w5 ⟨rfl, rfl⟩
                go_wp2_with fail
                refine (HBI.out _).mono ?_
                rintro e w6 ⟨rfl, hb6⟩
                have HB6 := Lib.hid (HB4.out.trans (hb6.mono HB4.out.size))
                have HO6 := Lib.hid (owns_keep (S := fun _ _ => True) HO4.out (.of_below hb6) fun _ _ _ => trivial)
                clear hb6
                go_wp2_with fail
                refine (HBT.out _).mono ?_
                rintro e w7 ⟨A7, m7, c7, rfl, ho7, hb7⟩
                obtain rfl : m7 = b := by have := ho7.1; simp [bitsOf_len] at this; exact this.symm
                have HR7 := Lib.hid (RdV.own ho7)
                have HO7 := Lib.hid (owns_keep (S := fun _ _ => True) HO6.out (.of_below hb7) fun _ _ _ => trivial)
                have HB7 := Lib.hid (HB6.out.trans (hb7.mono HB6.out.size))
                clear ho7 hb7
                go_wp2_with (at_builtin; refine wpList_append_r rfl rfl elemBool HO7.out rfl HR7.out rfl (bool_one _) (by omega) (by omega) HB7.out.size ?_; intro A8 c8 w8 hown hg _)
                have HG := Lib.hid (below_grown HB7.out HO7.out hg HB7.out.size)
                have hown' := hown
                rw [← List.map_append, HSN1.out] at hown'
                have HO8 := Lib.hid hown'
                clear hown hown' hg
                go_roundg (m - (j + 1))
                case measure => omega
                case rel => exact ⟨i + 1, j + 1, L + m7, A8, c8, by go_num, by have := HIJ.out; omega, by omega, rfl, rfl, by rw [HL.out, Nat.mul_add, Nat.mul_one], Lib.hid ⟨HO8.out, HG.out⟩⟩
              · obtain rfl : j = m := by omega
                rw [decide_eq_false hjl] at hd2
                go_wp2_with fail
                go_loopg [6] (60 - b * j) (fun gg v6 wr => ∃ (L2 t : Nat) (A6 : Option Addr) (c6 : Nat), v6 = .slice A6 L2 c6 ∧ L2 = b * j + t ∧ L2 ≤ 60 ∧ gg = 60 - L2 ∧ Hid (wr.ownsRow wo.heap.size 4 1 (.slice A6 L2 c6) L2 ((bitl b (l.take j) ++ List.replicate t false).map .bool) ∧ Below wo.heap.size wo wr))
                case atStart => exact ⟨L, 0, A6, c6, rfl, by rw [HL.out]; rfl, hL60, by rw [HL.out], Lib.hid ⟨by simpa using HO4.out, HB4.out⟩⟩
                case round =>
                  obtain ⟨L2, t, A9, c9, rfl, hL2, hL26, rfl, hK⟩ := hrel
                  have HL2 := Lib.hid hL2
                  clear hL2
                  by_cases hl60 : L2 < 60
                  · go_wp2_with (at_builtin; refine wpList_append_r rfl rfl elemBool (hK.out.1.alloc _) rfl (RdV.one (Box.new _ _ _)) rfl bool_one1 (by omega) (by omega) (by have := hK.out.2.size; simp; omega) ?_; intro A8 c8 w8 hown hg _)
                    have HG := Lib.hid (below_grown (hK.out.2.alloc hK.out.2.size _) (hK.out.1.alloc _) hg (by have := hK.out.2.size; simp; omega))
                    have HO8 := Lib.hid hown
                    clear hown hg
                    go_roundg (60 - (L2 + 1))
                    case measure => omega
                    case rel => exact ⟨L2 + 1, t + 1, A8, c8, rfl, by rw [HL2.out]; rfl, by omega, rfl, Lib.hid ⟨by have := HO8.out; rw [List.replicate_succ', ← List.append_assoc, List.map_append]; exact this, HG.out⟩⟩
                  · obtain rfl : L2 = 60 := by omega
                    have ht := HL2.out
                    have hwb := HWB.out
                    rw [show 60 - b * j = t by omega] at hwb
                    have hk9 := hK.out.1
                    obtain ⟨WB, hWB⟩ : ∃ WB, bitl b (l.take j) ++ List.replicate t false = WB := ⟨_, rfl⟩
                    rw [hWB] at hwb hk9
                    have HWB2 := Lib.hid hwb
                    have HK9 := Lib.hid hk9
                    clear ht hwb hWB hk9
                    have HBT := Lib.hid (fun w => refBits_any s 4 (by omega) (by omega) w)
                    have hk64 : IntKind.u64.wrap (s : Int) = (s : Int) := wrapu64_in _ (by omega) (by omega)
                    have hmb8 : mb + 8 ≤ 10000 := by
                      have h1 := row_len HOB.out
                      have h2 := congrArg List.length HR.out.2.1
                      have h3 := congrArg List.length HR.out.2.2
                      have h4 := HU.out.2.2
                      rw [List.length_append, leb_len] at h3
                      rw [List.length_append] at h2
                      omega
                    have HBK := Lib.hid hK.out.2
                    clear hK
                    go_wp2_with fail
                    refine (HBT.out _).mono ?_
                    rintro e w5 ⟨A5, m5, c5, rfl, ho5, hb5⟩
                    obtain rfl : m5 = 4 := by have := ho5.1; simp [bitsOf_len] at this; exact this.symm
                    have HR5 := Lib.hid (RdV.own ho5)
                    have HO5 := Lib.hid (owns_keep (S := fun _ _ => True) HK9.out (.of_below hb5) fun _ _ _ => trivial)
                    have HB5 := Lib.hid (HBK.out.trans (hb5.mono HBK.out.size))
                    clear ho5 hb5
                    go_wp2_with (at_builtin; refine wpList_append_r rfl rfl elemBool HO5.out rfl HR5.out rfl (bool_one _) (by omega) (by omega) HB5.out.size ?_; intro A6 c6 w6 hown hg _; have HB6 := Lib.hid (below_grown HB5.out HO5.out hg HB5.out.size); have HO6 := Lib.hid hown; clear hown hg)
                    have ho6 := HO6.out
                    rw [← List.map_append] at ho6
                    refine (refBytes_any _ _ _ _ _ (RdV.own ho6) (by omega)).mono ?_
                    rintro e w7 ⟨A7, m7, c7, rfl, ho7, hb7⟩
                    rw [HWB2.out, show octets (60 + 4) = 8 by decide] at ho7
                    obtain rfl : m7 = 8 := by have := row_len ho7; rw [leb_len] at this; omega
                    have HR7 := Lib.hid (Rd.own ho7)
                    have HB7 := Lib.hid (HR.out.1.trans ((HB6.out.trans (hb7.mono HB6.out.size)).mono HR.out.1.size))
                    have HO7 := Lib.hid (Owns.below HOB.out (HB6.out.trans (hb7.mono HB6.out.size)))
                    clear ho6 ho7 hb7
                    go_wp2_with (at_builtin; refine wpList_append_r rfl rfl elemU8 HO7.out rfl (Rd.toV HR7.out) rfl ints_one (by omega) (by omega) HB7.out.size ?_; intro A8 c8 w8 hown hg _; have HB8 := Lib.hid (below_grown HB7.out HO7.out hg HB7.out.size); have HO8 := Lib.hid (owns_app hown); clear hown hg)
                    refine (HMA.out _).mono ?_
                    rintro e w9 ⟨rfl, hb9⟩
                    have HO9 := Lib.hid (Owns.below HO8.out hb9)
                    have HB9 := Lib.hid (HB8.out.trans (hb9.mono HB8.out.size))
                    clear hb9
                    go_wp2_with fail
                    go_roundg (n - (at_ + j))
                    case measure => omega
                    case rel =>
                      refine ⟨at_ + j, mb + 8, A8, c8, rfl, hmb8, by go_num, by omega, rfl, Lib.hid ⟨_, HO9.out, ?_, HB9.out⟩⟩
                      rw [List.append_assoc, ← HR.out.2.1, HR.out.2.2]
      · obtain rfl : at_ = n := by omega
        rw [List.drop_of_length_le (by have := HU.out.2.1; omega), srest_nil, List.append_nil] at hBs
        subst hBs
        have HO := Lib.hid (And.intro hob hbl)
        clear hbl hob hI
        go_wp2
        go_ret
        exact ⟨Ab, mb, cb, rfl, by rw [HF.out]; exact HO.out.1, HO.out.2⟩
end Go.Proofs.YtaohdbagcfgoeaaDoor
