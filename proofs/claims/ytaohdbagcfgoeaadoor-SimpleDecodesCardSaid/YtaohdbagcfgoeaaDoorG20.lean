/-
  Chapter 9: Encode.
  Chapter 9: Name; awake.
  Chapter 9: the reference's Many, Bits.
  Chapter 9: the reference's Decode.
-/
import Derived.Test.YtaohdbagcfgoeaaDoorG13
import Derived.Test.YtaohdbagcfgoeaaDoorG18
import Derived.Test.YtaohdbagcfgoeaaDoorG19
namespace Go.Cor
open Go Go.RowKit
/-- a word, so far -/
def wsofar (k : Nat) (l : List Int) (i : Nat) : Nat := k * 1152921504606846976 + if sbits k = 0 then 0 else pk (sbits k) (l.take i)
theorem wsofar_end (k : Nat) (l : List Int) : wsofar k l (smany k) = swd k l := by unfold wsofar swd; rw [two60]
theorem wsofar_zero (k : Nat) (l : List Int) : wsofar k l 0 = k * 1152921504606846976 := by unfold wsofar; split <;> simp [pk]
theorem wsofar_none {k : Nat} (h : sbits k = 0) (l : List Int) (i : Nat) : wsofar k l (i + 1) = wsofar k l i := by unfold wsofar; rw [if_pos h, if_pos h]
theorem wsofar_step {k : Nat} (hk : k < 16) (hb : sbits k ≠ 0) {l : List Int} (hf : sfit k l = true) (h0 : ∀ u ∈ l, 0 ≤ u) {i v : Nat} (hi : i < smany k) (hv : l[i]?.getD 0 = v) :
    v < 2 ^ sbits k ∧ sbits k * i + sbits k ≤ 60 ∧ v * 2 ^ (sbits k * i) < 18446744073709551616 ∧ bits .or .u64 ((wsofar k l i : Nat) : Int) ((v * 2 ^ (sbits k * i) : Nat) : Int) = ((wsofar k l (i + 1) : Nat) : Int) := by
  have hft := fit_take hf h0 hb
  have hml := (fit_of hf).1
  have hq := shp_ok k hk
  have hin : i < l.length := by omega
  have hmem : l[i]?.getD 0 ∈ l.take (smany k) := by
    rw [List.getElem?_eq_getElem hin]
    exact List.mem_take_iff_getElem.2 ⟨i, by omega, rfl⟩
  have hvb := (hft _ hmem).2
  rw [hv, Int.toNat_natCast] at hvb
  have h1 : sbits k * i + sbits k ≤ 60 := by
    have : sbits k * (i + 1) ≤ sbits k * smany k := Nat.mul_le_mul_left _ hi
    rw [Nat.mul_add, Nat.mul_one] at this; omega
  have hlt : pk (sbits k) (l.take i) < 2 ^ (sbits k * i) := by
    have h2 : Fitl (sbits k) (l.take i) := fun u hu => hft u (by
      obtain ⟨t, ht, rfl⟩ := List.mem_take_iff_getElem.1 hu
      exact List.mem_take_iff_getElem.2 ⟨t, by omega, rfl⟩)
    have h3 := pk_lt h2
    rwa [List.length_take, Nat.min_eq_left (by omega)] at h3
  have h4 : v * 2 ^ (sbits k * i) < 18446744073709551616 := by
    have h5 : (v + 1) * 2 ^ (sbits k * i) ≤ 2 ^ sbits k * 2 ^ (sbits k * i) := Nat.mul_le_mul_right _ hvb
    rw [← Nat.pow_add, Nat.add_mul] at h5
    have h6 : (2 : Nat) ^ (sbits k + sbits k * i) ≤ 2 ^ 60 := pow_mono2 (by omega)
    rw [two60] at h6
    have := pow_pos2 (sbits k * i)
    omega
  refine ⟨hvb, h1, h4, ?_⟩
  have h7 := word_or hk hlt hvb h1
  unfold wsofar
  rw [if_neg hb, if_neg hb, pk_take _ hin, hv, Int.toNat_natCast]
  exact h7
theorem wsofar_lt {k : Nat} (hk : k < 16) {l : List Int} (hf : sfit k l = true) (h0 : ∀ u ∈ l, 0 ≤ u) : swd k l < 18446744073709551616 := by
  have h1 := swd_lt hk hf h0
  have hq := shp_ok k hk
  have h2 : (2 : Nat) ^ (sbits k * smany k) ≤ 2 ^ 60 := pow_mono2 hq.2.2.2
  unfold swd
  rw [two60] at h2 ⊢
  omega
end Go.Cor
namespace Go.Proofs.YtaohdbagcfgoeaaDoor
open Go.RowKit Go.Cor Go.Free

set_option maxRecDepth 100000 in
set_option maxHeartbeats 4000000 in
theorem sEncode_any (w : World) (hj : Shp w) (A : Option Addr) (n c : Nat) (xs : List Int) (h : Rd w .i64 A n c xs) (hi : In .i64 xs) (hn : n ≤ 1100) :
    Calls Tryd.prog 17 #[.agg #[], .slice A n c] w (EncG w.heap.size w stk sform xs) := by
  have hl := h.len
  have hw := fun w hj h => wrongJ shpKeep simT A n c xs w hj h hi hn
  have hwk : tak stk xs = true → wrg stk xs = 0 := wrg_tak
  have hwn : tak stk xs = false → wrg stk xs ≠ 0 := wrg_not
  obtain ⟨q, hq⟩ : ∃ q, tak stk xs = q := ⟨_, rfl⟩
  obtain ⟨g, hg⟩ : ∃ g, wrg stk xs = g := ⟨_, rfl⟩
  rw [hq, hg] at hwk hwn
  rw [hg] at hw
  have HQ := Lib.hid (And.intro hq hg)
  have HW := Lib.hid hw
  have H := Lib.hid h
  have HJ := Lib.hid hj
  cases q with
  | false =>
    have hg0 := hwn rfl
    have hne : (g != 0) = true := by simp [hg0]
    clear hw hwk hwn hq hg h hi hj hl
    go_enter Tryd.func17, Tryd.ntmps17
    go_wp2_with fail
    refine (HW.out _ (HJ.out.keep _ _ ((Below.refl _ _).alloc (Nat.le_refl _) _)) (H.out.alloc _)).mono ?_
    rintro e w1 ⟨rfl, hb⟩
    go_wp2
    go_ret2
    exact ⟨none, 0, 0, by rw [HQ.out.2]; rfl, by rw [HQ.out.1]; exact owns_nil _ _ _ _, ((Below.refl _ _).alloc (Nat.le_refl _) _).trans (hb.mono (by simp))⟩
  | true =>
    have hg0 := hwk rfl
    subst hg0
    have hst : stk xs = true := by have := HQ.out.1; unfold tak at this; simp at this; exact this.2
    have hf := stk_fit hst
    have hzi := zigs_in xs hi
    have hul : (xs.map zig).length = n := by simp [hl]
    have HZ := Lib.hid (fun w h => szigs_any A n c xs w h hi (by omega))
    have hF : sform xs = srest (xs.map zig) := by unfold sform; rw [if_pos hst]
    have hTn := (srest_len _ (xs.map zig) hul).1
    obtain ⟨us, hus⟩ : ∃ us, xs.map zig = us := ⟨_, rfl⟩
    rw [hus] at hf hzi hul hF hTn HZ
    have HU := Lib.hid (And.intro hf (And.intro hzi (And.intro hul hTn)))
    have HF := Lib.hid hF
    clear hw hwk hwn hq hg h hi hj hl hst hf hzi hul hF hTn hus
    go_enter Tryd.func17, Tryd.ntmps17
    go_wp2_with fail
    refine (HW.out _ (HJ.out.keep _ _ ((Below.refl _ _).alloc (Nat.le_refl _) _)) (H.out.alloc _)).mono ?_
    rintro e w1 ⟨rfl, hb⟩
    have HB1 := Lib.hid (((Below.refl w.heap.size w).alloc (Nat.le_refl _) (.cells #[] 24)).trans (hb.mono (by simp)))
    clear hb
    go_wp2_with fail
    refine (HZ.out _ (H.out.below HB1.out)).mono ?_
    rintro e w2 ⟨A2, n2, c2, rfl, ho2, hb2⟩
    obtain rfl : n2 = n := by have h1 := row_len ho2; have := HU.out.2.2.1; omega
    have HB2 := Lib.hid (HB1.out.trans (hb2.mono HB1.out.size))
    have HR2 := Lib.hid (Rd.own ho2)
    clear ho2 hb2
    go_wp2_with fail
    go_loopg [7, 8] n2 (fun gg v7 v8 wr => ∃ (i d mb : Nat) (A' Ab : Option Addr) (c' cb : Nat), v7 = .slice Ab mb cb ∧ mb ≤ 10000 ∧ d = gg ∧ v8 = .slice A' d c' ∧ Hid (∃ Bs, Owns wr w.heap.size 5 .u8 Ab mb cb Bs ∧ d + i = n2 ∧ Bs ++ srest (us.drop i) = srest us ∧ Rd w2 .u64 A' d c' (us.drop i) ∧ Below w2.heap.size w2 wr))
    case atStart => exact ⟨0, n2, 0, A2, none, c2, 0, rfl, by omega, rfl, rfl, Lib.hid ⟨[], owns_nil _ _ _ _, rfl, by simp, by rw [List.drop_zero]; exact HR2.out, Below.refl _ _⟩⟩
    case round =>
      obtain ⟨i, d, mb, A', Ab, c', cb, rfl, hmb, hdg, rfl, hI⟩ := hrel
      subst hdg
      obtain ⟨wo, rfl⟩ : ∃ wo, wo = wr := ⟨_, rfl⟩
      obtain ⟨Bs, hob, hdi, hBs, hrd, hbl⟩ := hI.out
      by_cases hd0 : 0 < d
      · have hd : decide ((0 : Int) < (d : Int)) = true := by simp; omega
        have hml := HU.out.2.2.1
        obtain ⟨k, m, hk, hm, hk16, hm1, him, hst⟩ := sel_facts HU.out.1 (i := i) (by omega)
        have hu0 : ∀ u ∈ us.drop i, 0 ≤ u := fun u hu => (HU.out.2.1 u (List.mem_of_mem_drop hu)).1
        have hjo := HJ.out.keep _ _ (HB2.out.trans (hbl.mono HB2.out.size))
        have hsel := sel_any A' d c' (us.drop i) wo hjo (hrd.below hbl) (fun x hx => HU.out.2.1 x (List.mem_of_mem_drop hx))
        rw [hk, if_pos hk16, if_pos hk16, hm] at hsel
        have hfk : sfit k (us.drop i) = true := by rw [← hk]; exact sel_fit (by omega)
        have hws := fun (hb : sbits k ≠ 0) j v (hj : j < smany k) (hv : (us.drop i)[j]?.getD 0 = ((v : Nat) : Int)) => wsofar_step hk16 hb hfk hu0 hj hv
        have hwn := fun (hb : sbits k = 0) j => wsofar_none hb (us.drop i) j
        have hwe := wsofar_end k (us.drop i)
        have hwz := wsofar_zero k (us.drop i)
        have hwl := wsofar_lt hk16 hfk hu0
        have hbit := fun w (hj : Shp w) => hj.bits hk16
        have hq := shp_ok k hk16
        rw [hm] at hws hwe hq
        obtain ⟨b, hb⟩ : ∃ b, sbits k = b := ⟨_, rfl⟩
        rw [hb] at hws hwn hbit hq
        have hm240 := hq.2.1
        have hb60 := hq.2.2.1
        have HSEL := Lib.hid hsel
        have HWS := Lib.hid (And.intro hws (And.intro hwn (And.intro hwe (And.intro hwz hwl))))
        have HBT := Lib.hid hbit
        have HR := Lib.hid (And.intro hrd (And.intro hbl (And.intro hdi (And.intro hBs hst))))
        have HOB := Lib.hid hob
        have hmd : m ≤ d := by omega
        have hdl : (us.drop i).length = d := by rw [List.length_drop]; omega
        have HDL := Lib.hid hdl
        clear hdi hBs hrd hbl hk hm hst hsel him hI hml hob hu0 hjo hfk hws hwn hwe hwz hwl hbit hq hb hdl
        go_wp2_with fail
        refine HSEL.out.mono ?_
        rintro e w3 ⟨rfl, hb3⟩
        have HB3 := Lib.hid (HR.out.2.1.trans (hb3.mono HR.out.2.1.size))
        have HOB3 := Lib.hid (Owns.below HOB.out hb3)
        have hcb := HBT.out w3 (HJ.out.keep _ _ (HB2.out.trans (HB3.out.mono HB2.out.size)))
        clear hb3
        go_wp2_with (refine wpList_slice_h (o := ⟨some 36, _, _, _, _, _⟩) rfl rfl elemU64 HR.out.1 rfl (kh := .i64) (j := m) rfl hmd ?_; intro hrd4; have HRD4 := Lib.hid hrd4; clear hrd4)
        go_loopg [11, 38] m (fun gg v11 v38 wr => ∃ j W : Nat, v38 = .int .i64 j ∧ v11 = .int .u64 W ∧ j ≤ m ∧ gg = m - j ∧ w3 = wr ∧ (W : Int) ≤ 18446744073709551615 ∧ Hid (W = wsofar k (us.drop i) j))
        case atStart => exact ⟨0, k * 1152921504606846976, rfl, by go_num, by omega, by omega, rfl, by omega, Lib.hid (by rw [HWS.out.2.2.2.1])⟩
        case round =>
          obtain ⟨j, W, rfl, rfl, hjm, rfl, rfl, hW64, hW⟩ := hrel
          by_cases hlt : j < m
          · obtain ⟨b', o, rfl, hbl, hc⟩ := (HRD4.out.below HB3.out).get (by omega)
            have hcell := hc j hlt
            rw [List.getD_eq_getElem?_getD, List.getElem?_take_of_lt hlt] at hcell
            by_cases hb0 : b = 0
            · subst hb0
              have HW1 := Lib.hid (show W = wsofar k (us.drop i) (j + 1) by rw [HWS.out.2.1 rfl j]; exact hW.out)
              obtain ⟨x, hx⟩ : ∃ x, (us.drop i)[j]?.getD 0 = x := ⟨_, rfl⟩
              rw [hx] at hcell
              clear hc hx
              go_wp2
              go_roundg (m - (j + 1))
              case measure => omega
              case rel => exact ⟨j + 1, W, by go_num, rfl, by omega, rfl, rfl, hW64, HW1⟩
            · have hbd : decide ((0 : Int) < (b : Int)) = true := by simp; omega
              have hxu := HR.out.1.len
              have hx0 := (HU.out.2.1 ((us.drop i)[j]?.getD 0) (List.mem_of_mem_drop (by rw [List.getElem?_eq_getElem (by have := HDL.out; omega)]; exact List.getElem_mem _)))
              obtain ⟨x, hx⟩ := Int.eq_ofNat_of_zero_le hx0.1
              have hs := HWS.out.1 hb0 j x hlt hx
              rw [hx] at hcell
              have hmul : IntKind.i64.wrap ((j : Int) * (b : Int)) = ((b * j : Nat) : Int) := by
                rw [Int.mul_comm, ← Int.natCast_mul]; exact wrapi64_in _ (by omega) (by omega)
              have hw0 := hW.out
              rw [← hw0] at hs
              obtain ⟨W', hW'⟩ : ∃ W', wsofar k (us.drop i) (j + 1) = W' := ⟨_, rfl⟩
              rw [hW'] at hs
              obtain ⟨e, he⟩ : ∃ e, b * j = e := ⟨_, rfl⟩
              rw [he] at hs hmul
              obtain ⟨y, hy⟩ : ∃ y, x * 2 ^ e = y := ⟨_, rfl⟩
              rw [hy] at hs
              obtain ⟨hs1, hs2, hs3, hs4⟩ := hs
              have hwr : IntKind.u64.wrap ((x : Int) * 2 ^ e) = (y : Int) := by
                have e1 : ((x : Int) * 2 ^ e) = (y : Int) := by rw [← hy]; simp
                rw [e1]; exact wrapu64_in _ (by omega) (by omega)
              have HW1 := Lib.hid hW'.symm
              have hw1l : (W' : Int) ≤ 18446744073709551615 := by
                have h5 := hs4
                rw [bits_u64 _ _ _ (by omega) (by omega)] at h5
                have h6 : W ||| y < 2 ^ 64 := Nat.or_lt_two_pow (by omega) (by omega)
                have h8 : ((W ||| y : Nat) : Int) = (W' : Int) := h5
                have h7 : W ||| y = W' := by exact_mod_cast h8
                omega
              clear hc hx0 hx hw0 hW' he hs1 hy
              go_wp2
              go_roundg (m - (j + 1))
              case measure => omega
              case rel => exact ⟨j + 1, W', by go_num, by first | rfl | rw [hwr, hs4], by omega, rfl, rfl, hw1l, HW1⟩
          · obtain rfl : j = m := by omega
            have hWe := hW.out
            rw [HWS.out.2.2.1] at hWe
            have HST := Lib.hid hWe
            clear hWe
            go_wp2_with fail
            refine (Put64_any _ _ _ _ _ _ (Rd.own HOB3.out) (by omega) hW64).mono ?_
            rintro e w4 ⟨A4, n4, c4, rfl, ho4, hb4⟩
            have HO4 := Lib.hid (owns_weak ho4 (HB2.out.trans (HB3.out.mono HB2.out.size)).size)
            have HB4 := Lib.hid (HB3.out.trans (hb4.mono HB3.out.size))
            have hn4 : n4 ≤ 10000 := by
              have h1 := row_len ho4
              have h2 := congrArg List.length HR.out.2.2.2.1
              have h3 := congrArg List.length HR.out.2.2.2.2
              have h4 := HU.out.2.2.2
              rw [List.length_append, leb_len] at h1 h3
              rw [List.length_append] at h2
              omega
            clear ho4 hb4
            go_wp2_with (refine wpList_slice_l (o := ⟨some 64, _, _, _, _, _⟩) rfl rfl elemU64 HR.out.1 rfl (kl := .i64) (l := j) rfl hmd ?_; intro A5 c5 hrd5; rw [List.drop_drop] at hrd5; have HRD5 := Lib.hid hrd5; clear hrd5)
            go_roundg (d - j)
            case measure => omega
            case rel =>
              refine ⟨i + j, d - j, n4, A5, A4, c5, c4, rfl, hn4, rfl, rfl, Lib.hid ⟨_, HO4.out, by have := HR.out.2.2.1; omega, ?_, HRD5.out, HB4.out⟩⟩
              rw [List.append_assoc, HST.out, ← HR.out.2.2.2.1, HR.out.2.2.2.2]
      · obtain rfl : d = 0 := by omega
        rw [List.drop_of_length_le (by have := HU.out.2.2.1; omega), srest_nil, List.append_nil] at hBs
        subst hBs
        have HO := Lib.hid (And.intro hob (HB2.out.trans (hbl.mono HB2.out.size)))
        clear hdi hrd hbl hob hI
        go_wp2
        go_ret2
        exact ⟨Ab, mb, cb, by rw [HQ.out.2]; rfl, by rw [HQ.out.1, if_pos rfl, HF.out]; exact HO.out.1, HO.out.2⟩
theorem simE : EncerJ Shp 24 17 stk sform :=
  ⟨ms_encode, enters_f Tryd.func17 (by kernel_rfl) rfl, sEncode_any⟩
end Go.Proofs.YtaohdbagcfgoeaaDoor

namespace Go.Cor
open Go
theorem srest_eg : srest [1, 1] = [1, 0, 0, 64, 0, 0, 0, 224] := by
  have h : sel [1, 1] = 14 := by decide +kernel
  rw [srest_step (by decide) (by rw [h]; decide), h, show smany 14 = 2 by decide, show ([1, 1] : List Int).drop 2 = [] by rfl, srest_nil, List.append_nil]
  decide +kernel
theorem sform_eg : sform [-1, -1] = [1, 0, 0, 64, 0, 0, 0, 224] := by
  have h : stk [-1, -1] = true := by decide +kernel
  unfold sform
  rw [if_pos h, show ([-1, -1] : List Int).map zig = [1, 1] by decide +kernel, srest_eg]
end Go.Cor
namespace Go.Proofs.YtaohdbagcfgoeaaDoor
open Go.RowKit Go.Cor Go.Free

theorem sName_any (w : World) : Calls Tryd.prog 13 #[.agg #[]] w fun e w' => e = .returned (.string ⟨#[115, 105, 109, 112, 108, 101]⟩) ∧ Below w.heap.size w w' := by
  go_enter Tryd.func13, Tryd.ntmps13
  go_wp2
  go_ret
  exact ⟨rfl, (Below.refl _ _).alloc (Nat.le_refl _) _⟩

set_option maxRecDepth 100000 in
set_option maxHeartbeats 2000000 in
theorem awake09 (w : World) (hj : Shp w) : Calls Tryd.prog 10 #[] w fun e w' => e = .returned (.bool true) ∧ Below w.heap.size w w' := by
  have he := simE.c _ (shpKeep _ (w.alloc (.cells #[.int .i64 (-1), .int .i64 (-1)] 2)) hj ((Below.refl _ _).alloc (Nat.le_refl _) _)) _ 2 2 [-1, -1] (Rd.lit w 2 .i64 [-1, -1]) (by intro x hx; simp at hx; subst hx; exact ⟨by decide, by decide⟩) (by decide)
  unfold EncG at he
  rw [show wrg stk [-1, -1] = 0 by decide +kernel, show tak stk [-1, -1] = true by decide +kernel, if_pos rfl, sform_eg] at he
  have HE := Lib.hid he
  clear he
  go_enter Tryd.func10, Tryd.ntmps10
  go_wp2_with fail
  refine HE.out.mono ?_
  rintro e w1 ⟨A1, m1, c1, rfl, hown, hb1⟩
  have HO1 := Lib.hid (Rd.own hown)
  have HB1 := Lib.hid (((Below.refl w.heap.size w).alloc (Nat.le_refl _) _).trans (hb1.mono (by simp)))
  clear hown hb1
  have hv1 := conv_bytes HO1.out 30 5 9 Tryd.underlying30 Tryd.underlying5 Tryd.underlying9
  have hv2 := conv_bytes (Rd.lit w1 5 .u8 [1, 0, 0, 64, 0, 0, 0, 224]) 30 5 9 Tryd.underlying30 Tryd.underlying5 Tryd.underlying9
  rw [show strOfNums [1, 0, 0, 64, 0, 0, 0, 224] = ⟨#[1, 0, 0, 64, 0, 0, 0, 224]⟩ by decide +kernel] at hv1 hv2
  simp only [List.map_cons, List.map_nil, List.length_cons, List.length_nil] at hv2
  go_wp2
  go_ret
  exact ⟨rfl, HB1.out.alloc HB1.out.size _⟩
end Go.Proofs.YtaohdbagcfgoeaaDoor

namespace Go.Proofs.YtaohdbagcfgoeaaDoor
open Go.RowKit Go.Cor Go.Free

theorem sixteen {k : Nat} (h : k < 16) : k = 0 ∨ k = 1 ∨ k = 2 ∨ k = 3 ∨ k = 4 ∨ k = 5 ∨ k = 6 ∨ k = 7 ∨ k = 8 ∨ k = 9 ∨ k = 10 ∨ k = 11 ∨ k = 12 ∨ k = 13 ∨ k = 14 ∨ k = 15 := by omega
set_option maxRecDepth 100000 in
set_option maxHeartbeats 2000000 in
theorem sMany_any (k : Nat) (hk : k < 16) (w : World) : Calls Tryd.prog 26 #[.int .i64 k] w fun e w' => e = .returned (.int .i64 (smany k)) ∧ Below w.heap.size w w' := by
  rcases sixteen hk with rfl | rfl | rfl | rfl | rfl | rfl | rfl | rfl | rfl | rfl | rfl | rfl | rfl | rfl | rfl | rfl <;>
  · clear hk
    go_enter Tryd.func26, Tryd.ntmps26
    go_wp2
    go_ret
    exact ⟨rfl, (Below.refl _ _).alloc (Nat.le_refl _) _⟩
set_option maxRecDepth 100000 in
set_option maxHeartbeats 2000000 in
theorem sBits_any (k : Nat) (hk : k < 16) (w : World) : Calls Tryd.prog 28 #[.int .i64 k] w fun e w' => e = .returned (.int .i64 (sbits k)) ∧ Below w.heap.size w w' := by
  rcases sixteen hk with rfl | rfl | rfl | rfl | rfl | rfl | rfl | rfl | rfl | rfl | rfl | rfl | rfl | rfl | rfl | rfl <;>
  · clear hk
    go_enter Tryd.func28, Tryd.ntmps28
    go_wp2
    go_ret
    exact ⟨rfl, (Below.refl _ _).alloc (Nat.le_refl _) _⟩
end Go.Proofs.YtaohdbagcfgoeaaDoor

namespace Go.Cor
open Go Go.RowKit
/-- the number of a word so far, bit by bit (1 ahead of the first) -/
def zpart (u t : Nat) : Nat := if t = 0 then 1 else u % 2 ^ t
theorem zpart_step (u t : Nat) : (if t = 0 then 0 else zpart u t) + u / 2 ^ t % 2 * 2 ^ t = zpart u (t + 1) := by
  unfold zpart
  rw [if_neg (Nat.succ_ne_zero t)]
  by_cases h : t = 0
  · subst h; simp
  · rw [if_neg h, if_neg h, Nat.pow_succ, Nat.mod_mul, Nat.mul_comm (2 ^ t)]
end Go.Cor
namespace Go.Proofs.YtaohdbagcfgoeaaDoor
open Go.RowKit Go.Cor Go.Free

set_option maxRecDepth 100000 in
set_option maxHeartbeats 8000000 in
theorem refSDecode_any (w : World) (A : Option Addr) (n c : Nat) (ys : List Int) (N : Int) (h : Rd w .u8 A n c ys) (hby : By ys) (hn : n ≤ 100000) :
    Calls Tryd.prog 15 #[.slice A n c, .int .i64 N] w (DecG w.heap.size w sdec ys N) := by
  have hlen := h.len
  have hbk := refBlock_any N
  obtain ⟨q, hq⟩ : ∃ q, blk N = q := ⟨_, rfl⟩
  have hP : sdec ys N = (rlist N n (srun N.toNat ys).2.1 (srun N.toNat ys).2.2 (srun N.toNat ys).1, rerr N n (srun N.toNat ys).2.1 (srun N.toNat ys).2.2) := by unfold sdec decOf; rw [hlen]
  rw [hq] at hbk
  have HBK := Lib.hid hbk
  have H := Lib.hid h
  have HBY := Lib.hid hby
  have HLEN := Lib.hid hlen
  cases q with
  | false =>
    have HP := Lib.hid (show sdec ys N = ([], 7) by rw [hP, (rerr_blk hq).1, (rerr_blk (l := []) hq).2])
    clear h hby hlen hbk hq hP
    go_enter Tryd.func15, Tryd.ntmps15
    go_wp2_with fail
    refine (HBK.out w).mono ?_
    rintro e w' ⟨rfl, rfl⟩
    go_wp2
    go_ret2
    exact ⟨none, 0, 0, by rw [HP.out]; rfl, by rw [HP.out]; exact owns_nil _ _ _ _, Below.refl _ _⟩
  | true =>
    have hN := of_decide_eq_true hq
    obtain ⟨M, rfl⟩ := Int.eq_ofNat_of_zero_le (show 0 ≤ N by omega)
    have hM : M ≤ 1024 := by omega
    rw [show ((M : Int)).toNat = M from rfl] at hP
    have hst : srun M ys = dlift [] 0 (drun sstep (M - 0) (ys.drop 0)) := by rw [Nat.sub_zero, List.drop_zero]; exact drun_start M ys
    obtain ⟨R, hR⟩ : ∃ R, srun M ys = R := ⟨_, rfl⟩
    rw [hR] at hP hst
    have HST := Lib.hid hst
    have HP := Lib.hid hP
    have HQ := Lib.hid hq
    clear h hby hlen hbk hq hP hN hst hR
    go_enter Tryd.func15, Tryd.ntmps15
    go_wp2_with fail
    refine (HBK.out w).mono ?_
    rintro e w' ⟨rfl, rfl⟩
    go_wp2_with fail
    go_loopg [6, 7] M (fun gg v6 v7 wr => ∃ (i a : Nat) (A' : Option Addr) (c' : Nat) (l : List Int), v6 = .slice A' i c' ∧ i ≤ M ∧ gg = M - i ∧ v7 = .int .i64 a ∧ a ≤ n ∧ Hid (Owns wr w.heap.size 2 .i64 A' i c' l ∧ Below w.heap.size w wr ∧ R = dlift l a (drun sstep (M - i) (ys.drop a))))
    case atStart => exact ⟨0, 0, none, 0, [], rfl, by omega, by omega, rfl, by omega, Lib.hid ⟨owns_nil _ _ _ _, Below.refl _ _, HST.out⟩⟩
    case round =>
      obtain ⟨i, a, A', c', l, rfl, hi, rfl, rfl, han, hI⟩ := hrel
      obtain ⟨wo, rfl⟩ : ∃ wo, wo = wr := ⟨_, rfl⟩
      by_cases hlt : i < M
      · have hsz := hI.out.2.1.size
        have hst := fun he h1 => hI.out.2.2.trans (drun_step (step := sstep) l a (lack := M - i) (b := ys.drop a) (by omega) he h1)
        have hbd := fun he => hI.out.2.2.trans (drun_bad (step := sstep) l a (lack := M - i) (b := ys.drop a) (by omega) he)
        rw [sstep_w] at hst hbd
        simp only [List.drop_drop, List.length_map] at hst
        by_cases h8 : n < a + 8
        · have hw : wstep (M - i) (ys.drop a) = ([], 1) := by unfold wstep; rw [if_pos (by rw [List.length_drop, HLEN.out]; omega)]
          rw [hw] at hbd
          have e0 := HP.out
          rw [hbd (by decide), (rerr_err HQ.out (by decide)).1, (rerr_err (l := []) HQ.out (by decide)).2] at e0
          have E0 := Lib.hid e0
          have hd : decide ((n : Int) - (a : Int) < 8) = true := by simp; omega
          clear hst hbd hw e0
          go_wp2
          go_ret2
          exact ⟨none, 0, 0, by rw [E0.out]; rfl, by rw [E0.out]; exact owns_nil _ _ _ _, hI.out.2.1⟩
        · have hd : decide ((n : Int) - (a : Int) < 8) = false := by simp; omega
          have hR : wstep (M - i) (ys.drop a) = wbody (M - i) (nums ((ys.drop a).take 8)) := by unfold wstep; rw [if_neg (by rw [List.length_drop, HLEN.out]; omega)]
          have hb8 : By ((ys.drop a).take 8) := (HBY.out.drop _).take _
          have hW := nums_lt hb8
          rw [show ((ys.drop a).take 8).length = 8 by rw [List.length_take, List.length_drop, HLEN.out]; omega, show (256 : Nat) ^ 8 = 18446744073709551616 by decide] at hW
          have hrn := fun A c (h : Rd wo .u8 A 8 c ((ys.drop a).take 8)) => refNumber_any A 8 c _ wo h hb8 (by decide)
          rw [← nums_eq hb8] at hrn
          obtain ⟨W, hWe⟩ : ∃ W, nums ((ys.drop a).take 8) = W := ⟨_, rfl⟩
          rw [hWe] at hR hrn hW
          obtain ⟨k, hk⟩ : ∃ k, W / 2 ^ 60 = k := ⟨_, rfl⟩
          obtain ⟨V, hV⟩ : ∃ V, W % 2 ^ 60 = V := ⟨_, rfl⟩
          have hk16 : k < 16 := by rw [← hk, two60]; omega
          have hki : (W : Int) / 1152921504606846976 = (k : Int) := by rw [← hk, two60]; omega
          have hVi : (W : Int) % 1152921504606846976 = (V : Int) := by rw [← hV, two60]; omega
          have hV64 : V < 1152921504606846976 := by rw [← hV, two60]; omega
          unfold wbody at hR
          rw [hk, hV] at hR
          have hq := shp_ok k hk16
          have hMA := fun w => sMany_any k hk16 w
          have hBI := fun w => sBits_any k hk16 w
          have hsn := fun i => svals_take (k := k) (r := V) (i := i)
          have hsl := svals_len k V
          obtain ⟨m, hme⟩ : ∃ m, smany k = m := ⟨_, rfl⟩
          obtain ⟨b, hbe⟩ : ∃ b, sbits k = b := ⟨_, rfl⟩
          obtain ⟨sv, hsv⟩ : ∃ sv, svals k V = sv := ⟨_, rfl⟩
          rw [hme] at hMA hsl
          rw [hbe] at hBI
          rw [hme, hbe] at hq
          rw [hme, hbe, hsv] at hR hsn
          rw [hsv] at hsl
          obtain ⟨hq1, hq2, hq3, hq4⟩ := hq
          rw [hR] at hst hbd
          have HRN := Lib.hid hrn
          have HST2 := Lib.hid (And.intro hst hbd)
          have HSN := Lib.hid (And.intro hsn hsl)
          have HMA := Lib.hid hMA
          have HBI := Lib.hid hBI
          clear hst hbd hR hb8 hrn hWe hk hV hMA hBI hsn hsl hme hbe hsv
          go_wp2_with ((refine wpList_slice_lh (o := ⟨some 29, _, _, _, _, _⟩) rfl rfl elemU8 (H.out.below hI.out.2.1) rfl (kl := .i64) (kh := .i64) (l := a) (j := a + 8) rfl rfl (by omega) (by omega) ?_; intro A5 c5 hrd; rw [Nat.add_sub_cancel_left] at hrd; have HRD := Lib.hid hrd; clear hrd))
          refine (HRN.out _ _ HRD.out).mono ?_
          rintro e w2 ⟨rfl, rfl⟩
          go_wp2_with fail
          refine (HMA.out _).mono ?_
          rintro e w3 ⟨rfl, hb3⟩
          have HB3 := Lib.hid (hI.out.2.1.trans (hb3.mono hsz))
          have HO3 := Lib.hid (Owns.below hI.out.1 hb3)
          clear hb3
          by_cases hml : M < i + m
          · have hd3 : decide ((M : Int) < (i : Int) + (m : Int)) = true := by simp; omega
            have hbd := HST2.out.2
            rw [if_pos (by omega)] at hbd
            have e0 := HP.out
            rw [hbd (by decide), (rerr_err HQ.out (by decide)).1, (rerr_err (l := []) HQ.out (by decide)).2] at e0
            have E0 := Lib.hid e0
            clear hbd e0
            go_wp2
            go_ret2
            exact ⟨none, 0, 0, by rw [E0.out]; rfl, by rw [E0.out]; exact owns_nil _ _ _ _, HB3.out⟩
          · have hd3 : decide ((M : Int) < (i : Int) + (m : Int)) = false := by simp; omega
            go_wp2_with fail
            rw [hVi]
            go_loopg [6, 8, 10] m (fun gg v6 v8 v10 wr => ∃ (j u : Nat) (A' : Option Addr) (c' : Nat), v10 = .int .i64 j ∧ j ≤ m ∧ gg = m - j ∧ v8 = .int .u64 u ∧ u < 1152921504606846976 ∧ v6 = .slice A' (i + j) c' ∧ Hid (u = V / 2 ^ (b * j) ∧ Owns wr w.heap.size 2 .i64 A' (i + j) c' (l ++ (sv.take j).map zag) ∧ Below w.heap.size w wr))
            case atStart => exact ⟨0, V, A', c', rfl, by omega, by omega, by first | rfl | rw [hVi], hV64, rfl, Lib.hid ⟨by simp, by simpa using HO3.out, HB3.out⟩⟩
            case round =>
              obtain ⟨j, u, A2, c2, rfl, hjm, rfl, rfl, hu60, rfl, hJ⟩ := hrel
              have hszr := hJ.out.2.2.size
              go_wp2_with fail
              refine (HMA.out _).mono ?_
              rintro e w4 ⟨rfl, hb4⟩
              have HB4 := Lib.hid (hJ.out.2.2.trans (hb4.mono hszr))
              have HO4 := Lib.hid (Owns.below hJ.out.2.1 hb4)
              clear hb4
              by_cases hjl : j < m
              · go_wp2_with fail
                go_loopg [8, 11, 12] b (fun gg v8 v11 v12 wr => ∃ (t x z : Nat), v12 = .int .i64 t ∧ t ≤ b ∧ gg = b - t ∧ v8 = .int .u64 x ∧ x < 1152921504606846976 ∧ v11 = .int .u64 z ∧ z ≤ 1152921504606846976 ∧ Hid (x = u / 2 ^ t ∧ z = zpart u t ∧ Below w4.heap.size w4 wr))
                case atStart => exact ⟨0, u, 1, rfl, by omega, by omega, rfl, hu60, rfl, by omega, Lib.hid ⟨by simp, rfl, Below.refl _ _⟩⟩
                case round =>
                  obtain ⟨t, x, z, rfl, htb, rfl, rfl, hx60, rfl, hz60, hK⟩ := hrel
                  go_wp2_with fail
                  refine (HBI.out _).mono ?_
                  rintro e w5 ⟨rfl, hb5⟩
                  have HB5 := Lib.hid (hK.out.2.2.trans (hb5.mono hK.out.2.2.size))
                  clear hb5
                  by_cases htl : t < b
                  · have hp := zpart_step u t
                    rw [← hK.out.2.1, ← hK.out.1] at hp
                    obtain ⟨Z, hZ⟩ : ∃ Z, zpart u (t + 1) = Z := ⟨_, rfl⟩
                    have hZ60 : Z < 1152921504606846976 := by
                      rw [← hZ]; unfold zpart; rw [if_neg (Nat.succ_ne_zero t)]
                      exact Nat.lt_of_le_of_lt (Nat.mod_le _ _) hu60
                    rw [hZ] at hp
                    obtain ⟨P, hPe⟩ : ∃ P, 2 ^ t = P := ⟨_, rfl⟩
                    have hPi : (2 : Int) ^ t = (P : Int) := by rw [← hPe]; simp
                    rw [hPe] at hp
                    obtain ⟨Y, hY⟩ : ∃ Y, x % 2 * P = Y := ⟨_, rfl⟩
                    rw [hY] at hp
                    have hYi : IntKind.u64.wrap ((x : Int) % 2 * 2 ^ t) = (Y : Int) := by
                      have e1 : (x : Int) % 2 * 2 ^ t = (Y : Int) := by rw [hPi, ← hY, Int.natCast_mul]; rfl
                      rw [e1]; refine wrapu64_in _ (by omega) ?_
                      split at hp <;> omega
                    have HX := Lib.hid (show x / 2 = u / 2 ^ (t + 1) by rw [hK.out.1, Nat.div_div_eq_div_mul, Nat.pow_succ])
                    have HZ := Lib.hid hZ.symm
                    have hZ0 : t = 0 → Z = x % 2 := fun h0 => by
                      have hP1 : P = 1 := by rw [← hPe, h0]
                      rw [hP1, Nat.mul_one] at hY
                      rw [if_pos h0] at hp
                      omega
                    clear hPe hPi hY hZ
                    by_cases ht0 : t = 0
                    · subst ht0
                      rw [if_pos rfl] at hp
                      have hZ0 := hZ0 rfl
                      go_wp2_with fail
                      go_roundg (b - (0 + 1))
                      case measure => omega
                      case rel => exact ⟨0 + 1, x / 2, Z, by go_num, by omega, rfl, by go_num, by omega, by go_num, by omega, Lib.hid ⟨HX.out, HZ.out, HB5.out⟩⟩
                    · rw [if_neg ht0] at hp
                      have ht0' : ((t : Int) == 0) = false := by simp [ht0]
                      go_wp2_with fail
                      go_roundg (b - (t + 1))
                      case measure => omega
                      case rel => exact ⟨t + 1, x / 2, Z, by go_num, by omega, rfl, by go_num, by omega, by go_num, by omega, Lib.hid ⟨HX.out, HZ.out, HB5.out⟩⟩
                  · obtain rfl : t = b := by omega
                    have hsn := HSN.out.1 j hjl
                    have hzz : (if t = 0 then (1 : Int) else ((V / 2 ^ (t * j) % 2 ^ t : Nat) : Int)) = (z : Int) := by
                      rw [hK.out.2.1, ← hJ.out.1]; unfold zpart; split <;> rfl
                    rw [hzz] at hsn
                    have e1 : (sv.take j).map zag ++ [zag (z : Int)] = (sv.take (j + 1)).map zag := by rw [← hsn]; simp
                    have HZG := Lib.hid (fun w => refZag_any (z : Int) w (by omega) (by omega))
                    have E1 := Lib.hid e1
                    have HX := Lib.hid (show x = V / 2 ^ (t * (j + 1)) by rw [hK.out.1, hJ.out.1, div_step])
                    have HB6 := Lib.hid (HB4.out.trans (HB5.out.mono HB4.out.size))
                    have HO6 := Lib.hid (Owns.below HO4.out HB5.out)
                    clear hsn hzz e1 hK
                    go_wp2_with fail
                    refine (HZG.out _).mono ?_
                    rintro e w7 ⟨rfl, rfl⟩
                    go_wp2_with (at_builtin; refine wpList_append_r rfl rfl elemI64 (HO6.out.alloc _) rfl (RdV.one (Box.new _ _ _)) rfl one_one (by omega) (by omega) (by have := HB6.out.size; simp; omega) ?_; intro A8 c8 w8 hown hg _)
                    have HG := Lib.hid (below_grown (HB6.out.alloc HB6.out.size _) (HO6.out.alloc _) hg (by have := HB6.out.size; simp; omega))
                    have HO8 := Lib.hid (owns_snoc hown)
                    clear hown hg
                    go_roundg (m - (j + 1))
                    case measure => omega
                    case rel => exact ⟨j + 1, x, A8, c8, by go_num, by omega, rfl, rfl, hx60, rfl, Lib.hid ⟨HX.out, by have := HO8.out; rw [List.append_assoc, E1.out] at this; exact this, HG.out⟩⟩
              · obtain rfl : j = m := by omega
                have hr := HST2.out
                have hu := hJ.out.1
                rw [if_neg (by omega), ← hu] at hr
                have ho := HO4.out
                rw [List.take_of_length_le (by rw [HSN.out.2]; exact Nat.le_refl _)] at ho
                have hsl := HSN.out.2
                by_cases hu0 : u = 0
                · have hr1 := hr.1
                  rw [if_neg (by simp [hu0])] at hr1
                  have hr2 := hr1 rfl (by simp only [hsl]; omega)
                  simp only [hsl, if_true] at hr2
                  have HR2 := Lib.hid hr2
                  have HO5 := Lib.hid ho
                  subst hu0
                  clear hr hu ho hr1 hr2
                  go_wp2_with fail
                  go_roundg (M - (i + j))
                  case measure => omega
                  case rel => exact ⟨i + j, a + 8, A2, c2, _, rfl, by omega, rfl, by go_num, by omega, Lib.hid ⟨HO5.out, HB4.out, by rw [Nat.sub_add_eq]; exact HR2.out⟩⟩
                · have hr1 := hr.2
                  rw [if_pos hu0] at hr1
                  have e0 := HP.out
                  rw [hr1 (by decide), (rerr_err HQ.out (by decide)).1, (rerr_err (l := []) HQ.out (by decide)).2] at e0
                  have E0 := Lib.hid e0
                  have hd5 : decide ((0 : Int) < (u : Int)) = true := by simp; omega
                  clear hr hr1 e0 hu ho
                  go_wp2
                  go_ret2
                  exact ⟨none, 0, 0, by rw [E0.out]; rfl, by rw [E0.out]; exact owns_nil _ _ _ _, HB4.out⟩
      · obtain rfl : i = M := by omega
        have hR' := hI.out.2.2
        rw [Nat.sub_self, drun_end] at hR'
        have e0 := HP.out
        rw [hR'] at e0
        by_cases hlong : a < n
        · rw [(rerr_long HQ.out rfl hlong).1, (rerr_long (l := []) HQ.out rfl hlong).2] at e0
          have E0 := Lib.hid e0
          clear e0 hR'
          go_wp2
          go_ret2
          exact ⟨none, 0, 0, by rw [E0.out]; rfl, by rw [E0.out]; exact owns_nil _ _ _ _, hI.out.2.1⟩
        · rw [(rerr_ok HQ.out rfl hlong).1, (rerr_ok (l := []) HQ.out rfl hlong).2] at e0
          have E0 := Lib.hid e0
          clear e0 hR'
          go_wp2
          go_ret2
          exact ⟨A', i, c', by rw [E0.out]; rfl, by rw [E0.out]; exact hI.out.1, hI.out.2.1⟩
end Go.Proofs.YtaohdbagcfgoeaaDoor
