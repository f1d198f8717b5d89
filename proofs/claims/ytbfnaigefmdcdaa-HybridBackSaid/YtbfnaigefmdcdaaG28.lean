/-
  Chapter 10: the reference's Encode.
  Chapter 10: the reference's Decode.
  Chapter 10: Name; awake.
-/
import Derived.Deep.CutBlock
import Derived.Test.YtbfnaigefmdcdaaG10
import Derived.Test.YtbfnaigefmdcdaaG14
import Derived.Test.YtbfnaigefmdcdaaG22
import Derived.Test.YtbfnaigefmdcdaaG27
namespace Go.Cor
open Go Go.RowKit
theorem hpad_full {l : List Int} {g : Nat} (h : 8 * g ≤ l.length) : hpad (l.take (8 * g)) = l.take (8 * g) := by
  unfold hpad
  rw [List.length_take, Nat.min_eq_left h, show 8 * ((8 * g + 7) / 8) - 8 * g = 0 by omega, List.replicate_zero, List.append_nil]
theorem hpad_more {l : List Int} {g : Nat} (h : 8 * g < l.length) : hpad (l.take (8 * (g + 1))) = l.take (8 * g) ++ ((l.drop (8 * g)).take 8 ++ List.replicate (8 - (l.length - 8 * g)) 0) := by
  unfold hpad
  rw [← List.append_assoc, show 8 * (g + 1) = 8 * g + 8 by omega, List.take_add, List.length_append, List.length_take, List.length_take, List.length_drop]
  congr 2
  omega
theorem hone_pak {w : Nat} {l : List Int} (h8 : ¬ 8 ≤ same l) {g : Nat} (hg : hgr l.length l = g) (hp : 8 * (g - 1) < l.length) (hg0 : 0 < g) : htak l = min (8 * g) l.length ∧ hone w l = vput (2 * g + 1) ++ (packr w (hpad (l.take (8 * g)))).1 := by
  have ht : htak l = min (8 * g) l.length := by unfold htak; rw [if_neg h8, hg]
  refine ⟨ht, ?_⟩
  have e : l.take (min (8 * g) l.length) = l.take (8 * g) := by
    by_cases h : 8 * g ≤ l.length
    · rw [Nat.min_eq_left h]
    · rw [Nat.min_eq_right (by omega), List.take_of_length_le (Nat.le_refl _), List.take_of_length_le (by omega)]
  unfold hone
  rw [if_neg h8, ht, e, hput, if_neg (by omega), List.length_take, show (min (8 * g) l.length + 7) / 8 = g by omega]
theorem hone_run {w : Nat} {l : List Int} (h8 : 8 ≤ same l) : htak l = same l ∧ hone w l = vput (2 * same l) ++ leb (l[0]?.getD 0).toNat (octets w) := by
  refine ⟨by unfold htak; rw [if_pos h8], ?_⟩
  unfold hone
  rw [if_pos h8, hput, if_pos (by omega)]
  cases l with
  | nil => rfl
  | cons x r => simp
theorem hgr_step {f : Nat} {l : List Int} (h : l ≠ []) (h8 : same l < 8) : hgr (f + 1) l = hgr f (l.drop 8) + 1 := by
  rw [hgr, if_neg (by simp [h]; omega)]
theorem hgr_stop {f : Nat} {l : List Int} (h : l = [] ∨ 8 ≤ same l) : hgr f l = 0 := by
  cases f with
  | zero => rfl
  | succ f => rw [hgr, if_pos h]
end Go.Cor
namespace Go.Proofs.Ytbfnaigefmdcdaa
open Go.RowKit Go.Cor Go.Free

set_option maxRecDepth 100000 in
set_option maxHeartbeats 8000000 in
theorem refHEncode_any (A : Option Addr) (n c : Nat) (xs : List Int) (w : World) (h : Rd w .i64 A n c xs) (hi : In .i64 xs) (hn : n ≤ 1100) :
    Calls Try.prog 29 #[.slice A n c] w (RetRow w.heap.size 5 .u8 w (hform xs)) := by
  have hlen := h.len
  have hz := fun w h => refZigs_any A n c xs w h hi (by omega)
  have hzl : (xs.map zig).length = n := by simp [hlen]
  have hmb := most_bd (zigs_u64 hi)
  have hfit := most_fit (zigs_fit xs)
  have hzu : In .u64 (xs.map zig) := fun x hx => zigs_u64 hi x hx
  have hform_eq : hform xs = most (xs.map zig) :: hrest (most (xs.map zig)).toNat (xs.map zig) := rfl
  obtain ⟨zs, hzs⟩ : ∃ zs, xs.map zig = zs := ⟨_, rfl⟩
  rw [hzs] at hz hzl hmb hfit hform_eq hzu
  obtain ⟨k, hke⟩ := Int.eq_ofNat_of_zero_le hmb.1
  have hk64 : k ≤ 64 := by omega
  rw [hke] at hform_eq hfit
  rw [Int.toNat_natCast] at hform_eq hfit
  have HZ := Lib.hid hz
  have HM := Lib.hid (fun A n c w h hn => refMost_any A n c zs w h hn hzu)
  rw [hke] at HM
  have HF := Lib.hid hform_eq
  have HL := Lib.hid hzl
  have HFIT := Lib.hid (And.intro hfit hzu)
  have H := Lib.hid h
  have ek : IntKind.u8.wrap (k : Int) = (k : Int) := wrapu8_in _ (by omega) (by omega)
  clear h hi hlen hz hzs hmb hfit hke hform_eq hzl hzu
  go_enter Try.func29, Try.ntmps29
  go_wp2_with fail
  refine (HZ.out w H.out).mono ?_
  rintro e w1 ⟨A1, n1, c1, rfl, ho1, hb1⟩
  obtain rfl : n1 = n := by have h1 := row_len ho1; have := HL.out; omega
  have HO1 := Lib.hid (Rd.own ho1)
  have HB1 := Lib.hid hb1
  clear ho1 hb1
  go_wp2_with fail
  refine (HM.out _ _ _ w1 HO1.out (by omega)).mono ?_
  rintro e w2 ⟨rfl, rfl⟩
  go_wp2_with fail
  have hro : Owns (w1.alloc (.cells #[.int .u8 (k : Int)] 5)) w1.heap.size 5 .u8 (some ⟨w1.heap.size, 0, none⟩) 1 1 [(k : Int)] := owns_lit1 (Nat.le_refl _)
  have HRO := Lib.hid hro
  have HBO := Lib.hid ((Below.refl w1.heap.size w1).alloc (Nat.le_refl _) (.cells #[.int .u8 (k : Int)] 5))
  clear hro
  go_loopg [5, 6] n1 (fun gg v5 v6 wr => ∃ at_ : Nat, v6 = .int .i64 at_ ∧ at_ ≤ n1 ∧ gg = n1 - at_ ∧ ∃ (A' : Option Addr) (m' c' : Nat) (pre : List Int), v5 = .slice A' m' c' ∧ Hid (Owns wr w1.heap.size 5 .u8 A' m' c' pre ∧ Below w1.heap.size w1 wr ∧ hform xs = pre ++ hrest k (zs.drop at_) ∧ m' ≤ 17 * at_ + 1 + (if at_ < n1 then 0 else 66)))
  case atStart => exact ⟨0, rfl, by omega, by omega, _, 1, 1, [(k : Int)], rfl, Lib.hid ⟨HRO.out, HBO.out, by rw [HF.out]; rfl, by split <;> omega⟩⟩
  case round =>
    obtain ⟨at_, rfl, hat, rfl, A', m', c', pre, rfl, hI⟩ := hrel
    obtain ⟨wo, rfl⟩ : ∃ wo, wo = wr := ⟨_, rfl⟩
    by_cases hlt : at_ < n1
    · have hrd := HO1.out.below hI.out.2.1
      have hrun := refRun_any A1 n1 c1 zs at_ wo hrd (by omega) hlt
      have hm' : m' ≤ 17 * at_ + 1 := by have := hI.out.2.2.2; rw [if_pos hlt] at this; omega
      have hl0 : (zs.drop at_).length = n1 - at_ := by rw [List.length_drop, HL.out]
      have hne : zs.drop at_ ≠ [] := fun e => by rw [e] at hl0; simp at hl0; omega
      have hstep := hrest_step k hne
      have hsl := same_le (zs.drop at_)
      have hff := HFIT.out.1.drop at_
      obtain ⟨l, hle⟩ : ∃ l, zs.drop at_ = l := ⟨_, rfl⟩
      rw [hle] at hrun hl0 hne hstep hsl hff
      have hfeq := hI.out.2.2.1
      rw [hle, hstep] at hfeq
      obtain ⟨s, hs⟩ : ∃ s, same l = s := ⟨_, rfl⟩
      rw [hs] at hrun hsl
      have HRUN := Lib.hid hrun
      have HLE := Lib.hid (And.intro hle (And.intro hl0 hne))
      have HFE := Lib.hid hfeq
      have HS := Lib.hid hs
      have HFF := Lib.hid hff
      have hs11 : s ≤ 1100 := by omega
      have hsn : at_ + s ≤ n1 := by omega
      obtain ⟨b1, o1, rfl, _, _⟩ := HO1.out.get (by omega)
      clear hrun hle hl0 hne hstep hff hfeq hs hrd
      by_cases h8 : 8 ≤ s
      · have hd8 : decide ((8 : Int) ≤ (s : Int)) = true := by simp; omega
        have hv := fun w => refVPut_any (2 * s) w (by omega)
        rw [show ((2 * s : Nat) : Int) = 2 * (s : Int) by omega] at hv
        have hvl := vput_len_u64 (2 * s) (by omega)
        obtain ⟨ht, hone⟩ := hone_run (w := k) (l := l) (by rw [HS.out]; exact h8)
        have hfe := HFE.out
        rw [hone, ht, HS.out] at hfe
        have HFE2 := Lib.hid hfe
        have HV := Lib.hid hv
        have HVL := Lib.hid hvl
        have hx0 : l[0]?.getD 0 = zs[at_]?.getD 0 := by rw [← HLE.out.1]; simp
        have hxf := HFIT.out.1.get at_
        have hxu := HFIT.out.2 (zs[at_]?.getD 0) (by rw [List.getElem?_eq_getElem (by have := HL.out; omega)]; exact List.getElem_mem _)
        obtain ⟨x, hx⟩ := Int.eq_ofNat_of_zero_le hxf.1
        rw [hx] at hx0 hxu
        have hxu2 := hxu.2
        have HX := Lib.hid hx
        have HX2 := Lib.hid (show (l[0]?.getD 0).toNat = x by rw [hx0]; rfl)
        have hpp := fun w => refPut_any x (octets k) w hxu2 (by unfold octets; omega)
        rw [show ((octets k : Nat) : Int) = ((k : Int) + 7) / 8 by unfold octets; omega] at hpp
        have HP := Lib.hid hpp
        clear hv hvl ht hone hfe HFE hx0 hxf hx hpp hxu
        go_wp2_with fail
        refine HRUN.out.mono ?_
        rintro e w3 ⟨rfl, hb3⟩
        have HB3 := Lib.hid (hI.out.2.1.trans (hb3.mono hI.out.2.1.size))
        have HO3 := Lib.hid (Owns.below hI.out.1 hb3)
        clear hb3
        go_wp2_with fail
        refine (HV.out _).mono ?_
        rintro e w4 ⟨A4, m4, c4, rfl, ho4, hb4⟩
        have hm4 : m4 ≤ 10 := by have := row_len ho4; have := HVL.out; omega
        have HR4 := Lib.hid (Rd.own ho4)
        have HO4 := Lib.hid (Owns.below HO3.out hb4)
        have HB4 := Lib.hid (HB3.out.trans (hb4.mono HB3.out.size))
        clear ho4 hb4
        go_wp2_with (at_builtin; refine wpList_append_r rfl rfl elemU8 HO4.out rfl (Rd.toV HR4.out) rfl ints_one (by omega) (by omega) HB4.out.size ?_; intro A5 c5 w5 hown hg _; have hb5 := below_grown HB4.out HO4.out hg HB4.out.size; obtain ⟨b', o', e', hbl5, hc5⟩ := (HO1.out.below hb5).get (by omega); obtain ⟨e1, e2⟩ := addr_inj e'; subst e1 e2; have hcell := hc5 at_ hlt; rw [List.getD_eq_getElem?_getD, HX.out] at hcell; have HB5 := Lib.hid hb5; have HO5 := Lib.hid (owns_app hown); clear hown hg hb5 hc5 e')
        refine (HP.out _).mono ?_
        rintro e w6 ⟨A6, m6, c6, rfl, ho6, hb6⟩
        have hm6 : m6 ≤ 8 := by have h1 := row_len ho6; rw [leb_len] at h1; unfold octets at h1; omega
        have HR6 := Lib.hid (Rd.own ho6)
        have HO6 := Lib.hid (Owns.below HO5.out hb6)
        have HB6 := Lib.hid (HB5.out.trans (hb6.mono HB5.out.size))
        clear ho6 hb6
        go_wp2_with (at_builtin; refine wpList_append_r rfl rfl elemU8 HO6.out rfl (Rd.toV HR6.out) rfl ints_one (by omega) (by omega) HB6.out.size ?_; intro A7 c7 w7 hown hg _)
        go_roundg (n1 - (at_ + s))
        case measure => omega
        case rel =>
          refine ⟨at_ + s, by go_num, by omega, rfl, A7, m' + m4 + m6, c7, pre ++ vput (2 * s) ++ leb x (octets k), rfl, Lib.hid ⟨owns_app hown, below_grown HB6.out HO6.out hg HB6.out.size, ?_, by split <;> omega⟩⟩
          rw [HFE2.out, HX2.out]
          simp [List.append_assoc, ← HLE.out.1, List.drop_drop]
      · have hd8 : decide ((8 : Int) ≤ (s : Int)) = false := by simp; omega
        go_wp2_with fail
        refine HRUN.out.mono ?_
        rintro e w3 ⟨rfl, hb3⟩
        have HB3 := Lib.hid (hI.out.2.1.trans (hb3.mono hI.out.2.1.size))
        have HO3 := Lib.hid (Owns.below hI.out.1 hb3)
        clear hb3 HRUN
        have hln : l.length = n1 - at_ := HLE.out.2.1
        have HLN := Lib.hid hln
        have hl0 : 0 < l.length := by omega
        go_wp2_with fail
        go_loopg [6, 8] (n1 - at_) (fun gg v6 v8 wr2 => ∃ (a2 q : Nat) (A8 : Option Addr) (c8 : Nat), v6 = .int .i64 a2 ∧ at_ ≤ a2 ∧ a2 ≤ n1 ∧ gg = n1 - a2 ∧ v8 = .slice A8 q c8 ∧ q ≤ 1107 ∧ Hid (∃ g, q = 8 * g ∧ a2 = min (at_ + q) n1 ∧ 8 * (g - 1) < l.length ∧ Owns wr2 w3.heap.size 45 .u64 A8 q c8 (hpad (l.take q)) ∧ Below w3.heap.size w3 wr2 ∧ hgr l.length l = g + hgr (l.length - g) (l.drop q)))
        case atStart => exact ⟨at_, 0, none, 0, rfl, by omega, by omega, rfl, rfl, by omega, Lib.hid ⟨0, rfl, by omega, by omega, by rw [List.take_zero, show hpad [] = [] by decide]; exact owns_nil _ _ _ _, Below.refl _ _, by simp⟩⟩
        case round =>
          obtain ⟨a2, q, A8, c8, rfl, ha2, ha2n, rfl, rfl, hq, hJ⟩ := hrel
          obtain ⟨wq, rfl⟩ : ∃ wq, wq = wr := ⟨_, rfl⟩
          obtain ⟨d, hd⟩ : ∃ d, (decide (a2 < n1) && (decide (q = 0) || decide (same (zs.drop a2) < 8))) = d := ⟨_, rfl⟩
          have HD := Lib.hid hd
          clear hd
          go_upto_region 12 with fail
          go_cut [61] from 47 to 81 (fun v61 wx => v61 = .bool d ∧ Hid (Below wq.heap.size wq wx))
          case first =>
            by_cases hlt2 : a2 < n1
            · have hrun := refRun_any (some ⟨b1, o1, none⟩) n1 c1 zs a2 wq (HO1.out.below (HB3.out.trans (by obtain ⟨_, _, _, _, _, hb, _⟩ := hJ.out; exact hb.mono HB3.out.size))) (by omega) hlt2
              obtain ⟨s2, hs2⟩ : ∃ s2, same (zs.drop a2) = s2 := ⟨_, rfl⟩
              have hd := HD.out
              rw [hs2] at hrun hd
              have HRUN := Lib.hid hrun
              have hd1 : decide ((a2 : Int) < (n1 : Int)) = true := by simp; omega
              clear hrun hs2
              by_cases hq0 : q = 0
              · subst hq0
                obtain rfl : d = true := by simpa [hlt2] using hd.symm
                clear hd
                go_wp2_with fail
                go_meet
                exact ⟨rfl, Lib.hid (Below.refl _ _)⟩
              · have hq1 : ((q : Int) == 0) = false := by simp; omega
                by_cases h82 : s2 < 8
                · have hd2 : decide ((s2 : Int) < 8) = true := by simp; omega
                  obtain rfl : d = true := by simpa [hlt2, h82] using hd.symm
                  clear hd
                  go_wp2_with fail
                  refine HRUN.out.mono ?_
                  rintro e w4 ⟨rfl, hb4⟩
                  have HB4 := Lib.hid hb4
                  clear hb4
                  go_wp2_with fail
                  go_meet
                  exact ⟨rfl, HB4⟩
                · have hd2 : decide ((s2 : Int) < 8) = false := by simp; omega
                  obtain rfl : d = false := by simpa [hlt2, h82, hq0] using hd.symm
                  clear hd
                  go_wp2_with fail
                  refine HRUN.out.mono ?_
                  rintro e w4 ⟨rfl, hb4⟩
                  have HB4 := Lib.hid hb4
                  clear hb4
                  go_wp2_with fail
                  go_meet
                  exact ⟨rfl, HB4⟩
            · have hd1 : decide ((a2 : Int) < (n1 : Int)) = false := by simp; omega
              have hd := HD.out
              obtain rfl : d = false := by simpa [hlt2] using hd.symm
              clear hd
              go_wp2_with fail
              go_meet
              exact ⟨rfl, Lib.hid (Below.refl _ _)⟩
          case rest =>
            obtain ⟨rfl, hcut⟩ := hcut
            cases d with
            | true =>
              obtain ⟨g, hqg, ha2e, hgl, ho8, hb8, hgr⟩ := hJ.out
              have hd := HD.out
              simp only [Bool.and_eq_true, Bool.or_eq_true, decide_eq_true_eq] at hd
              have haq : a2 = at_ + q := by omega
              have hql : q < l.length := by omega
              have hld : zs.drop a2 = l.drop q := by rw [← HLE.out.1, List.drop_drop, haq]
              have hsm : same (l.drop q) < 8 := by
                rcases hd.2 with h0 | h0
                · subst h0; rw [List.drop_zero, HS.out]; omega
                · rwa [hld] at h0
              have hdn : l.drop q ≠ [] := fun e => by have := congrArg List.length e; rw [List.length_drop] at this; simp at this; omega
              rw [show l.length - g = (l.length - (g + 1)) + 1 by omega, hgr_step hdn hsm, List.drop_drop] at hgr
              have hP : hpad (l.take q) = l.take q := by rw [hqg]; exact hpad_full (by omega)
              have hM : hpad (l.take (q + 8)) = l.take q ++ ((l.drop q).take 8 ++ List.replicate (8 - (l.length - q)) 0) := by
                have := hpad_more (l := l) (g := g) (by omega)
                rw [show 8 * (g + 1) = q + 8 by omega, ← hqg] at this; exact this
              rw [hP] at ho8
              have HO8 := Lib.hid (Owns.below ho8 hcut.out)
              have HB8 := Lib.hid (hb8.trans (hcut.out.mono hb8.size))
              have HGR := Lib.hid (And.intro hgr (And.intro hM hqg))
              have HAQ := Lib.hid haq
              have HD2 := Lib.hid hd.1
              clear hd hqg ha2e ho8 hb8 hgr haq hld hsm hdn hP hM HD
              go_wp2_with fail
              go_loopg [6, 8, 9] 8 (fun gg v6 v8 v9 wr => ∃ (j a3 q3 : Nat) (A9 : Option Addr) (c9 : Nat), v9 = .int .i64 j ∧ j ≤ 8 ∧ gg = 8 - j ∧ v6 = .int .i64 a3 ∧ a2 ≤ a3 ∧ a3 ≤ n1 ∧ v8 = .slice A9 q3 c9 ∧ q3 ≤ q + 8 ∧ Hid (q3 = q + j ∧ a3 = min (a2 + j) n1 ∧ Owns wr w3.heap.size 45 .u64 A9 q3 c9 (l.take q ++ ((l.drop q).take j ++ List.replicate (j - (l.length - q)) 0)) ∧ Below w3.heap.size w3 wr))
              case atStart => exact ⟨0, a2, q, A8, c8, rfl, by omega, rfl, rfl, by omega, by omega, rfl, by omega, Lib.hid ⟨rfl, by omega, by simpa using HO8.out, HB8.out⟩⟩
              case round =>
                obtain ⟨j, a3, q3, A9, c9, rfl, hj, rfl, rfl, ha3, ha3n, rfl, hq3, hT⟩ := hrel
                obtain ⟨hq3e, ha3e, ho9, hb9⟩ := hT.out
                have hldl : (l.drop q).length = l.length - q := by rw [List.length_drop]
                by_cases hj8 : j < 8
                · by_cases hin : a3 < n1
                  · have hjl : j < (l.drop q).length := by have := HAQ.out; omega
                    have hb19 : Below w1.heap.size w1 wr := HB3.out.trans (hb9.mono HB3.out.size)
                    obtain ⟨b', o', e', hbl5, hc5⟩ := (HO1.out.below hb19).get (by omega)
                    obtain ⟨e1, e2⟩ := addr_inj e'
                    subst e1 e2
                    have hcell := hc5 a3 hin
                    have hxe : (l.drop q)[j]?.getD 0 = zs[a3]?.getD 0 := by rw [← HLE.out.1, List.drop_drop, List.getElem?_drop]; congr 2; have := HAQ.out; omega
                    rw [List.getD_eq_getElem?_getD, ← hxe] at hcell
                    have ht := take_snoc hjl
                    obtain ⟨x, hx⟩ : ∃ x, (l.drop q)[j]?.getD 0 = x := ⟨_, rfl⟩
                    rw [hx] at hcell ht
                    have HT := Lib.hid (And.intro ht (And.intro hq3e (And.intro ha3e (And.intro hldl hjl))))
                    have HO9 := Lib.hid ho9
                    have HB9 := Lib.hid hb9
                    clear ht hq3e ha3e hldl hjl ho9 hb9 hb19 hc5 e' hxe hx hT
                    go_wp2_with (at_builtin; refine wpList_append_r rfl rfl elemU64 (HO9.out.alloc _) rfl (RdV.one (Box.new _ _ _)) rfl one_one (by omega) (by omega) (by have := HB9.out.size; simp; omega) ?_; intro A10 c10 w10 hown hg _)
                    have HB10 := Lib.hid (below_grown (HB9.out.alloc HB9.out.size _) (HO9.out.alloc _) hg (by have := HB9.out.size; simp; omega))
                    have HO10 := Lib.hid (owns_snoc hown)
                    clear hown hg
                    go_roundg (8 - (j + 1))
                    case measure => omega
                    case rel =>
                      obtain ⟨ht, hq3e, ha3e, hldl, hjl⟩ := HT.out
                      refine ⟨j + 1, a3 + 1, q3 + 1, A10, c10, by go_num, by omega, rfl, by go_num, by omega, by omega, rfl, by omega, Lib.hid ⟨by omega, by omega, ?_, HB10.out⟩⟩
                      rw [ht]
                      have := HO10.out
                      rw [show j - (l.length - q) = 0 by omega, List.replicate_zero, List.append_nil] at this
                      rw [show j + 1 - (l.length - q) = 0 by omega, List.replicate_zero, List.append_nil, ← List.append_assoc]
                      exact this
                  · have hjl : (l.drop q).length ≤ j := by have := HAQ.out; omega
                    have HT := Lib.hid (And.intro hq3e (And.intro ha3e (And.intro hldl hjl)))
                    have HO9 := Lib.hid ho9
                    have HB9 := Lib.hid hb9
                    clear hq3e ha3e hldl hjl ho9 hb9 hT
                    go_wp2_with (at_builtin; refine wpList_append_r rfl rfl elemU64 (HO9.out.alloc _) rfl (RdV.one (Box.new _ _ _)) rfl one_one (by omega) (by omega) (by have := HB9.out.size; simp; omega) ?_; intro A10 c10 w10 hown hg _)
                    have HB10 := Lib.hid (below_grown (HB9.out.alloc HB9.out.size _) (HO9.out.alloc _) hg (by have := HB9.out.size; simp; omega))
                    have HO10 := Lib.hid (owns_snoc hown)
                    clear hown hg
                    go_roundg (8 - (j + 1))
                    case measure => omega
                    case rel =>
                      obtain ⟨hq3e, ha3e, hldl, hjl⟩ := HT.out
                      refine ⟨j + 1, a3, q3 + 1, A10, c10, by go_num, by omega, rfl, rfl, by omega, by omega, rfl, by omega, Lib.hid ⟨by omega, by omega, ?_, HB10.out⟩⟩
                      have := HO10.out
                      rw [List.take_of_length_le hjl, List.append_assoc, List.append_assoc, ← List.replicate_succ'] at this
                      rw [List.take_of_length_le (show (l.drop q).length ≤ j + 1 by omega), show j + 1 - (l.length - q) = j - (l.length - q) + 1 by omega]
                      exact this
                · obtain rfl : j = 8 := by omega
                  have HO9 := Lib.hid ho9
                  have HB9 := Lib.hid hb9
                  have HT := Lib.hid (And.intro hq3e ha3e)
                  have hlt3 : a2 < a3 := by have h2 := HD2.out; omega
                  clear hq3e ha3e hldl ho9 hb9 hT
                  go_wp2_with fail
                  go_roundg (n1 - a3)
                  case measure => omega
                  case rel =>
                    obtain ⟨hgr, hM, hqg⟩ := HGR.out
                    obtain rfl : q3 = q + 8 := HT.out.1
                    refine ⟨a3, q + 8, A9, c9, rfl, by omega, by omega, rfl, rfl, by have := HAQ.out; omega, Lib.hid ⟨g + 1, by omega, by have h1 := HT.out.2; have h2 := HAQ.out; omega, by omega, by rw [hM]; exact HO9.out, HB9.out, by rw [hgr]; omega⟩⟩
            | false =>
              obtain ⟨g, hqg, ha2e, hgl, ho8, hb8, hgr⟩ := hJ.out
              have hd := HD.out
              have hld : zs.drop a2 = l.drop q := by
                by_cases h : at_ + q ≤ n1
                · rw [← HLE.out.1, List.drop_drop, show a2 = at_ + q by omega]
                · rw [List.drop_of_length_le (by have := HL.out; omega), List.drop_of_length_le (by omega)]
              have hstop : l.drop q = [] ∨ 8 ≤ same (l.drop q) := by
                by_cases h : a2 < n1
                · right; rw [← hld]; simp [h] at hd; omega
                · left; exact List.drop_of_length_le (by omega)
              have hg0 : 0 < g := by
                rcases Nat.eq_zero_or_pos g with h0 | h0
                · subst h0
                  obtain rfl : q = 0 := hqg
                  simp at hd; omega
                · exact h0
              rw [hgr_stop hstop, Nat.add_zero] at hgr
              obtain ⟨ht, hone⟩ := hone_pak (w := k) (l := l) (by rw [HS.out]; exact h8) hgr hgl hg0
              have hfe := HFE.out
              rw [hone, ht, ← hqg] at hfe
              have hfp := (HFF.out.take q).pad
              have hup : In .u64 (hpad (l.take q)) := by
                intro x hx
                have h1 := hfp x hx
                have h2 : (2 : Nat) ^ k ≤ 2 ^ 64 := pow_mono2 hk64
                have h3 : (2 : Nat) ^ 64 = 18446744073709551616 := by decide
                exact ⟨h1.1, by omega⟩
              have hpk : (packr k (hpad (l.take q))).1.length ≤ 8 * q := by
                unfold packr
                split
                · simp
                · have hol := row_len ho8
                  have : q * k ≤ q * 64 := Nat.mul_le_mul_left _ hk64
                  simp only [packed_len, hol]; unfold octets; omega
              have ho8' := Owns.below ho8 hcut.out
              have hrp := fun w h => refPack_any A8 q c8 (hpad (l.take q)) k w h hup hk64 hfp
              obtain ⟨pp, hpp⟩ : ∃ pp, packr k (hpad (l.take q)) = pp := ⟨_, rfl⟩
              rw [hpp] at hfe hpk hrp
              have hv := fun w => refVPut_any (2 * g + 1) w (by omega)
              rw [show ((2 * g + 1 : Nat) : Int) = (q : Int) / 4 + 1 by omega] at hv
              have hvl := vput_len_u64 (2 * g + 1) (by omega)
              have HV := Lib.hid (And.intro hv hvl)
              have HRP := Lib.hid hrp
              have HFE2 := Lib.hid hfe
              have HO8 := Lib.hid (Rd.own ho8')
              have HN8 := Lib.hid (show ∀ b o, A8 = some ⟨b, o, none⟩ → w3.heap.size ≤ b from fun b o e => by subst e; exact (ho8.lt b rfl).1)
              have HB8 := Lib.hid (HB3.out.trans ((hb8.trans (hcut.out.mono hb8.size)).mono HB3.out.size))
              have HOB := Lib.hid (Owns.below (Owns.below HO3.out hb8) hcut.out)
              have HA := Lib.hid (And.intro ha2e (And.intro hqg (And.intro hg0 hld)))
              have hq8 : q ≤ l.length + 7 := by omega
              have haa : at_ < a2 := by omega
              clear hd hqg ha2e hgl ho8 hb8 hgr hld hstop hg0 ht hone hfe hfp hup ho8' hrp hpp hv hvl HD hJ
              go_wp2_with fail
              refine (HV.out.1 _).mono ?_
              rintro e w4 ⟨A4, m4, c4, rfl, ho4, hb4⟩
              have hm4 : m4 ≤ 10 := by have := row_len ho4; have := HV.out.2; omega
              have HR4 := Lib.hid (Rd.own ho4)
              have HO4 := Lib.hid (Owns.below HOB.out hb4)
              have HB4 := Lib.hid (HB8.out.trans (hb4.mono HB8.out.size))
              have HR8 := Lib.hid (HO8.out.below hb4)
              clear ho4 hb4
              go_wp2_with (at_builtin; refine wpList_append_r rfl rfl elemU8 HO4.out rfl (Rd.toV HR4.out) rfl ints_one (by omega) (by omega) HB4.out.size ?_; intro A5 c5 w5 hown hg _)
              have hb5 := below_grown HB4.out HO4.out hg HB4.out.size
              have HB5 := Lib.hid hb5
              have HO5 := Lib.hid (owns_app hown)
              have HR5 := Lib.hid (HR8.out.keep hg.size fun b hb ⟨o, ho⟩ => hg.block b hb fun e => by have h1 := HN8.out b o ho; have h2 := (HO3.out.lt b e.symm).2; omega)
              clear hown hg hb5
              refine (HRP.out _ HR5.out).mono ?_
              rintro e w6 ⟨A6, m6, c6, rfl, ho6, hb6⟩
              have hm6 : m6 ≤ 8 * q := by have := row_len ho6; omega
              have HR6 := Lib.hid (Rd.own ho6)
              have HO6 := Lib.hid (Owns.below HO5.out hb6)
              have HB6 := Lib.hid (HB5.out.trans (hb6.mono HB5.out.size))
              clear ho6 hb6
              go_wp2_with (at_builtin; refine wpList_append_r rfl rfl elemU8 HO6.out rfl (Rd.toV HR6.out) rfl ints_one (by omega) (by omega) HB6.out.size ?_; intro A7 c7 w7 hown hg _)
              go_roundg (n1 - a2)
              case measure => omega
              case rel =>
                refine ⟨a2, rfl, by omega, rfl, A7, m' + m4 + m6, c7, pre ++ vput (2 * g + 1) ++ pp.1, rfl, Lib.hid ⟨owns_app hown, below_grown HB6.out HO6.out hg HB6.out.size, ?_, ?_⟩⟩
                · rw [HFE2.out, HA.out.2.2.2]
                  have hdd : l.drop (min q l.length) = l.drop q := by
                    by_cases h : q ≤ l.length
                    · rw [Nat.min_eq_left h]
                    · rw [Nat.min_eq_right (by omega), List.drop_of_length_le (Nat.le_refl _), List.drop_of_length_le (by omega)]
                  rw [hdd]
                  simp [List.append_assoc]
                · obtain ⟨h1, h2, h3, _⟩ := HA.out
                  split <;> omega
    · obtain rfl : at_ = n1 := by omega
      have hm' : m' ≤ 17 * at_ + 67 := by have := hI.out.2.2.2; rw [if_neg (by omega)] at this; omega
      have hl0 : zs.drop at_ = [] := List.drop_of_length_le (by have := HL.out; omega)
      have hfe := hI.out.2.2.1
      rw [hl0, hrest_nil, List.append_nil] at hfe
      have HFE := Lib.hid hfe
      clear hl0 hfe
      go_wp2
      go_ret
      exact ⟨A', m', c', rfl, by rw [HFE.out]; exact owns_weak hI.out.1 HB1.out.size, HB1.out.trans (hI.out.2.1.mono HB1.out.size)⟩
end Go.Proofs.Ytbfnaigefmdcdaa

namespace Go.Cor
theorem nums_take : ∀ {b : List Int}, By b → ∀ q, nums (b.take q) = nums b % 2 ^ (8 * q)
  | [], _, q => by simp [nums_nil]
  | x :: r, h, 0 => by rw [List.take_zero, nums_nil, Nat.mul_zero, Nat.pow_zero, Nat.mod_one]
  | x :: r, h, q + 1 => by
    have hr : By r := fun y hy => h y (by simp [hy])
    have hx := h x (by simp)
    rw [List.take_succ_cons, nums_cons (r := r.take q) (fun y hy => by rcases List.mem_cons.1 hy with rfl | hy; exact hx; exact hr y (List.mem_of_mem_take hy)), nums_cons h, nums_take hr q,
      show 8 * (q + 1) = 8 + 8 * q by omega, Nat.pow_add, Nat.mod_mul]
    have h8 : (2 : Nat) ^ 8 = 256 := by decide
    rw [h8]
    have e1 : (x.toNat + 256 * nums r) % 256 = x.toNat := by omega
    have e2 : (x.toNat + 256 * nums r) / 256 = nums r := by omega
    rw [e1, e2]
theorem unp_get {k n V i : Nat} (h : i < n) : (unp k n V)[i]?.getD 0 = ((V / 2 ^ (k * i) % 2 ^ k : Nat) : Int) := by
  unfold unp; rw [List.getElem?_map, List.getElem?_range h]; rfl
end Go.Cor
namespace Go.Proofs.Ytbfnaigefmdcdaa
open Go.RowKit Go.Cor Go.Free

set_option maxRecDepth 100000 in
set_option maxHeartbeats 8000000 in
theorem refHDecode_any (w : World) (A : Option Addr) (n c : Nat) (ys : List Int) (N : Int) (h : Rd w .u8 A n c ys) (hby : By ys) (hn : n ≤ 100000) :
    Calls Try.prog 32 #[.slice A n c, .int .i64 N] w (DecG w.heap.size w hdec ys N) := by
  have hlen := h.len
  have hbk := refBlock_any N
  obtain ⟨q, hq⟩ : ∃ q, blk N = q := ⟨_, rfl⟩
  have hP : hdec ys N = (rlist N n (hrun N.toNat ys).2.1 (hrun N.toNat ys).2.2 (hrun N.toNat ys).1, rerr N n (hrun N.toNat ys).2.1 (hrun N.toNat ys).2.2) := by unfold hdec decOf; rw [hlen]
  rw [hq] at hbk
  have HBK := Lib.hid hbk
  have H := Lib.hid h
  have HBY := Lib.hid hby
  have HLEN := Lib.hid hlen
  cases q with
  | false =>
    have HP := Lib.hid (show hdec ys N = ([], 7) by rw [hP, (rerr_blk hq).1, (rerr_blk (l := []) hq).2])
    clear h hby hlen hbk hq hP
    go_enter Try.func32, Try.ntmps32
    go_wp2_with fail
    refine (HBK.out w).mono ?_
    rintro e w' ⟨rfl, rfl⟩
    go_wp2
    go_ret2
    exact ⟨none, 0, 0, by rw [HP.out]; rfl, by rw [HP.out]; exact owns_nil _ _ _ _, Below.refl _ _⟩
  | true =>
    have hN := of_decide_eq_true hq
    obtain ⟨M, rfl⟩ := Int.eq_ofNat_of_zero_le (show 0 ≤ N by omega)
    have hM : M ≤ 1024 := by omega
    have hM0 : 0 < M := by omega
    rw [show ((M : Int)).toNat = M from rfl] at hP
    have hbad : ∀ e : Int, hrun M ys = ([], 0, e) → e ≠ 0 → hdec ys M = ([], e) := by
      intro e he h0; rw [hP, he, (rerr_err hq h0).1, (rerr_err (l := []) hq h0).2]
    by_cases hx0 : ys = []
    · have hn0 : n = 0 := by rw [← hlen, hx0]; rfl
      have HP := Lib.hid (hbad 1 (by unfold hrun; rw [if_pos hx0]) (by decide))
      clear h hby hlen hbk hq hP hN hbad hx0
      subst hn0
      go_enter Try.func32, Try.ntmps32
      go_wp2_with fail
      refine (HBK.out w).mono ?_
      rintro e w' ⟨rfl, rfl⟩
      go_wp2
      go_ret2
      exact ⟨none, 0, 0, by rw [HP.out]; rfl, by rw [HP.out]; exact owns_nil _ _ _ _, Below.refl _ _⟩
    have hnp : 0 < n := by rw [← hlen]; exact List.length_pos_iff.2 hx0
    obtain ⟨b0, o0, rfl, hbl0, hc0⟩ := h.get hnp
    have hcell := hc0 0 hnp
    rw [List.getD_eq_getElem?_getD] at hcell
    have hkx := (head_one hby hx0).2
    have hx8 := hby (ys[0]?.getD 0) (by rw [List.getElem?_eq_getElem (by omega)]; exact List.getElem_mem _)
    have hR : hrun M ys = if 64 < (ys[0]?.getD 0).toNat then ([], 0, 6) else dlift [] 1 (drun (hstep (ys[0]?.getD 0).toNat) M (ys.drop 1)) := by unfold hrun; rw [if_neg hx0]
    obtain ⟨k, hk⟩ := Int.eq_ofNat_of_zero_le hx8.1
    rw [hk, Int.toNat_natCast] at hR
    rw [hk] at hcell hx8
    have hk255 : k ≤ 255 := by omega
    rw [Nat.add_zero] at hcell
    by_cases hk64 : 64 < k
    · have HP := Lib.hid (hbad 6 (by rw [hR, if_pos hk64]) (by decide))
      clear h hby hlen hbk hq hP hN hbad hx0 hc0 hkx hk hR hx8
      go_enter Try.func32, Try.ntmps32
      go_wp2_with fail
      refine (HBK.out w).mono ?_
      rintro e w' ⟨rfl, rfl⟩
      go_wp2
      go_ret2
      exact ⟨none, 0, 0, by rw [HP.out]; rfl, by rw [HP.out]; exact owns_nil _ _ _ _, Below.refl _ _⟩
    rw [if_neg hk64] at hR
    obtain ⟨R, hRe⟩ : ∃ R, hrun M ys = R := ⟨_, rfl⟩
    rw [hRe] at hR hP hbad
    have HR := Lib.hid hR
    have HBAD := Lib.hid hbad
    have HP := Lib.hid hP
    have HQ := Lib.hid hq
    clear h hby hlen hbk hq hP hN hbad hx0 hc0 hkx hk hR hx8 hRe
    go_enter Try.func32, Try.ntmps32
    go_wp2_with fail
    refine (HBK.out w).mono ?_
    rintro e w' ⟨rfl, rfl⟩
    go_wp2_with (refine wpList_slice_l (o := ⟨some 30, _, _, _, _, _⟩) rfl rfl elemU8 H.out rfl (kl := .i64) (l := 1) rfl (by omega) ?_; intro A1 c1 hrd1; have HRD1 := Lib.hid hrd1; clear hrd1 hcell)
    have hk2 : k ≤ 64 := by omega
    have HUN := Lib.hid (show ∀ e : Int, R = ([], 0, e) → e ≠ 0 → (hdec ys M).1 = [] ∧ (hdec ys M).2 = e from fun e h1 h2 => by rw [HBAD.out e h1 h2]; exact ⟨rfl, rfl⟩)
    clear HBAD
    go_loopg [0, 7] M (fun g v0 v7 wr => ∃ (m : Nat) (A' : Option Addr) (c' : Nat) (l : List Int) (a : Nat) (A0 : Option Addr) (c0 : Nat), v7 = .slice A' m c' ∧ m ≤ M ∧ g = M - m ∧ a ≤ n ∧ v0 = .slice A0 (n - a) c0 ∧ Hid (Owns wr w.heap.size 2 .i64 A' m c' l ∧ Rd w .u8 A0 (n - a) c0 (ys.drop a) ∧ Below w.heap.size w wr ∧ R = dlift l a (drun (hstep k) (M - m) (ys.drop a))))
    case atStart => exact ⟨0, none, 0, [], 1, A1, c1, rfl, by omega, rfl, by omega, rfl, Lib.hid ⟨owns_nil _ _ _ _, HRD1.out, Below.refl _ _, HR.out⟩⟩
    case round =>
      obtain ⟨m, A', c', l, a, A0, c0, rfl, hm, rfl, han, rfl, hI⟩ := hrel
      obtain ⟨wo, rfl⟩ : ∃ wo, wo = wr := ⟨_, rfl⟩
      have hdl : (ys.drop a).length = n - a := by rw [List.length_drop, HLEN.out]
      by_cases hlt : m < M
      · have hba := HBY.out.drop a
        have hR1 := hI.out.2.2.2
        have hget := refGet_any A0 (n - a) c0 (ys.drop a) wo (hI.out.2.1.below hI.out.2.2.1) hba (by omega)
        obtain ⟨g, hg⟩ : ∃ g, vget 0 (ys.drop a) = g := ⟨_, rfl⟩
        rw [hg] at hget
        obtain ⟨v, mm, er⟩ := g
        by_cases he : er = 0
        · subst he
          have hgg := zrun_get hba (by rw [hg])
          rw [hg, hdl] at hgg
          dsimp only at hgg
          obtain ⟨m1, rfl⟩ := Int.eq_ofNat_of_zero_le (show 0 ≤ mm by have := hgg.2.2.1; omega)
          obtain ⟨hd0, rfl⟩ := Int.eq_ofNat_of_zero_le hgg.2.2.2.1
          simp only [Int.toNat_natCast] at hgg
          obtain ⟨hg1, hg2, _, _, hg5⟩ := hgg
          have hst := hstep_get k (M - m) hg
          rw [List.drop_drop] at hst
          have hok := hstep_ok (lack := M - m) hk2 hba (by omega)
          rw [hst] at hok
          have hbad := drun_bad (step := hstep k) l a (lack := M - m) (b := ys.drop a) (by omega)
          rw [hst] at hbad
          have hsr := drun_step (step := hstep k) l a (lack := M - m) (b := ys.drop a) (by omega)
          rw [hst] at hsr
          obtain ⟨h, hh⟩ : ∃ h, hd0 / 2 = h := ⟨_, rfl⟩
          have hhi : (hd0 : Int) / 2 = (h : Int) := by omega
          have HST := Lib.hid (And.intro hok (And.intro hbad (And.intro hsr hR1)))
          have HGET := Lib.hid hget
          have HH := Lib.hid hh
          have hhb : h ≤ 9223372036854775807 := by omega
          clear hba hg hget hR1 hst hok hbad hsr hh hdl
          have hlb : (ys.drop (a + m1)).length = n - a - m1 := by rw [List.length_drop, HLEN.out]; omega
          have hby2 := HBY.out.drop (a + m1)
          have HLB := Lib.hid (And.intro hlb hby2)
          clear hlb hby2
          go_wp2_with fail
          refine HGET.out.mono ?_
          rintro e w4 ⟨rfl, rfl⟩
          go_upto_region 17 with (refine wpList_slice_l (o := ⟨some 46, _, _, _, _, _⟩) rfl rfl elemU8 hI.out.2.1 rfl (kl := .i64) (l := m1) rfl hg2 ?_; intro A2 c2 hrd2; rw [List.drop_drop] at hrd2; have HRD2 := Lib.hid hrd2; clear hrd2)
          by_cases h1 : hd0 ≤ 1
          · have h10 : ((h : Int) == 0) = true := by have := HH.out; simp; omega
            go_wp2_with fail
            go_ret2
            obtain ⟨_, hbad, _, hR1⟩ := HST.out
            rw [hbody, if_pos h1] at hbad
            obtain ⟨e1, e2⟩ := HUN.out 7 (hR1.trans (hbad (by decide))) (by decide)
            exact ⟨none, 0, 0, by rw [e2]; rfl, by rw [e1]; exact owns_nil _ _ _ _, hI.out.2.2.1⟩
          have h10 : ((h : Int) == 0) = false := by have := HH.out; simp; omega
          go_upto_region 19 with fail
          by_cases h2 : hd0 % 2 = 0
          · have hp : ((hd0 : Int) % 2 == 0) = true := by simp; omega
            go_upto_region 20 with fail
            by_cases h3 : M - m < h
            · have hd3 : decide ((M : Int) - (m : Int) < (h : Int)) = true := by simp; omega
              go_wp2_with fail
              go_ret2
              obtain ⟨_, hbad, _, hR1⟩ := HST.out
              rw [hbody, if_neg h1, if_pos h2, HH.out, if_pos h3] at hbad
              obtain ⟨e1, e2⟩ := HUN.out 7 (hR1.trans (hbad (by decide))) (by decide)
              exact ⟨none, 0, 0, by rw [e2]; rfl, by rw [e1]; exact owns_nil _ _ _ _, hI.out.2.2.1⟩
            have hd3 : decide ((M : Int) - (m : Int) < (h : Int)) = false := by simp; omega
            obtain ⟨q, hq⟩ : ∃ q, octets k = q := ⟨_, rfl⟩
            have hqi : ((k : Int) + 7) / 8 = (q : Int) := by rw [← hq]; unfold octets; omega
            have hq8 : q ≤ 8 := by rw [← hq]; unfold octets; omega
            have HQE := Lib.hid hq
            clear hq
            go_upto_region 22 with fail
            by_cases h4 : n - a - m1 < q
            · have hd4 : decide (n - a - m1 < q) = true := by simp; omega
              go_wp2_with fail
              go_ret2
              obtain ⟨_, hbad, _, hR1⟩ := HST.out
              rw [hbody, if_neg h1, if_pos h2, HH.out, if_neg h3, HLB.out.1, HQE.out, if_pos h4] at hbad
              obtain ⟨e1, e2⟩ := HUN.out 1 (hR1.trans (hbad (by decide))) (by decide)
              exact ⟨none, 0, 0, by rw [e2]; rfl, by rw [e1]; exact owns_nil _ _ _ _, hI.out.2.2.1⟩
            have hd4 : decide (n - a - m1 < q) = false := by simp; omega
            have hnl := nums_lt (HLB.out.2.take q)
            have hne := nums_eq (HLB.out.2.take q)
            have hnt : ((ys.drop (a + m1)).take q).length = q := by rw [List.length_take, HLB.out.1]; omega
            have hrn := fun A c w h => refNumber_any A q c ((ys.drop (a + m1)).take q) w h (HLB.out.2.take q) hq8
            rw [← hne] at hrn
            have h256 : (256 : Nat) ^ q ≤ 256 ^ 8 := Nat.pow_le_pow_right (by decide) hq8
            have h2568 : (256 : Nat) ^ 8 = 18446744073709551616 := by decide
            rw [hnt] at hnl
            obtain ⟨v, hv⟩ : ∃ v, nums ((ys.drop (a + m1)).take q) = v := ⟨_, rfl⟩
            rw [hv] at hnl hrn
            have hv64 : (v : Int) ≤ 18446744073709551615 := by omega
            have hrf := fun w => refFits_any v k hk2 hv64 w
            have HRN := Lib.hid (And.intro hrn hrf)
            have HV := Lib.hid hv
            clear hnl hne hnt hrn h256 h2568 hv hrf
            go_upto_region 24 with fail
            have hcap := HRD2.out.cap
            go_wp2_with fail
            refine (HRN.out.1 _ _ _ ((HRD2.out.take (m := q) (by omega)).below hI.out.2.2.1)).mono ?_
            rintro e w5 ⟨rfl, rfl⟩
            go_wp2_with fail
            refine (HRN.out.2 _).mono ?_
            rintro e w5 ⟨rfl, rfl⟩
            by_cases h5 : 2 ^ k ≤ v
            · have hd5 : decide (v < 2 ^ k) = false := decide_eq_false (by omega)
              rw [hd5]
              go_wp2_with fail
              go_ret2
              obtain ⟨_, hbad, _, hR1⟩ := HST.out
              rw [hbody, if_neg h1, if_pos h2, HH.out, if_neg h3, HLB.out.1, HQE.out, if_neg h4, HV.out, if_pos h5] at hbad
              obtain ⟨e1, e2⟩ := HUN.out 4 (hR1.trans (hbad (by decide))) (by decide)
              exact ⟨none, 0, 0, by rw [e2]; rfl, by rw [e1]; exact owns_nil _ _ _ _, hI.out.2.2.1⟩
            have hd5 : decide (v < 2 ^ k) = true := decide_eq_true (by omega)
            have hz := fun w => refZag_any (v : Int) w (by omega) hv64
            obtain ⟨z, hze⟩ : ∃ z, zag (v : Int) = z := ⟨_, rfl⟩
            rw [hze] at hz
            have HZ := Lib.hid (And.intro hz hze)
            rw [hd5]
            clear hz hze hd5
            obtain ⟨A3, hsl, hrd3⟩ := sl_from elemU8 HRD2.out (l := q) (by omega) .i64
            rw [List.drop_drop] at hrd3
            have HRD4 := Lib.hid hrd3
            clear hrd3
            go_wp2_with fail
            rw [hqi]
            clear hqi
            go_loopg [7, 14] h (fun g v7 v14 wr => ∃ i : Nat, v14 = .int .u64 i ∧ i ≤ h ∧ g = h - i ∧ ∃ A2 c2, v7 = .slice A2 (m + i) c2 ∧ Hid (Owns wr w.heap.size 2 .i64 A2 (m + i) c2 (l ++ List.replicate i z) ∧ Below w.heap.size w wr))
            case atStart => exact ⟨0, rfl, by omega, by omega, A', c', rfl, Lib.hid ⟨by simpa using hI.out.1, hI.out.2.2.1⟩⟩
            case round =>
              obtain ⟨i, rfl, hi, rfl, A4, c4, rfl, hJ⟩ := hrel
              by_cases hlt2 : i < h
              · have hdi : decide (i < h) = true := by simp; omega
                go_wp2_with fail
                refine (HZ.out.1 _).mono ?_
                rintro e w6 ⟨rfl, rfl⟩
                go_wp2_with (at_builtin; refine wpList_append_r rfl rfl elemI64 (hJ.out.1.alloc _) rfl (RdV.one (Box.new _ _ _)) rfl one_one (by omega) (by omega) (by have := hJ.out.2.size; simp; omega) ?_; intro A5 c5 w7 hown hg _)
                have HB7 := Lib.hid (below_grown (hJ.out.2.alloc hJ.out.2.size _) (hJ.out.1.alloc _) hg (by have := hJ.out.2.size; simp; omega))
                have HO7 := Lib.hid (owns_snoc hown)
                clear hown hg
                go_roundg (h - (i + 1))
                case measure => omega
                case rel => exact ⟨i + 1, by go_num, by omega, rfl, A5, c5, rfl, Lib.hid ⟨by rw [List.replicate_succ', ← List.append_assoc]; exact HO7.out, HB7.out⟩⟩
              · obtain rfl : i = h := by omega
                have hdi : decide (i < i) = false := by simp
                go_wp2_with fail
                go_roundg (M - (m + i))
                case measure => have := HH.out; omega
                case rel =>
                  obtain ⟨_, _, hsr, hR1⟩ := HST.out
                  rw [hbody, if_neg h1, if_pos h2, HH.out, if_neg h3, HLB.out.1, HQE.out, if_neg h4, HV.out, if_neg h5, HZ.out.2] at hsr
                  have hsr2 := hsr rfl (by have := HH.out; simp; omega)
                  simp only [List.length_replicate, List.drop_drop] at hsr2
                  refine ⟨m + i, A4, c4, l ++ List.replicate i z, a + (m1 + q), A3, c2 - q, rfl, by omega, rfl, by omega, by rw [show n - a - m1 - q = n - (a + (m1 + q)) by omega], Lib.hid ⟨hJ.out.1, ?_, hJ.out.2, ?_⟩⟩
                  · rw [show n - (a + (m1 + q)) = n - a - m1 - q by omega, ← Nat.add_assoc]; exact HRD4.out
                  · rw [hR1, hsr2, Nat.sub_add_eq]
          · have hp : ((hd0 : Int) % 2 == 0) = false := by simp; omega
            obtain ⟨G, hG⟩ : ∃ G, (M - m + 7) / 8 = G := ⟨_, rfl⟩
            have hGi : ((M : Int) - (m : Int) + 7) / 8 = (G : Int) := by omega
            have hG8 : G ≤ 128 := by omega
            have HG := Lib.hid hG
            clear hG
            go_upto_region 32 with fail
            by_cases h3 : G < h
            · have hd3 : decide (G < h) = true := by simp; omega
              go_wp2_with fail
              go_ret2
              obtain ⟨_, hbad, _, hR1⟩ := HST.out
              rw [hbody, if_neg h1, if_neg h2, HH.out, HG.out, if_pos h3] at hbad
              obtain ⟨e1, e2⟩ := HUN.out 7 (hR1.trans (hbad (by decide))) (by decide)
              exact ⟨none, 0, 0, by rw [e2]; rfl, by rw [e1]; exact owns_nil _ _ _ _, hI.out.2.2.1⟩
            have hd3 : decide (G < h) = false := by simp; omega
            have hh8 : h ≤ 128 := by omega
            have hhk : h * k ≤ 128 * 64 := Nat.mul_le_mul hh8 hk2
            obtain ⟨q, hq⟩ : ∃ q, h * k = q := ⟨_, rfl⟩
            have hqi : (h : Int) * (k : Int) = (q : Int) := by rw [← hq]; simp
            rw [hq] at hhk
            have HQE := Lib.hid hq
            clear hq
            go_upto_region 34 with fail
            by_cases h4 : n - a - m1 < q
            · have hd4 : decide (n - a - m1 < q) = true := by simp; omega
              go_wp2_with fail
              go_ret2
              obtain ⟨_, hbad, _, hR1⟩ := HST.out
              rw [hbody, if_neg h1, if_neg h2, HH.out, HG.out, if_neg h3, HLB.out.1, HQE.out, if_pos h4] at hbad
              obtain ⟨e1, e2⟩ := HUN.out 1 (hR1.trans (hbad (by decide))) (by decide)
              exact ⟨none, 0, 0, by rw [e2]; rfl, by rw [e1]; exact owns_nil _ _ _ _, hI.out.2.2.1⟩
            have hd4 : decide (n - a - m1 < q) = false := by simp; omega
            have hue : unp k (8 * h) (nums ((ys.drop (a + m1)).take q)) = unp k (8 * h) (nums (ys.drop (a + m1))) := by
              rw [nums_take HLB.out.2]
              refine unp_mod _ _ _ _ ?_
              rw [← HQE.out, Nat.mul_comm k, Nat.mul_assoc]
              exact Nat.le_refl _
            have hul := unp_len k (8 * h) (nums (ys.drop (a + m1)))
            have hug := fun i h' => unp_get (k := k) (n := 8 * h) (V := nums (ys.drop (a + m1))) (i := i) h'
            have huf := unp_fit k (8 * h) (nums (ys.drop (a + m1)))
            obtain ⟨U, hU⟩ : ∃ U, unp k (8 * h) (nums (ys.drop (a + m1))) = U := ⟨_, rfl⟩
            rw [hU] at hue hul hug huf
            have HU := Lib.hid (And.intro hue (And.intro hul (And.intro hug huf)))
            clear hue hul hug huf hU
            go_wp2_with fail
            rw [hGi]
            have HQI := Lib.hid hqi
            clear hqi hGi
            go_loopg [7, 15] (8 * h) (fun g v7 v15 wr => ∃ (i t : Nat) (B2 : Option Addr) (d2 : Nat), v15 = .int .i64 i ∧ i ≤ 8 * h ∧ g = 8 * h - i ∧ v7 = .slice B2 (m + t) d2 ∧ t ≤ M - m ∧ Hid (t = min i (M - m) ∧ Owns wr w.heap.size 2 .i64 B2 (m + t) d2 (l ++ (U.take t).map zag) ∧ Below w.heap.size w wr ∧ ∀ j, M - m ≤ j → j < i → U[j]?.getD 0 = 0))
            case atStart => exact ⟨0, 0, A', c', rfl, by omega, rfl, rfl, by omega, Lib.hid ⟨by omega, by simpa using hI.out.1, hI.out.2.2.1, fun j h1 h2 => by omega⟩⟩
            case round =>
              obtain ⟨i, t, B2, d2, rfl, hi, rfl, rfl, ht, hJ⟩ := hrel
              obtain ⟨wi, rfl⟩ : ∃ wi, wi = wr := ⟨_, rfl⟩
              by_cases hi8 : i < 8 * h
              · have hik : (i + 1) * k ≤ 8 * h * k := Nat.mul_le_mul_right k hi8
                rw [Nat.mul_assoc, HQE.out, Nat.add_mul, Nat.one_mul] at hik
                have hnum := refNum01_any A2 (n - a - m1) c2 (ys.drop (a + m1)) (i * k) k wi (HRD2.out.below hJ.out.2.2.1) HLB.out.2 (by omega) hk2 (by omega)
                have hxe := HU.out.2.2.1 i hi8
                rw [Nat.mul_comm k i] at hxe
                have hxm : U[i]?.getD 0 ∈ U := by rw [List.getElem?_eq_getElem (by rw [HU.out.2.1]; exact hi8)]; exact List.getElem_mem _
                have hxf := (HU.out.2.2.2 _ hxm).2
                obtain ⟨f, hf⟩ : ∃ f, i * k = f := ⟨_, rfl⟩
                have hfi : (i : Int) * (k : Int) = (f : Int) := by rw [← hf]; simp
                rw [hf] at hik hnum hxe
                obtain ⟨x, hx⟩ : ∃ x, nums (ys.drop (a + m1)) / 2 ^ f % 2 ^ k = x := ⟨_, rfl⟩
                rw [hx] at hnum hxe
                rw [hxe, Int.toNat_natCast] at hxf
                have h264 : (2 : Nat) ^ k ≤ 2 ^ 64 := pow_mono2 hk2
                have h264' : (2 : Nat) ^ 64 = 18446744073709551616 := by decide
                have hx64 : (x : Int) ≤ 18446744073709551615 := by omega
                have HNUM := Lib.hid hnum
                have HXE := Lib.hid hxe
                have hf8 : f ≤ 65536 := by omega
                clear hnum hxe hxm hxf hf hx h264 h264' hik
                go_wp2_with fail
                refine HNUM.out.mono ?_
                rintro e w6 ⟨rfl, rfl⟩
                by_cases hge : M - m ≤ i
                · have hdg : decide ((M : Int) - (m : Int) ≤ (i : Int)) = true := by simp; omega
                  by_cases hx0 : x = 0
                  · subst hx0
                    go_wp2_with fail
                    go_roundg (8 * h - (i + 1))
                    case measure => omega
                    case rel =>
                      refine ⟨i + 1, t, B2, d2, by go_num, by omega, rfl, rfl, ht, Lib.hid ⟨by have := hJ.out.1; omega, hJ.out.2.1, hJ.out.2.2.1, fun j h5 h6 => ?_⟩⟩
                      by_cases h7 : j < i
                      · exact hJ.out.2.2.2 j h5 h7
                      · rw [show j = i by omega, HXE.out]; rfl
                  · have hnx : ((x : Int) != 0) = true := by simp [hx0]
                    go_wp2_with fail
                    go_ret2
                    obtain ⟨_, hbad, _, hR1⟩ := HST.out
                    rw [hbody, if_neg h1, if_neg h2, HH.out, HG.out, if_neg h3, HLB.out.1, HQE.out, if_neg h4, HU.out.1, if_pos (any_at (t := i - (M - m)) (by rw [List.length_drop, HU.out.2.1]; omega) (by rw [List.getElem?_drop, show M - m + (i - (M - m)) = i by omega, HXE.out]; omega))] at hbad
                    obtain ⟨e1, e2⟩ := HUN.out 3 (hR1.trans (hbad (by decide))) (by decide)
                    exact ⟨none, 0, 0, by rw [e2]; rfl, by rw [e1]; exact owns_nil _ _ _ _, hJ.out.2.2.1⟩
                · have hdg : decide ((M : Int) - (m : Int) ≤ (i : Int)) = false := by simp; omega
                  have hti : t = i := by have := hJ.out.1; omega
                  have HTI := Lib.hid hti
                  have hz := fun w => refZag_any (x : Int) w (by omega) hx64
                  obtain ⟨z, hze⟩ : ∃ z, zag (x : Int) = z := ⟨_, rfl⟩
                  rw [hze] at hz
                  have HZ := Lib.hid (And.intro hz hze)
                  clear hz hze hti
                  go_wp2_with fail
                  refine (HZ.out.1 _).mono ?_
                  rintro e w6 ⟨rfl, rfl⟩
                  go_wp2_with (at_builtin; refine wpList_append_r rfl rfl elemI64 (hJ.out.2.1.alloc _) rfl (RdV.one (Box.new _ _ _)) rfl one_one (by omega) (by omega) (by have := hJ.out.2.2.1.size; simp; omega) ?_; intro A5 c5 w7 hown hg _)
                  have HB7 := Lib.hid (below_grown (hJ.out.2.2.1.alloc hJ.out.2.2.1.size _) (hJ.out.2.1.alloc _) hg (by have := hJ.out.2.2.1.size; simp; omega))
                  have HO7 := Lib.hid (owns_snoc hown)
                  clear hown hg
                  go_roundg (8 * h - (i + 1))
                  case measure => omega
                  case rel =>
                    have hti := HTI.out
                    refine ⟨i + 1, t + 1, A5, c5, by go_num, by omega, rfl, rfl, by omega, Lib.hid ⟨by omega, ?_, HB7.out, fun j h5 h6 => by omega⟩⟩
                    have e1 := map_take_snoc (l := U) (k := t) zag (by rw [HU.out.2.1]; omega)
                    have hxe := HXE.out
                    rw [← hti] at hxe
                    rw [hxe, HZ.out.2] at e1
                    rw [← e1, ← List.append_assoc]; exact HO7.out
              · obtain rfl : i = 8 * h := by omega
                obtain ⟨A3, hsl, hrd3⟩ := sl_from elemU8 HRD2.out (l := q) (by omega) .i64
                rw [List.drop_drop] at hrd3
                have HRD4 := Lib.hid hrd3
                have hht : 0 < h := by have := HH.out; omega
                have hqi := HQI.out
                clear hrd3
                go_wp2_with fail
                go_roundg (M - (m + t))
                case measure => have := hJ.out.1; omega
                case rel =>
                  obtain ⟨hte, hjo, hjb, hjz⟩ := hJ.out
                  obtain ⟨_, _, hsr, hR1⟩ := HST.out
                  have hany : (U.drop (M - m)).any (· != 0) = false := by
                    refine any_drop fun j hj => ?_
                    rw [List.length_drop, HU.out.2.1] at hj
                    rw [List.getElem?_drop]
                    exact hjz _ (by omega) (by omega)
                  have htk : U.take (M - m) = U.take t := by
                    by_cases h7 : M - m ≤ 8 * h
                    · rw [show t = M - m by omega]
                    · rw [List.take_of_length_le (by rw [HU.out.2.1]; omega), List.take_of_length_le (by rw [HU.out.2.1]; omega)]
                  have htl : (U.take t).length = t := by rw [List.length_take, HU.out.2.1]; omega
                  rw [hbody, if_neg h1, if_neg h2, HH.out, HG.out, if_neg h3, HLB.out.1, HQE.out, if_neg h4, HU.out.1, hany, if_neg (by decide), htk] at hsr
                  have hsr2 := hsr rfl (by simp only [List.length_map, htl]; omega)
                  simp only [List.length_map, htl, List.drop_drop] at hsr2
                  refine ⟨m + t, B2, d2, l ++ (U.take t).map zag, a + (m1 + q), A3, c2 - q, rfl, by omega, rfl, by omega, by rw [show n - a - m1 - q = n - (a + (m1 + q)) by omega], Lib.hid ⟨hjo, ?_, hjb, ?_⟩⟩
                  · rw [show n - (a + (m1 + q)) = n - a - m1 - q by omega, ← Nat.add_assoc]; exact HRD4.out
                  · rw [hR1, hsr2, Nat.sub_add_eq]
        · have H0 := Lib.hid he
          have hgl := hstep_eq k (M - m) (ys.drop a)
          rw [hg, if_pos he] at hgl
          have hbad := hR1.trans (drun_bad l a (by omega) (by rw [hgl]; exact he))
          rw [hgl] at hbad
          have HE := Lib.hid (HUN.out er hbad he)
          have HGET := Lib.hid hget
          have hne : (er != 0) = true := by simp [he]
          clear hba hg hget hR1 hgl hbad he hdl
          go_wp2_with fail
          refine HGET.out.mono ?_
          rintro e w4 ⟨rfl, rfl⟩
          go_wp2
          go_ret2
          exact ⟨none, 0, 0, by rw [HE.out.2]; rfl, by rw [HE.out.1]; exact owns_nil _ _ _ _, hI.out.2.2.1⟩
      · obtain rfl : m = M := by omega
        have hR1 := hI.out.2.2.2
        rw [Nat.sub_self, drun_end] at hR1
        have e0 := HP.out
        rw [hR1] at e0
        by_cases hlong : a < n
        · rw [(rerr_long HQ.out rfl hlong).1, (rerr_long (l := []) HQ.out rfl hlong).2] at e0
          have E0 := Lib.hid e0
          have hpos : (0 : Int) < ((n - a : Nat) : Int) := by omega
          clear e0 hR1
          go_wp2
          go_ret2
          exact ⟨none, 0, 0, by rw [E0.out]; rfl, by rw [E0.out]; exact owns_nil _ _ _ _, hI.out.2.2.1⟩
        · rw [(rerr_ok HQ.out rfl hlong).1, (rerr_ok (l := []) HQ.out rfl hlong).2] at e0
          have E0 := Lib.hid e0
          obtain rfl : a = n := by omega
          clear e0 hR1
          go_wp2
          go_ret2
          exact ⟨A', m, c', by rw [E0.out]; rfl, by rw [E0.out]; exact hI.out.1, hI.out.2.2.1⟩
end Go.Proofs.Ytbfnaigefmdcdaa

namespace Go.Proofs.Ytbfnaigefmdcdaa
open Go.RowKit Go.Cor Go.Free

theorem hName_any (w : World) : Calls Try.prog 30 #[.agg #[]] w fun e w' => e = .returned (.string ⟨#[104, 121, 98, 114, 105, 100]⟩) ∧ Below w.heap.size w w' := by
  go_enter Try.func30, Try.ntmps30
  go_wp2
  go_ret
  exact ⟨rfl, (Below.refl _ _).alloc (Nat.le_refl _) _⟩

set_option maxRecDepth 100000 in
set_option maxHeartbeats 2000000 in
theorem awake10 (w : World) : Calls Try.prog 28 #[] w fun e w' => e = .returned (.bool true) ∧ Below w.heap.size w w' := by
  have he := hybE.c _ _ 10 10 [3, 3, 3, 3, 3, 3, 3, 3, 3, 3] (Rd.lit w 2 .i64 [3, 3, 3, 3, 3, 3, 3, 3, 3, 3]) (by intro x hx; simp at hx; subst hx; exact ⟨by decide, by decide⟩) (by decide)
  unfold EncG at he
  rw [show wrg tkAll [3, 3, 3, 3, 3, 3, 3, 3, 3, 3] = 0 by decide +kernel, show tak tkAll [3, 3, 3, 3, 3, 3, 3, 3, 3, 3] = true by decide +kernel, if_pos rfl] at he
  have HE := Lib.hid he
  have hf := fun w1 => hybE.c _ _ 2 2 [0, 1] (Rd.lit w1 2 .i64 [0, 1]) (by intro x hx; simp at hx; rcases hx with rfl | rfl <;> exact ⟨by decide, by decide⟩) (by decide)
  unfold EncG at hf
  rw [show wrg tkAll [0, 1] = 0 by decide +kernel, show tak tkAll [0, 1] = true by decide +kernel, if_pos rfl] at hf
  have HF := Lib.hid hf
  have E1 := Lib.hid (show strOfNums (hform [3, 3, 3, 3, 3, 3, 3, 3, 3, 3]) = ⟨#[3, 20, 6]⟩ by decide +kernel)
  have E2 := Lib.hid (show strOfNums (hform [0, 1]) = ⟨#[2, 3, 8, 0]⟩ by decide +kernel)
  clear he hf
  go_enter Try.func28, Try.ntmps28
  go_wp2_with fail
  refine HE.out.mono ?_
  rintro e w1 ⟨A1, m1, c1, rfl, hown, hb1⟩
  have HO1 := Lib.hid (Rd.own hown)
  have HB1 := Lib.hid (((Below.refl w.heap.size w).alloc (Nat.le_refl _) _).trans (hb1.mono (by simp)))
  clear hown hb1
  go_wp2_with fail
  refine (HF.out _).mono ?_
  rintro e w2 ⟨A2, m2, c2, rfl, hown, hb2⟩
  have HO2 := Lib.hid (Rd.own hown)
  have HO1' := Lib.hid ((HO1.out.alloc _).below hb2)
  have HB2 := Lib.hid ((HB1.out.alloc HB1.out.size _).trans (hb2.mono (by have := HB1.out.size; simp; omega)))
  clear hown hb2
  have hcv1 := conv_bytes HO1'.out 29 5 9 Try.underlying29 Try.underlying5 Try.underlying9
  rw [E1.out] at hcv1
  have hcv2 := conv_bytes (Rd.lit w2 5 .u8 [3, 20, 6]) 29 5 9 Try.underlying29 Try.underlying5 Try.underlying9
  rw [show strOfNums [3, 20, 6] = ⟨#[3, 20, 6]⟩ by decide +kernel] at hcv2
  simp only [List.map_cons, List.map_nil, List.length_cons, List.length_nil] at hcv2
  have hcv3 := conv_bytes (HO2.out.alloc (.cells #[.int .u8 3, .int .u8 20, .int .u8 6] 5)) 29 5 9 Try.underlying29 Try.underlying5 Try.underlying9
  rw [E2.out] at hcv3
  have hcv4 := conv_bytes (Rd.lit (w2.alloc (.cells #[.int .u8 3, .int .u8 20, .int .u8 6] 5)) 5 .u8 [2, 3, 8, 0]) 29 5 9 Try.underlying29 Try.underlying5 Try.underlying9
  rw [show strOfNums [2, 3, 8, 0] = ⟨#[2, 3, 8, 0]⟩ by decide +kernel] at hcv4
  simp only [List.map_cons, List.map_nil, List.length_cons, List.length_nil, World.size_alloc] at hcv4
  go_wp2
  go_ret
  exact ⟨rfl, (HB2.out.alloc HB2.out.size _).alloc (by have := HB2.out.size; simp; omega) _⟩
end Go.Proofs.Ytbfnaigefmdcdaa
