/-
  Chapter 10: the reference's Encode.
  A slice from a place on, as one equation of its run and what it reads.
-/
import Derived.Deep.CutBlock
import Derived.Test.YtbfnaigefmdcdaaG4
import Derived.Test.YtbfnaigefmdcdaaG13
import Derived.Test.YtbfnaigefmdcdaaG16
namespace Go.Cor
open Go Go.RowKit
theorem hpad_full {l : List Int} {g : Nat} (h : 8 * g ≤ l.length) : hpad (l.take (8 * g)) = l.take (8 * g) := by
  unfold hpad
  rw [List.length_take, Nat.min_eq_left h, show 8 * ((8 * g + 7) / 8) - 8 * g = 0 by omega, List.replicate_zero, List.append_nil]
theorem hpad_more {l : List Int} {g : Nat} (h : 8 * g < l.length) : hpad (l.take (8 * (g + 1))) = l.take (8 * g) ++ ((l.drop (8 * g)).take 8 ++ List.replicate (8 - (l.length - 8 * g)) 0) := by
  unfold hpad
  rw [← List.append_assoc, show 8 * (g + 1) = 8 * g + 8 by omega, List.take_add, List.length_append, List.length_take, List.length_take, List.length_drop]
  congr 2
  omega
theorem hone_pak {w : Nat} {l : List Int} (h8 : ¬ 8 ≤ same l) {g : Nat} (hg : hgr l.length l = g) (hp : 8 * (g - 1) < l.length) (hg0 : 0 < g) : htak l = min (8 * g) l.length ∧ hone w l = vput (2 * g + 1) ++ (packr w (hpad (l.take (8 * g)))).1 := by
  have ht : htak l = min (8 * g) l.length := by unfold htak; rw [if_neg h8, hg]
  refine ⟨ht, ?_⟩
  have e : l.take (min (8 * g) l.length) = l.take (8 * g) := by
    by_cases h : 8 * g ≤ l.length
    · rw [Nat.min_eq_left h]
    · rw [Nat.min_eq_right (by omega), List.take_of_length_le (Nat.le_refl _), List.take_of_length_le (by omega)]
  unfold hone
  rw [if_neg h8, ht, e, hput, if_neg (by omega), List.length_take, show (min (8 * g) l.length + 7) / 8 = g by omega]
theorem hone_run {w : Nat} {l : List Int} (h8 : 8 ≤ same l) : htak l = same l ∧ hone w l = vput (2 * same l) ++ leb (l[0]?.getD 0).toNat (octets w) := by
  refine ⟨by unfold htak; rw [if_pos h8], ?_⟩
  unfold hone
  rw [if_pos h8, hput, if_pos (by omega)]
  cases l with
  | nil => rfl
  | cons x r => simp
theorem hgr_step {f : Nat} {l : List Int} (h : l ≠ []) (h8 : same l < 8) : hgr (f + 1) l = hgr f (l.drop 8) + 1 := by
  rw [hgr, if_neg (by simp [h]; omega)]
theorem addr_inj {b o b' o' : Nat} (h : some (Addr.mk b o none) = some (Addr.mk b' o' none)) : b = b' ∧ o = o' := by
  injection h with h; injection h with h1 h2; exact ⟨h1, h2⟩
theorem hgr_stop {f : Nat} {l : List Int} (h : l = [] ∨ 8 ≤ same l) : hgr f l = 0 := by
  cases f with
  | zero => rfl
  | succ f => rw [hgr, if_pos h]
end Go.Cor
namespace Go.Proofs.Ytbfnaigefmdcdaa
open Go.RowKit Go.Cor Go.Free

set_option maxRecDepth 100000 in
set_option maxHeartbeats 8000000 in
theorem refHEncode_any (A : Option Addr) (n c : Nat) (xs : List Int) (w : World) (h : Rd w .i64 A n c xs) (hi : In .i64 xs) (hn : n ≤ 1100) :
    Calls Try.prog 29 #[.slice A n c] w (RetRow w.heap.size 5 .u8 w (hform xs)) := by
  have hlen := h.len
  have hz := fun w h => refZigs_any A n c xs w h hi (by omega)
  have hzl : (xs.map zig).length = n := by simp [hlen]
  have hmb := most_bd (zigs_u64 hi)
  have hfit := most_fit (zigs_fit xs)
  have hzu : In .u64 (xs.map zig) := fun x hx => zigs_u64 hi x hx
  have hform_eq : hform xs = most (xs.map zig) :: hrest (most (xs.map zig)).toNat (xs.map zig) := rfl
  obtain ⟨zs, hzs⟩ : ∃ zs, xs.map zig = zs := ⟨_, rfl⟩
  rw [hzs] at hz hzl hmb hfit hform_eq hzu
  obtain ⟨k, hke⟩ := Int.eq_ofNat_of_zero_le hmb.1
  have hk64 : k ≤ 64 := by omega
  rw [hke] at hform_eq hfit
  rw [Int.toNat_natCast] at hform_eq hfit
  have HZ := Lib.hid hz
  have HM := Lib.hid (fun A n c w h hn => refMost_any A n c zs w h hn hzu)
  rw [hke] at HM
  have HF := Lib.hid hform_eq
  have HL := Lib.hid hzl
  have HFIT := Lib.hid (And.intro hfit hzu)
  have H := Lib.hid h
  have ek : IntKind.u8.wrap (k : Int) = (k : Int) := wrapu8_in _ (by omega) (by omega)
  clear h hi hlen hz hzs hmb hfit hke hform_eq hzl hzu
  go_enter Try.func29, Try.ntmps29
  go_wp2_with fail
  refine (HZ.out w H.out).mono ?_
  rintro e w1 ⟨A1, n1, c1, rfl, ho1, hb1⟩
  obtain rfl : n1 = n := by have h1 := row_len ho1; have := HL.out; omega
  have HO1 := Lib.hid (Rd.own ho1)
  have HB1 := Lib.hid hb1
  clear ho1 hb1
  go_wp2_with fail
  refine (HM.out _ _ _ w1 HO1.out (by omega)).mono ?_
  rintro e w2 ⟨rfl, rfl⟩
  go_wp2_with fail
  have hro : Owns (w1.alloc (.cells #[.int .u8 (k : Int)] 5)) w1.heap.size 5 .u8 (some ⟨w1.heap.size, 0, none⟩) 1 1 [(k : Int)] := owns_lit1 (Nat.le_refl _)
  have HRO := Lib.hid hro
  have HBO := Lib.hid ((Below.refl w1.heap.size w1).alloc (Nat.le_refl _) (.cells #[.int .u8 (k : Int)] 5))
  clear hro
  go_loopg [5, 6] n1 (fun gg v5 v6 wr => ∃ at_ : Nat, v6 = .int .i64 at_ ∧ at_ ≤ n1 ∧ gg = n1 - at_ ∧ ∃ (A' : Option Addr) (m' c' : Nat) (pre : List Int), v5 = .slice A' m' c' ∧ Hid (Owns wr w1.heap.size 5 .u8 A' m' c' pre ∧ Below w1.heap.size w1 wr ∧ hform xs = pre ++ hrest k (zs.drop at_) ∧ m' ≤ 17 * at_ + 1 + (if at_ < n1 then 0 else 66)))
  case atStart => exact ⟨0, rfl, by omega, by omega, _, 1, 1, [(k : Int)], rfl, Lib.hid ⟨HRO.out, HBO.out, by rw [HF.out]; rfl, by split <;> omega⟩⟩
  case round =>
    obtain ⟨at_, rfl, hat, rfl, A', m', c', pre, rfl, hI⟩ := hrel
    obtain ⟨wo, rfl⟩ : ∃ wo, wo = wr := ⟨_, rfl⟩
    by_cases hlt : at_ < n1
    · have hrd := HO1.out.below hI.out.2.1
      have hrun := refRun_any A1 n1 c1 zs at_ wo hrd (by omega) hlt
      have hm' : m' ≤ 17 * at_ + 1 := by have := hI.out.2.2.2; rw [if_pos hlt] at this; omega
      have hl0 : (zs.drop at_).length = n1 - at_ := by rw [List.length_drop, HL.out]
      have hne : zs.drop at_ ≠ [] := fun e => by rw [e] at hl0; simp at hl0; omega
      have hstep := hrest_step k hne
      have hsl := same_le (zs.drop at_)
      have hff := HFIT.out.1.drop at_
      obtain ⟨l, hle⟩ : ∃ l, zs.drop at_ = l := ⟨_, rfl⟩
      rw [hle] at hrun hl0 hne hstep hsl hff
      have hfeq := hI.out.2.2.1
      rw [hle, hstep] at hfeq
      obtain ⟨s, hs⟩ : ∃ s, same l = s := ⟨_, rfl⟩
      rw [hs] at hrun hsl
      have HRUN := Lib.hid hrun
      have HLE := Lib.hid (And.intro hle (And.intro hl0 hne))
      have HFE := Lib.hid hfeq
      have HS := Lib.hid hs
      have HFF := Lib.hid hff
      have hs11 : s ≤ 1100 := by omega
      have hsn : at_ + s ≤ n1 := by omega
      obtain ⟨b1, o1, rfl, _, _⟩ := HO1.out.get (by omega)
      clear hrun hle hl0 hne hstep hff hfeq hs hrd
      by_cases h8 : 8 ≤ s
      · have hd8 : decide ((8 : Int) ≤ (s : Int)) = true := by simp; omega
        have hv := fun w => refVPut_any (2 * s) w (by omega)
        rw [show ((2 * s : Nat) : Int) = 2 * (s : Int) by omega] at hv
        have hvl := vput_len_u64 (2 * s) (by omega)
        obtain ⟨ht, hone⟩ := hone_run (w := k) (l := l) (by rw [HS.out]; exact h8)
        have hfe := HFE.out
        rw [hone, ht, HS.out] at hfe
        have HFE2 := Lib.hid hfe
        have HV := Lib.hid hv
        have HVL := Lib.hid hvl
        have hx0 : l[0]?.getD 0 = zs[at_]?.getD 0 := by rw [← HLE.out.1]; simp
        have hxf := HFIT.out.1.get at_
        have hxu := HFIT.out.2 (zs[at_]?.getD 0) (by rw [List.getElem?_eq_getElem (by have := HL.out; omega)]; exact List.getElem_mem _)
        obtain ⟨x, hx⟩ := Int.eq_ofNat_of_zero_le hxf.1
        rw [hx] at hx0 hxu
        have hxu2 := hxu.2
        have HX := Lib.hid hx
        have HX2 := Lib.hid (show (l[0]?.getD 0).toNat = x by rw [hx0]; rfl)
        have hpp := fun w => refPut_any x (octets k) w hxu2 (by unfold octets; omega)
        rw [show ((octets k : Nat) : Int) = ((k : Int) + 7) / 8 by unfold octets; omega] at hpp
        have HP := Lib.hid hpp
        clear hv hvl ht hone hfe HFE hx0 hxf hx hpp hxu
        go_wp2_with fail
        refine HRUN.out.mono ?_
        rintro e w3 ⟨rfl, hb3⟩
        have HB3 := Lib.hid (hI.out.2.1.trans (hb3.mono hI.out.2.1.size))
        have HO3 := Lib.hid (Owns.below hI.out.1 hb3)
        clear hb3
        go_wp2_with fail
        refine (HV.out _).mono ?_
        rintro e w4 ⟨A4, m4, c4, rfl, ho4, hb4⟩
        have hm4 : m4 ≤ 10 := by have := row_len ho4; have := HVL.out; omega
        have HR4 := Lib.hid (Rd.own ho4)
        have HO4 := Lib.hid (Owns.below HO3.out hb4)
        have HB4 := Lib.hid (HB3.out.trans (hb4.mono HB3.out.size))
        clear ho4 hb4
        go_wp2_with (at_builtin; refine wpList_append_r rfl rfl elemU8 HO4.out rfl (Rd.toV HR4.out) rfl ints_one (by omega) (by omega) HB4.out.size ?_; intro A5 c5 w5 hown hg _; have hb5 := below_grown HB4.out HO4.out hg HB4.out.size; obtain ⟨b', o', e', hbl5, hc5⟩ := (HO1.out.below hb5).get (by omega); obtain ⟨e1, e2⟩ := addr_inj e'; subst e1 e2; have hcell := hc5 at_ hlt; rw [List.getD_eq_getElem?_getD, HX.out] at hcell; have HB5 := Lib.hid hb5; have HO5 := Lib.hid (owns_app hown); clear hown hg hb5 hc5 e')
        refine (HP.out _).mono ?_
        rintro e w6 ⟨A6, m6, c6, rfl, ho6, hb6⟩
        have hm6 : m6 ≤ 8 := by have h1 := row_len ho6; rw [leb_len] at h1; unfold octets at h1; omega
        have HR6 := Lib.hid (Rd.own ho6)
        have HO6 := Lib.hid (Owns.below HO5.out hb6)
        have HB6 := Lib.hid (HB5.out.trans (hb6.mono HB5.out.size))
        clear ho6 hb6
        go_wp2_with (at_builtin; refine wpList_append_r rfl rfl elemU8 HO6.out rfl (Rd.toV HR6.out) rfl ints_one (by omega) (by omega) HB6.out.size ?_; intro A7 c7 w7 hown hg _)
        go_roundg (n1 - (at_ + s))
        case measure => omega
        case rel =>
          refine ⟨at_ + s, by go_num, by omega, rfl, A7, m' + m4 + m6, c7, pre ++ vput (2 * s) ++ leb x (octets k), rfl, Lib.hid ⟨owns_app hown, below_grown HB6.out HO6.out hg HB6.out.size, ?_, by split <;> omega⟩⟩
          rw [HFE2.out, HX2.out]
          simp [List.append_assoc, ← HLE.out.1, List.drop_drop]
      · have hd8 : decide ((8 : Int) ≤ (s : Int)) = false := by simp; omega
        go_wp2_with fail
        refine HRUN.out.mono ?_
        rintro e w3 ⟨rfl, hb3⟩
        have HB3 := Lib.hid (hI.out.2.1.trans (hb3.mono hI.out.2.1.size))
        have HO3 := Lib.hid (Owns.below hI.out.1 hb3)
        clear hb3 HRUN
        have hln : l.length = n1 - at_ := HLE.out.2.1
        have HLN := Lib.hid hln
        have hl0 : 0 < l.length := by omega
        go_wp2_with fail
        go_loopg [6, 8] (n1 - at_) (fun gg v6 v8 wr2 => ∃ (a2 q : Nat) (A8 : Option Addr) (c8 : Nat), v6 = .int .i64 a2 ∧ at_ ≤ a2 ∧ a2 ≤ n1 ∧ gg = n1 - a2 ∧ v8 = .slice A8 q c8 ∧ q ≤ 1107 ∧ Hid (∃ g, q = 8 * g ∧ a2 = min (at_ + q) n1 ∧ 8 * (g - 1) < l.length ∧ Owns wr2 w3.heap.size 45 .u64 A8 q c8 (hpad (l.take q)) ∧ Below w3.heap.size w3 wr2 ∧ hgr l.length l = g + hgr (l.length - g) (l.drop q)))
        case atStart => exact ⟨at_, 0, none, 0, rfl, by omega, by omega, rfl, rfl, by omega, Lib.hid ⟨0, rfl, by omega, by omega, by rw [List.take_zero, show hpad [] = [] by decide]; exact owns_nil _ _ _ _, Below.refl _ _, by simp⟩⟩
        case round =>
          obtain ⟨a2, q, A8, c8, rfl, ha2, ha2n, rfl, rfl, hq, hJ⟩ := hrel
          obtain ⟨wq, rfl⟩ : ∃ wq, wq = wr := ⟨_, rfl⟩
          obtain ⟨d, hd⟩ : ∃ d, (decide (a2 < n1) && (decide (q = 0) || decide (same (zs.drop a2) < 8))) = d := ⟨_, rfl⟩
          have HD := Lib.hid hd
          clear hd
          go_upto_region 12 with fail
          go_cut [61] from 47 to 81 (fun v61 wx => v61 = .bool d ∧ Hid (Below wq.heap.size wq wx))
          case first =>
            by_cases hlt2 : a2 < n1
            · have hrun := refRun_any (some ⟨b1, o1, none⟩) n1 c1 zs a2 wq (HO1.out.below (HB3.out.trans (by obtain ⟨_, _, _, _, _, hb, _⟩ := hJ.out; exact hb.mono HB3.out.size))) (by omega) hlt2
              obtain ⟨s2, hs2⟩ : ∃ s2, same (zs.drop a2) = s2 := ⟨_, rfl⟩
              have hd := HD.out
              rw [hs2] at hrun hd
              have HRUN := Lib.hid hrun
              have hd1 : decide ((a2 : Int) < (n1 : Int)) = true := by simp; omega
              clear hrun hs2
              by_cases hq0 : q = 0
              · subst hq0
                obtain rfl : d = true := by simpa [hlt2] using hd.symm
                clear hd
                go_wp2_with fail
                go_meet
                exact ⟨rfl, Lib.hid (Below.refl _ _)⟩
              · have hq1 : ((q : Int) == 0) = false := by simp; omega
                by_cases h82 : s2 < 8
                · have hd2 : decide ((s2 : Int) < 8) = true := by simp; omega
                  obtain rfl : d = true := by simpa [hlt2, h82] using hd.symm
                  clear hd
                  go_wp2_with fail
                  refine HRUN.out.mono ?_
                  rintro e w4 ⟨rfl, hb4⟩
                  have HB4 := Lib.hid hb4
                  clear hb4
                  go_wp2_with fail
                  go_meet
                  exact ⟨rfl, HB4⟩
                · have hd2 : decide ((s2 : Int) < 8) = false := by simp; omega
                  obtain rfl : d = false := by simpa [hlt2, h82, hq0] using hd.symm
                  clear hd
                  go_wp2_with fail
                  refine HRUN.out.mono ?_
                  rintro e w4 ⟨rfl, hb4⟩
                  have HB4 := Lib.hid hb4
                  clear hb4
                  go_wp2_with fail
                  go_meet
                  exact ⟨rfl, HB4⟩
            · have hd1 : decide ((a2 : Int) < (n1 : Int)) = false := by simp; omega
              have hd := HD.out
              obtain rfl : d = false := by simpa [hlt2] using hd.symm
              clear hd
              go_wp2_with fail
              go_meet
              exact ⟨rfl, Lib.hid (Below.refl _ _)⟩
          case rest =>
            obtain ⟨rfl, hcut⟩ := hcut
            cases d with
            | true =>
              obtain ⟨g, hqg, ha2e, hgl, ho8, hb8, hgr⟩ := hJ.out
              have hd := HD.out
              simp only [Bool.and_eq_true, Bool.or_eq_true, decide_eq_true_eq] at hd
              have haq : a2 = at_ + q := by omega
              have hql : q < l.length := by omega
              have hld : zs.drop a2 = l.drop q := by rw [← HLE.out.1, List.drop_drop, haq]
              have hsm : same (l.drop q) < 8 := by
                rcases hd.2 with h0 | h0
                · subst h0; rw [List.drop_zero, HS.out]; omega
                · rwa [hld] at h0
              have hdn : l.drop q ≠ [] := fun e => by have := congrArg List.length e; rw [List.length_drop] at this; simp at this; omega
              rw [show l.length - g = (l.length - (g + 1)) + 1 by omega, hgr_step hdn hsm, List.drop_drop] at hgr
              have hP : hpad (l.take q) = l.take q := by rw [hqg]; exact hpad_full (by omega)
              have hM : hpad (l.take (q + 8)) = l.take q ++ ((l.drop q).take 8 ++ List.replicate (8 - (l.length - q)) 0) := by
                have := hpad_more (l := l) (g := g) (by omega)
                rw [show 8 * (g + 1) = q + 8 by omega, ← hqg] at this; exact this
              rw [hP] at ho8
              have HO8 := Lib.hid (Owns.below ho8 hcut.out)
              have HB8 := Lib.hid (hb8.trans (hcut.out.mono hb8.size))
              have HGR := Lib.hid (And.intro hgr (And.intro hM hqg))
              have HAQ := Lib.hid haq
              have HD2 := Lib.hid hd.1
              clear hd hqg ha2e ho8 hb8 hgr haq hld hsm hdn hP hM HD
              go_wp2_with fail
              go_loopg [6, 8, 9] 8 (fun gg v6 v8 v9 wr => ∃ (j a3 q3 : Nat) (A9 : Option Addr) (c9 : Nat), v9 = .int .i64 j ∧ j ≤ 8 ∧ gg = 8 - j ∧ v6 = .int .i64 a3 ∧ a2 ≤ a3 ∧ a3 ≤ n1 ∧ v8 = .slice A9 q3 c9 ∧ q3 ≤ q + 8 ∧ Hid (q3 = q + j ∧ a3 = min (a2 + j) n1 ∧ Owns wr w3.heap.size 45 .u64 A9 q3 c9 (l.take q ++ ((l.drop q).take j ++ List.replicate (j - (l.length - q)) 0)) ∧ Below w3.heap.size w3 wr))
              case atStart => exact ⟨0, a2, q, A8, c8, rfl, by omega, rfl, rfl, by omega, by omega, rfl, by omega, Lib.hid ⟨rfl, by omega, by simpa using HO8.out, HB8.out⟩⟩
              case round =>
                obtain ⟨j, a3, q3, A9, c9, rfl, hj, rfl, rfl, ha3, ha3n, rfl, hq3, hT⟩ := hrel
                obtain ⟨hq3e, ha3e, ho9, hb9⟩ := hT.out
                have hldl : (l.drop q).length = l.length - q := by rw [List.length_drop]
                by_cases hj8 : j < 8
                · by_cases hin : a3 < n1
                  · have hjl : j < (l.drop q).length := by have := HAQ.out; omega
                    have hb19 : Below w1.heap.size w1 wr := HB3.out.trans (hb9.mono HB3.out.size)
                    obtain ⟨b', o', e', hbl5, hc5⟩ := (HO1.out.below hb19).get (by omega)
                    obtain ⟨e1, e2⟩ := addr_inj e'
                    subst e1 e2
                    have hcell := hc5 a3 hin
                    have hxe : (l.drop q)[j]?.getD 0 = zs[a3]?.getD 0 := by rw [← HLE.out.1, List.drop_drop, List.getElem?_drop]; congr 2; have := HAQ.out; omega
                    rw [List.getD_eq_getElem?_getD, ← hxe] at hcell
                    have ht := take_snoc hjl
                    obtain ⟨x, hx⟩ : ∃ x, (l.drop q)[j]?.getD 0 = x := ⟨_, rfl⟩
                    rw [hx] at hcell ht
                    have HT := Lib.hid (And.intro ht (And.intro hq3e (And.intro ha3e (And.intro hldl hjl))))
                    have HO9 := Lib.hid ho9
                    have HB9 := Lib.hid hb9
                    clear ht hq3e ha3e hldl hjl ho9 hb9 hb19 hc5 e' hxe hx hT
                    go_wp2_with (at_builtin; refine wpList_append_r rfl rfl elemU64 (HO9.out.alloc _) rfl (RdV.one (Box.new _ _ _)) rfl one_one (by omega) (by omega) (by have := HB9.out.size; simp; omega) ?_; intro A10 c10 w10 hown hg _)
                    have HB10 := Lib.hid (below_grown (HB9.out.alloc HB9.out.size _) (HO9.out.alloc _) hg (by have := HB9.out.size; simp; omega))
                    have HO10 := Lib.hid (owns_snoc hown)
                    clear hown hg
                    go_roundg (8 - (j + 1))
                    case measure => omega
                    case rel =>
                      obtain ⟨ht, hq3e, ha3e, hldl, hjl⟩ := HT.out
                      refine ⟨j + 1, a3 + 1, q3 + 1, A10, c10, by go_num, by omega, rfl, by go_num, by omega, by omega, rfl, by omega, Lib.hid ⟨by omega, by omega, ?_, HB10.out⟩⟩
                      rw [ht]
                      have := HO10.out
                      rw [show j - (l.length - q) = 0 by omega, List.replicate_zero, List.append_nil] at this
                      rw [show j + 1 - (l.length - q) = 0 by omega, List.replicate_zero, List.append_nil, ← List.append_assoc]
                      exact this
                  · have hjl : (l.drop q).length ≤ j := by have := HAQ.out; omega
                    have HT := Lib.hid (And.intro hq3e (And.intro ha3e (And.intro hldl hjl)))
                    have HO9 := Lib.hid ho9
                    have HB9 := Lib.hid hb9
                    clear hq3e ha3e hldl hjl ho9 hb9 hT
                    go_wp2_with (at_builtin; refine wpList_append_r rfl rfl elemU64 (HO9.out.alloc _) rfl (RdV.one (Box.new _ _ _)) rfl one_one (by omega) (by omega) (by have := HB9.out.size; simp; omega) ?_; intro A10 c10 w10 hown hg _)
                    have HB10 := Lib.hid (below_grown (HB9.out.alloc HB9.out.size _) (HO9.out.alloc _) hg (by have := HB9.out.size; simp; omega))
                    have HO10 := Lib.hid (owns_snoc hown)
                    clear hown hg
                    go_roundg (8 - (j + 1))
                    case measure => omega
                    case rel =>
                      obtain ⟨hq3e, ha3e, hldl, hjl⟩ := HT.out
                      refine ⟨j + 1, a3, q3 + 1, A10, c10, by go_num, by omega, rfl, rfl, by omega, by omega, rfl, by omega, Lib.hid ⟨by omega, by omega, ?_, HB10.out⟩⟩
                      have := HO10.out
                      rw [List.take_of_length_le hjl, List.append_assoc, List.append_assoc, ← List.replicate_succ'] at this
                      rw [List.take_of_length_le (show (l.drop q).length ≤ j + 1 by omega), show j + 1 - (l.length - q) = j - (l.length - q) + 1 by omega]
                      exact this
                · obtain rfl : j = 8 := by omega
                  have HO9 := Lib.hid ho9
                  have HB9 := Lib.hid hb9
                  have HT := Lib.hid (And.intro hq3e ha3e)
                  have hlt3 : a2 < a3 := by have h2 := HD2.out; omega
                  clear hq3e ha3e hldl ho9 hb9 hT
                  go_wp2_with fail
                  go_roundg (n1 - a3)
                  case measure => omega
                  case rel =>
                    obtain ⟨hgr, hM, hqg⟩ := HGR.out
                    obtain rfl : q3 = q + 8 := HT.out.1
                    refine ⟨a3, q + 8, A9, c9, rfl, by omega, by omega, rfl, rfl, by have := HAQ.out; omega, Lib.hid ⟨g + 1, by omega, by have h1 := HT.out.2; have h2 := HAQ.out; omega, by omega, by rw [hM]; exact HO9.out, HB9.out, by rw [hgr]; omega⟩⟩
            | false =>
              obtain ⟨g, hqg, ha2e, hgl, ho8, hb8, hgr⟩ := hJ.out
              have hd := HD.out
              have hld : zs.drop a2 = l.drop q := by
                by_cases h : at_ + q ≤ n1
                · rw [← HLE.out.1, List.drop_drop, show a2 = at_ + q by omega]
                · rw [List.drop_of_length_le (by have := HL.out; omega), List.drop_of_length_le (by omega)]
              have hstop : l.drop q = [] ∨ 8 ≤ same (l.drop q) := by
                by_cases h : a2 < n1
                · right; rw [← hld]; simp [h] at hd; omega
                · left; exact List.drop_of_length_le (by omega)
              have hg0 : 0 < g := by
                rcases Nat.eq_zero_or_pos g with h0 | h0
                · subst h0
                  obtain rfl : q = 0 := hqg
                  simp at hd; omega
                · exact h0
              rw [hgr_stop hstop, Nat.add_zero] at hgr
              obtain ⟨ht, hone⟩ := hone_pak (w := k) (l := l) (by rw [HS.out]; exact h8) hgr hgl hg0
              have hfe := HFE.out
              rw [hone, ht, ← hqg] at hfe
              have hfp := (HFF.out.take q).pad
              have hup : In .u64 (hpad (l.take q)) := by
                intro x hx
                have h1 := hfp x hx
                have h2 : (2 : Nat) ^ k ≤ 2 ^ 64 := pow_mono2 hk64
                have h3 : (2 : Nat) ^ 64 = 18446744073709551616 := by decide
                exact ⟨h1.1, by omega⟩
              have hpk : (packr k (hpad (l.take q))).1.length ≤ 8 * q := by
                unfold packr
                split
                · simp
                · have hol := row_len ho8
                  have : q * k ≤ q * 64 := Nat.mul_le_mul_left _ hk64
                  simp only [packed_len, hol]; unfold octets; omega
              have ho8' := Owns.below ho8 hcut.out
              have hrp := fun w h => refPack_any A8 q c8 (hpad (l.take q)) k w h hup hk64 hfp
              obtain ⟨pp, hpp⟩ : ∃ pp, packr k (hpad (l.take q)) = pp := ⟨_, rfl⟩
              rw [hpp] at hfe hpk hrp
              have hv := fun w => refVPut_any (2 * g + 1) w (by omega)
              rw [show ((2 * g + 1 : Nat) : Int) = (q : Int) / 4 + 1 by omega] at hv
              have hvl := vput_len_u64 (2 * g + 1) (by omega)
              have HV := Lib.hid (And.intro hv hvl)
              have HRP := Lib.hid hrp
              have HFE2 := Lib.hid hfe
              have HO8 := Lib.hid (Rd.own ho8')
              have HN8 := Lib.hid (show ∀ b o, A8 = some ⟨b, o, none⟩ → w3.heap.size ≤ b from fun b o e => by subst e; exact (ho8.lt b rfl).1)
              have HB8 := Lib.hid (HB3.out.trans ((hb8.trans (hcut.out.mono hb8.size)).mono HB3.out.size))
              have HOB := Lib.hid (Owns.below (Owns.below HO3.out hb8) hcut.out)
              have HA := Lib.hid (And.intro ha2e (And.intro hqg (And.intro hg0 hld)))
              have hq8 : q ≤ l.length + 7 := by omega
              have haa : at_ < a2 := by omega
              clear hd hqg ha2e hgl ho8 hb8 hgr hld hstop hg0 ht hone hfe hfp hup ho8' hrp hpp hv hvl HD hJ
              go_wp2_with fail
              refine (HV.out.1 _).mono ?_
              rintro e w4 ⟨A4, m4, c4, rfl, ho4, hb4⟩
              have hm4 : m4 ≤ 10 := by have := row_len ho4; have := HV.out.2; omega
              have HR4 := Lib.hid (Rd.own ho4)
              have HO4 := Lib.hid (Owns.below HOB.out hb4)
              have HB4 := Lib.hid (HB8.out.trans (hb4.mono HB8.out.size))
              have HR8 := Lib.hid (HO8.out.below hb4)
              clear ho4 hb4
              go_wp2_with (at_builtin; refine wpList_append_r rfl rfl elemU8 HO4.out rfl (Rd.toV HR4.out) rfl ints_one (by omega) (by omega) HB4.out.size ?_; intro A5 c5 w5 hown hg _)
              have hb5 := below_grown HB4.out HO4.out hg HB4.out.size
              have HB5 := Lib.hid hb5
              have HO5 := Lib.hid (owns_app hown)
              have HR5 := Lib.hid (HR8.out.keep hg.size fun b hb ⟨o, ho⟩ => hg.block b hb fun e => by have h1 := HN8.out b o ho; have h2 := (HO3.out.lt b e.symm).2; omega)
              clear hown hg hb5
              refine (HRP.out _ HR5.out).mono ?_
              rintro e w6 ⟨A6, m6, c6, rfl, ho6, hb6⟩
              have hm6 : m6 ≤ 8 * q := by have := row_len ho6; omega
              have HR6 := Lib.hid (Rd.own ho6)
              have HO6 := Lib.hid (Owns.below HO5.out hb6)
              have HB6 := Lib.hid (HB5.out.trans (hb6.mono HB5.out.size))
              clear ho6 hb6
              go_wp2_with (at_builtin; refine wpList_append_r rfl rfl elemU8 HO6.out rfl (Rd.toV HR6.out) rfl ints_one (by omega) (by omega) HB6.out.size ?_; intro A7 c7 w7 hown hg _)
              go_roundg (n1 - a2)
              case measure => omega
              case rel =>
                refine ⟨a2, rfl, by omega, rfl, A7, m' + m4 + m6, c7, pre ++ vput (2 * g + 1) ++ pp.1, rfl, Lib.hid ⟨owns_app hown, below_grown HB6.out HO6.out hg HB6.out.size, ?_, ?_⟩⟩
                · rw [HFE2.out, HA.out.2.2.2]
                  have hdd : l.drop (min q l.length) = l.drop q := by
                    by_cases h : q ≤ l.length
                    · rw [Nat.min_eq_left h]
                    · rw [Nat.min_eq_right (by omega), List.drop_of_length_le (Nat.le_refl _), List.drop_of_length_le (by omega)]
                  rw [hdd]
                  simp [List.append_assoc]
                · obtain ⟨h1, h2, h3, _⟩ := HA.out
                  split <;> omega
    · obtain rfl : at_ = n1 := by omega
      have hm' : m' ≤ 17 * at_ + 67 := by have := hI.out.2.2.2; rw [if_neg (by omega)] at this; omega
      have hl0 : zs.drop at_ = [] := List.drop_of_length_le (by have := HL.out; omega)
      have hfe := hI.out.2.2.1
      rw [hl0, hrest_nil, List.append_nil] at hfe
      have HFE := Lib.hid hfe
      clear hl0 hfe
      go_wp2
      go_ret
      exact ⟨A', m', c', rfl, by rw [HFE.out]; exact owns_weak hI.out.1 HB1.out.size, HB1.out.trans (hI.out.2.1.mono HB1.out.size)⟩
end Go.Proofs.Ytbfnaigefmdcdaa

namespace Go.Cor
open Go Go.RowKit
theorem sl_from {P : Program} {w0 : World} {t e : TypeId} {z : Value} {bytes : Nat} (ht : ElemT P t e z 1 bytes) {k : IntKind} {A : Option Addr} {n c : Nat} {xs : List Int} (hr : Rd w0 k A n c xs) {l : Nat} (hl : l ≤ n) (kl : IntKind) :
    ∃ A', (∀ w : World, (Instr.sliceAt t (.slice A n c) (some (.int kl l)) none none).run P w = .ok (.slice A' (n - l) (c - l)) w) ∧ Rd w0 k A' (n - l) (c - l) (xs.drop l) :=
  ⟨_, fun w => by rw [run_l ht A n c hl kl, Nat.mul_one], hr.tail hl⟩
end Go.Cor
