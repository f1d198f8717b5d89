/-
  PlainReads: for every input the law returns true; the arguments read behind the call as they read before. No condition.
-/
import Derived.Test.YthpndhdpohmoaaaRefP
import Derived.Test.YthpndhdpohmoaaaPlainR
import Derived.Test.YthpndhdpohmoaaaPlainT
import Derived.Test.YthpndhdpohmoaaaWidS
import Derived.Test.YthpndhdpohmoaaaArr
import Derived.Deep.RegionHeld3
import Derived.Deep.CutRange
import Derived.Deep.CutBlock
import Derived.ChangeOld
namespace Go.Cor
open Go Go.RowKit
theorem Box.new' {w : World} {g : Nat} {t : TypeId} {v : Value} (h : g = w.heap.size) : Box (w.alloc (.cells #[v] t)) g t v := by subst h; exact Box.new _ _ _
theorem Box.drew {w : World} {g : Nat} {t : TypeId} {v : Value} (h : Box w g t v) : Box w.drew g t v := h
theorem Below.drew' {B : Nat} {w w' : World} (h : Below B w w') : Below B w w'.drew := ⟨h.os, h.tape, h.output, h.size, h.block⟩
end Go.Cor
namespace Go.Proofs.Ythpndhdpohmoaaa
open Go.RowKit Go.Cor Go.Free

set_option maxRecDepth 100000 in
set_option maxHeartbeats 4000000 in
theorem PlainReads_walk (W : World) (A : Option Addr) (n c : Nat) (xs : List Int) (h : Rd W .u8 A n c xs) (hi : In .u8 xs) (N : Int) (hN : Fits .i64 N) (x y z : Int) (fx : Fits .i64 x) (fy : Fits .i64 y) (fz : Fits .i64 z) :
    Calls Try.prog 8 #[.slice A n c, .int .i64 N, .agg #[.int .i64 x, .int .i64 y, .int .i64 z]] W fun e w' => e = .returned (.bool true) ∧ Below W.heap.size W w' := by
  have hmf : ∀ (fn : Fn) (first cap : Array Value) (w : World), (Instr.makeFunc fn first cap).run Try.prog w = .ok (.func fn first cap) w := fun _ _ _ _ => rfl
  have H := Lib.hid h
  clear h
  go_enter Try.func8, Try.ntmps8
  go_upto_region 1 with fail
  go_cut [7, 8, 9] from 15 to 20 (fun v7 v8 v9 wx => ∃ a b d, v7 = .pointer (some ⟨a, 0, none⟩) ∧ v8 = .pointer (some ⟨b, 0, none⟩) ∧ v9 = .pointer (some ⟨d, 0, none⟩) ∧ Hid (W.heap.size ≤ a ∧ W.heap.size ≤ b ∧ W.heap.size ≤ d ∧ Box wx a 3 (.int .i64 x) ∧ Box wx b 3 (.int .i64 y) ∧ Box wx d 3 (.int .i64 z) ∧ Below W.heap.size W wx))
  case first =>
    go_region
    all_goals (go_wp2_with fail)
    all_goals go_meet
    case rel =>
      refine ⟨_, _, _, rfl, rfl, rfl, Lib.hid ⟨by omega, by omega, by omega, ?_, ?_, ?_, ?_⟩⟩
      all_goals (repeat (first | exact Box.new' (by simp) | refine Box.drew ?_ | refine Box.alloc ?_ _ | refine Below.drew' ?_ | exact Below.refl _ _ | refine Below.alloc ?_ (by simp <;> omega) _))
    all_goals (
      refine ⟨_, _, _, rfl, rfl, rfl, Lib.hid ⟨by omega, by omega, by omega, ?_, ?_, ?_, ?_⟩⟩ <;>
      (repeat (first | exact Box.new' (by simp) | refine Box.drew ?_ | refine Box.alloc ?_ _ | refine Below.drew' ?_ | exact Below.refl _ _ | refine Below.alloc ?_ (by simp <;> omega) _)))
  case rest =>
    obtain ⟨a, b, d, rfl, rfl, rfl, hc⟩ := hcut
    have k0 := cell_of_one hc.out.2.2.2.1
    have k1 := cell_of_one hc.out.2.2.2.2.1
    have k2 := cell_of_one hc.out.2.2.2.2.2.1
    by_cases hn : 500 < n
    · go_wp2
      go_ret
      exact ⟨rfl, hc.out.2.2.2.2.2.2⟩
    by_cases hx : 100 < x
    · go_wp2
      go_ret
      exact ⟨rfl, hc.out.2.2.2.2.2.2⟩
    have hby : By xs := fun x hx => hi x hx
    obtain ⟨M, hM⟩ : ∃ M, x.toNat = M := ⟨_, rfl⟩
    obtain ⟨R, hR⟩ : ∃ R, prun y z xs M 0 [] = R := ⟨_, rfl⟩
    have eg1 : ∀ args w, (callFunc 41 args).run Try.prog w = .ok (.enter 41 args) w := enters_f Try.func41 (by kernel_rfl) rfl
    have hrd := read_any wc A n c xs (H.out.below hc.out.2.2.2.2.2.2) (by omega) hby N 41 #[.pointer (some ⟨a, 0, none⟩), .pointer (some ⟨b, 0, none⟩), .pointer (some ⟨d, 0, none⟩)] (prun y z xs x.toNat 0 []).1 (4 * x.toNat) (prun y z xs x.toNat 0 []).2 eg1
      (fun _ w4 p A1 c1 hb4 hcu hp => by
        have l0 := lt_of_block hc.out.2.2.2.1
        have l1 := lt_of_block hc.out.2.2.2.2.1
        have l2 := lt_of_block hc.out.2.2.2.2.2.1
        exact pread1 hcu (hc.out.2.2.2.1.below hb4 l0) (hc.out.2.2.2.2.1.below hb4 l1) (hc.out.2.2.2.2.2.1.below hb4 l2) (by omega) (by omega) (by omega) (by omega))
    rw [hM, hR] at hrd
    have HRD := Lib.hid hrd
    have HX := Lib.hid (And.intro hM hR)
    have HBY := Lib.hid hby
    have HLEN := Lib.hid H.out.len
    have hM100 : M ≤ 100 := by omega
    clear hrd eg1 hby hM hR
    go_wp2_with fail
    refine HRD.out.mono ?_
    rintro e w1 ⟨A1, m1, c1, rfl, ho1, hb1⟩
    have HO1 := Lib.hid (Rd.own ho1)
    have hB1 : Below W.heap.size W w1 := hc.out.2.2.2.2.2.2.trans (hb1.mono hc.out.2.2.2.2.2.2.size)
    have HBX := Lib.hid (And.intro (hc.out.2.2.2.1.below hb1 (lt_of_block hc.out.2.2.2.1)) (And.intro (hc.out.2.2.2.2.1.below hb1 (lt_of_block hc.out.2.2.2.2.1)) (hc.out.2.2.2.2.2.1.below hb1 (lt_of_block hc.out.2.2.2.2.2.1))))
    have HB1 := Lib.hid hB1
    clear ho1 hb1 hB1 hc k0 k1 k2 HRD
    go_upto_block 0 with fail
    go_cut [12, 13] from 35 to 71 (fun v12 v13 wx => ∃ A' k c' l, v12 = .int .i64 R.2 ∧ v13 = .slice A' k c' ∧ Hid (Rd wx .i64 A' k c' l ∧ Below w1.heap.size w1 wx ∧ (R.2 = 0 → k = M ∧ l = R.1)))
    case first =>
      go_wp2_with fail
      go_loopg [12, 13, 14] M (fun g v12 v13 v14 wr => ∃ i : Nat, v14 = .int .i64 i ∧ i ≤ M ∧ g = M - i ∧ ∃ A' k c' er l, v13 = .slice A' k c' ∧ v12 = .int .i64 er ∧ Hid (Owns wr w1.heap.size 2 .i64 A' k c' l ∧ Below w1.heap.size w1 wr ∧ (er = 0 → k = i ∧ prun y z xs (M - i) i l = R) ∧ (er ≠ 0 → R = ([], er))))
      case atStart => exact ⟨0, rfl, by omega, by omega, none, 0, 0, 0, [], rfl, rfl, Lib.hid ⟨owns_nil _ _ _ _, Below.refl _ _, fun _ => ⟨rfl, HX.out.2⟩, fun h => absurd rfl h⟩⟩
      case round =>
        obtain ⟨i, rfl, hi', rfl, A', k, c', er, l, rfl, rfl, hI⟩ := hrel
        have k0 := cell_of_one (HBX.out.1.below hI.out.2.1 (lt_of_block HBX.out.1))
        have k1 := cell_of_one (HBX.out.2.1.below hI.out.2.1 (lt_of_block HBX.out.2.1))
        have k2 := cell_of_one (HBX.out.2.2.below hI.out.2.1 (lt_of_block HBX.out.2.2))
        by_cases her : er = 0
        · subst her
          obtain ⟨rfl, hP⟩ := hI.out.2.2.1 rfl
          have HP := Lib.hid hP
          clear hP
          by_cases hlt : k < M
          · have hxi : decide ((k : Int) < x) = true := by have := HX.out.1; simp; omega
            obtain ⟨f, hf⟩ : ∃ f, M - k = f + 1 := ⟨M - k - 1, by omega⟩
            have HF := Lib.hid hf
            have hP := HP.out
            rw [hf] at hP
            have HP1 := Lib.hid hP
            have HO := Lib.hid hI.out.1
            have HBL := Lib.hid hI.out.2.1
            have e4 : IntKind.i64.wrap (4 * (k : Int)) = ((4 * k : Nat) : Int) := by rw [wrapi64_in _ (by omega) (by omega)]; omega
            have e5 : IntKind.i64.wrap (((4 * k : Nat) : Int) + 4) = ((4 * k + 4 : Nat) : Int) := by rw [wrapi64_in _ (by omega) (by omega)]; omega
            clear hP hf HP hI
            by_cases hthr : (k : Int) = y ∧ z ≠ 0
            · have HE := Lib.hid ((prun_thrown hthr).symm.trans HP1.out)
              obtain ⟨rfl, hz⟩ := hthr
              have hz0 : (z == 0) = false := by simpa using hz
              go_wp2_with fail
              go_roundg (M - (k + 1))
              case measure => omega
              case rel => exact ⟨k + 1, by go_num, by omega, rfl, A', k, c', z, l, rfl, rfl, Lib.hid ⟨HO.out, HBL.out, fun h => absurd h hz, fun _ => HE.out.symm⟩⟩
            have hw : ∀ (Q : Prop), ((k : Int) = y → z = 0 → Q) → (¬ (k : Int) = y → Q) → Q := fun Q a b => by
              by_cases hy : (k : Int) = y
              · exact a hy (by by_cases hz : z = 0; exact hz; exact absurd ⟨hy, hz⟩ hthr)
              · exact b hy
            by_cases hsh : n < 4 * k + 4
            · have HQ := Lib.hid ((prun_short hthr (by have := HLEN.out; omega)).symm.trans HP1.out)
              have hsb : decide ((n : Int) < ((4 * k + 4 : Nat) : Int)) = true := by simp; omega
              refine hw _ ?_ ?_
              · intro hy hz0
                subst hy hz0
                go_wp2_with fail
                go_roundg (M - (k + 1))
                case measure => omega
                case rel => exact ⟨k + 1, by go_num, by omega, rfl, A', k, c', 1, l, rfl, rfl, Lib.hid ⟨HO.out, HBL.out, fun h => absurd h (by decide), fun _ => HQ.out.symm⟩⟩
              · intro hy
                have hyb : ((k : Int) == y) = false := by simpa using hy
                go_wp2_with fail
                go_roundg (M - (k + 1))
                case measure => omega
                case rel => exact ⟨k + 1, by go_num, by omega, rfl, A', k, c', 1, l, rfl, rfl, Lib.hid ⟨HO.out, HBL.out, fun h => absurd h (by decide), fun _ => HQ.out.symm⟩⟩
            · have HQ := Lib.hid ((prun_step hthr (by have := HLEN.out; omega)).symm.trans HP1.out)
              have hsb : decide ((n : Int) < ((4 * k + 4 : Nat) : Int)) = false := by simp; omega
              have hbd := num_bd ((HBY.out.drop (4 * k)).take 4)
              rw [List.length_take, List.length_drop, HLEN.out, Nat.min_eq_left (by omega)] at hbd
              obtain ⟨v, hv⟩ : ∃ v, num ((xs.drop (4 * k)).take 4) = v := ⟨_, rfl⟩
              rw [hv] at HQ hbd
              obtain ⟨hv0, hv1⟩ := hbd
              simp at hv1
              have e2 : IntKind.i64.wrap v = v := wrapi64_in _ (by omega) (by omega)
              have HV := Lib.hid hv
              clear hv
              refine hw _ ?_ ?_
              · intro hy hz0
                subst hy hz0
                go_wp2_with ((refine wpList_slice_lh (o := ⟨some 67, _, _, _, _, _⟩) rfl rfl elemU8 ((H.out.below HB1.out).below HBL.out) rfl (kl := .i64) (kh := .i64) (l := 4 * k) (j := 4 * k + 4) rfl rfl (by omega) (by omega) ?_; intro A5 c5 hrd; rw [Nat.add_sub_cancel_left] at hrd; have HRD := Lib.hid hrd; clear hrd))
                have hRN := refNumber_any A5 4 c5 _ wr HRD.out ((HBY.out.drop _).take _) (by decide)
                rw [HV.out] at hRN
                have HRN := Lib.hid hRN
                clear hRN
                go_wp2_with fail
                refine HRN.out.mono ?_
                rintro e w2 ⟨rfl, rfl⟩
                go_wp2_with (at_builtin; refine wpList_append_r rfl rfl elemI64 (HO.out.alloc _) rfl (RdV.one (Box.new _ _ _)) rfl one_one (by omega) (by omega) (by have := HBL.out.size; simp; omega) ?_; intro A2 c2 w3 hown hg _)
                have HG := Lib.hid (below_grown (HBL.out.alloc HBL.out.size _) (HO.out.alloc _) hg (by have := HBL.out.size; simp; omega))
                have HO3 := Lib.hid (owns_snoc hown)
                clear hown hg
                go_roundg (M - (k + 1))
                case measure => omega
                case rel => exact ⟨k + 1, by go_num, by omega, rfl, A2, k + 1, c2, 0, _, rfl, rfl, Lib.hid ⟨HO3.out, HG.out, fun _ => ⟨rfl, by rw [show M - (k + 1) = f by have := HF.out; omega]; exact HQ.out⟩, fun h => absurd rfl h⟩⟩
              · intro hy
                have hyb : ((k : Int) == y) = false := by simpa using hy
                go_wp2_with ((refine wpList_slice_lh (o := ⟨some 67, _, _, _, _, _⟩) rfl rfl elemU8 ((H.out.below HB1.out).below HBL.out) rfl (kl := .i64) (kh := .i64) (l := 4 * k) (j := 4 * k + 4) rfl rfl (by omega) (by omega) ?_; intro A5 c5 hrd; rw [Nat.add_sub_cancel_left] at hrd; have HRD := Lib.hid hrd; clear hrd))
                have hRN := refNumber_any A5 4 c5 _ wr HRD.out ((HBY.out.drop _).take _) (by decide)
                rw [HV.out] at hRN
                have HRN := Lib.hid hRN
                clear hRN
                go_wp2_with fail
                refine HRN.out.mono ?_
                rintro e w2 ⟨rfl, rfl⟩
                go_wp2_with (at_builtin; refine wpList_append_r rfl rfl elemI64 (HO.out.alloc _) rfl (RdV.one (Box.new _ _ _)) rfl one_one (by omega) (by omega) (by have := HBL.out.size; simp; omega) ?_; intro A2 c2 w3 hown hg _)
                have HG := Lib.hid (below_grown (HBL.out.alloc HBL.out.size _) (HO.out.alloc _) hg (by have := HBL.out.size; simp; omega))
                have HO3 := Lib.hid (owns_snoc hown)
                clear hown hg
                go_roundg (M - (k + 1))
                case measure => omega
                case rel => exact ⟨k + 1, by go_num, by omega, rfl, A2, k + 1, c2, 0, _, rfl, rfl, Lib.hid ⟨HO3.out, HG.out, fun _ => ⟨rfl, by rw [show M - (k + 1) = f by have := HF.out; omega]; exact HQ.out⟩, fun h => absurd rfl h⟩⟩
          · obtain rfl : k = M := by omega
            have hxi : decide ((k : Int) < x) = false := by have := HX.out.1; simp; omega
            have HQ : Hid ((l, (0 : Int)) = R) := by have := HP.out; rw [Nat.sub_self] at this; exact this
            go_wp2_with fail
            go_meet
            exact ⟨A', k, c', l, by rw [← HQ.out], rfl, Lib.hid ⟨Rd.own hI.out.1, hI.out.2.1, fun _ => ⟨rfl, by rw [← HQ.out]⟩⟩⟩
        · have HQ := Lib.hid (hI.out.2.2.2 her)
          have heb : (er == 0) = false := by simpa using her
          by_cases hlt : (i : Int) < x
          · go_wp2_with fail
            go_meet
            exact ⟨A', k, c', l, by rw [HQ.out], rfl, Lib.hid ⟨Rd.own hI.out.1, hI.out.2.1, fun h => by rw [HQ.out] at h; exact absurd h her⟩⟩
          · go_wp2_with fail
            go_meet
            exact ⟨A', k, c', l, by rw [HQ.out], rfl, Lib.hid ⟨Rd.own hI.out.1, hI.out.2.1, fun h => by rw [HQ.out] at h; exact absurd h her⟩⟩
    case rest =>
      obtain ⟨A', k, c', l, rfl, rfl, hI⟩ := hcut
      obtain ⟨er, her⟩ : ∃ e, R.2 = e := ⟨_, rfl⟩
      obtain ⟨R1, hR1⟩ : ∃ e, R.1 = e := ⟨_, rfl⟩
      rw [her, hR1] at HO1 hI
      rw [her]
      have HB := Lib.hid (HB1.out.trans (hI.out.2.1.mono HB1.out.size))
      have hbk := refBlock_any N
      have hRd1 := HO1.out.below hI.out.2.1
      have hRd2 := hI.out.1
      have h3 := hI.out.2.2
      have e4 : IntKind.i64.wrap (4 * (M : Int)) = ((4 * M : Nat) : Int) := by rw [wrapi64_in _ (by omega) (by omega)]; omega
      clear her hR1 HX HBX hI HO1
      obtain ⟨q, hq⟩ : ∃ q, blk N = q := ⟨_, rfl⟩
      rw [hq] at hbk
      have HBK := Lib.hid hbk
      clear hbk
      by_cases her : er = 0
      · subst her
        obtain ⟨rfl, rfl⟩ := h3 rfl
        by_cases hk : 4 * k < n
        · have hkb : decide (((4 * k : Nat) : Int) < (n : Int)) = true := by simp; omega
          cases q with
          | false =>
            rw [(rerr_blk hq).1] at hRd1
            rw [(rerr_blk (l := l) hq).2]
            have HR1 := Lib.hid hRd1
            clear hRd1 hRd2 h3 hq
            go_wp2_with fail
            refine (HBK.out _).mono ?_
            rintro e w' ⟨rfl, rfl⟩
            go_wp2_with fail
            refine (sameI_any _ _ _ _ _ _ _ _ _ HR1.out (Rd.nilv _ _)).mono ?_
            rintro e w3 ⟨rfl, hb3⟩
            rw [decide_eq_true rfl]
            have HB3 := Lib.hid (HB.out.trans (hb3.mono HB.out.size))
            clear hb3
            go_wp2_with fail
            refine (awake07 _).mono ?_
            rintro e w4 ⟨rfl, hb4⟩
            have HB4 := Lib.hid (HB3.out.trans (hb4.mono HB3.out.size))
            clear hb4
            go_wp2
            go_ret
            exact ⟨rfl, HB4.out⟩
          | true =>
            rw [(rerr_long hq rfl hk).1] at hRd1
            rw [(rerr_long (l := l) hq rfl hk).2]
            have HR1 := Lib.hid hRd1
            clear hRd1 hRd2 h3 hq
            go_wp2_with fail
            refine (HBK.out _).mono ?_
            rintro e w' ⟨rfl, rfl⟩
            go_wp2_with fail
            refine (sameI_any _ _ _ _ _ _ _ _ _ HR1.out (Rd.nilv _ _)).mono ?_
            rintro e w3 ⟨rfl, hb3⟩
            rw [decide_eq_true rfl]
            have HB3 := Lib.hid (HB.out.trans (hb3.mono HB.out.size))
            clear hb3
            go_wp2_with fail
            refine (awake07 _).mono ?_
            rintro e w4 ⟨rfl, hb4⟩
            have HB4 := Lib.hid (HB3.out.trans (hb4.mono HB3.out.size))
            clear hb4
            go_wp2
            go_ret
            exact ⟨rfl, HB4.out⟩
        · have hkb : decide (((4 * k : Nat) : Int) < (n : Int)) = false := by simp; omega
          cases q with
          | false =>
            rw [(rerr_blk hq).1] at hRd1
            rw [(rerr_blk (l := l) hq).2]
            have HR1 := Lib.hid hRd1
            clear hRd1 hRd2 h3 hq
            go_wp2_with fail
            refine (HBK.out _).mono ?_
            rintro e w' ⟨rfl, rfl⟩
            go_wp2_with fail
            refine (sameI_any _ _ _ _ _ _ _ _ _ HR1.out (Rd.nilv _ _)).mono ?_
            rintro e w3 ⟨rfl, hb3⟩
            rw [decide_eq_true rfl]
            have HB3 := Lib.hid (HB.out.trans (hb3.mono HB.out.size))
            clear hb3
            go_wp2_with fail
            refine (awake07 _).mono ?_
            rintro e w4 ⟨rfl, hb4⟩
            have HB4 := Lib.hid (HB3.out.trans (hb4.mono HB3.out.size))
            clear hb4
            go_wp2
            go_ret
            exact ⟨rfl, HB4.out⟩
          | true =>
            rw [(rerr_ok hq rfl hk).1] at hRd1
            rw [(rerr_ok (l := l) hq rfl hk).2]
            have HR1 := Lib.hid hRd1
            have HR2 := Lib.hid hRd2
            clear hRd1 hRd2 h3 hq
            go_wp2_with fail
            refine (HBK.out _).mono ?_
            rintro e w' ⟨rfl, rfl⟩
            go_wp2_with fail
            refine (sameI_any _ _ _ _ _ _ _ _ _ HR1.out HR2.out).mono ?_
            rintro e w3 ⟨rfl, hb3⟩
            rw [decide_eq_true rfl]
            have HB3 := Lib.hid (HB.out.trans (hb3.mono HB.out.size))
            clear hb3
            go_wp2_with fail
            refine (awake07 _).mono ?_
            rintro e w4 ⟨rfl, hb4⟩
            have HB4 := Lib.hid (HB3.out.trans (hb4.mono HB3.out.size))
            clear hb4
            go_wp2
            go_ret
            exact ⟨rfl, HB4.out⟩
      · have heb : (er == 0) = false := by simpa using her
        have hen : (er != 0) = true := by simpa using her
        cases q with
        | false =>
          rw [(rerr_blk hq).1] at hRd1
          rw [(rerr_blk (l := R1) hq).2]
          have HR1 := Lib.hid hRd1
          clear hRd1 hRd2 h3 hq her
          go_wp2_with fail
          refine (HBK.out _).mono ?_
          rintro e w' ⟨rfl, rfl⟩
          go_wp2_with fail
          refine (sameI_any _ _ _ _ _ _ _ _ _ HR1.out (Rd.nilv _ _)).mono ?_
          rintro e w3 ⟨rfl, hb3⟩
          rw [decide_eq_true rfl]
          have HB3 := Lib.hid (HB.out.trans (hb3.mono HB.out.size))
          clear hb3
          go_wp2_with fail
          refine (awake07 _).mono ?_
          rintro e w4 ⟨rfl, hb4⟩
          have HB4 := Lib.hid (HB3.out.trans (hb4.mono HB3.out.size))
          clear hb4
          go_wp2
          go_ret
          exact ⟨rfl, HB4.out⟩
        | true =>
          rw [(rerr_err hq her).1] at hRd1
          rw [(rerr_err (l := R1) hq her).2]
          have HR1 := Lib.hid hRd1
          clear hRd1 hRd2 h3 hq her
          go_wp2_with fail
          refine (HBK.out _).mono ?_
          rintro e w' ⟨rfl, rfl⟩
          go_wp2_with fail
          refine (sameI_any _ _ _ _ _ _ _ _ _ HR1.out (Rd.nilv _ _)).mono ?_
          rintro e w3 ⟨rfl, hb3⟩
          rw [decide_eq_true rfl]
          have HB3 := Lib.hid (HB.out.trans (hb3.mono HB.out.size))
          clear hb3
          go_wp2_with fail
          refine (awake07 _).mono ?_
          rintro e w4 ⟨rfl, hb4⟩
          have HB4 := Lib.hid (HB3.out.trans (hb4.mono HB3.out.size))
          clear hb4
          go_wp2
          go_ret
          exact ⟨rfl, HB4.out⟩

namespace plainReads
open Go.ChangeShapes Go.WideShapes Go.ChangeAt Go.RowKit Go.Cor
set_option linter.unusedVariables false

set_option maxRecDepth 100000 in
theorem lifted (os : Os) (started : os.Started) (H : Type) (enc : TypeId × Value → H) :
    ReturnsInHanded {} Try.checked os 8 .any (Rows.plainReadsSpec.pre6 enc Try.prog Try.f8 Rows.plainReadsRow.domain false) (Rows.plainReadsSpec.post enc Try.prog Try.f8 false true false false) := by
  refine returnsInHanded_of_change (C := Try.checked) (by kernel_rfl : ownKnob Try.prog.godebug = none) started (by kernel_rfl) Try.func8
    (ChangeSpec.witness6 (enc := enc) (C := Try.checked) false ⟨#[], #[.slice none 0 0, .int .i64 0, .agg #[.int .i64 0, .int .i64 0, .int .i64 0]], []⟩ 8 (by kernel_rfl) (by kernel_rfl) (by kernel_rfl) (by kernel_rfl)) ?_
  intro W base args ds gs before hval0 hW hcnd _
  have hval : ∀ (j : Nat) t v, Try.f8.params[j]? = some t → args[j]? = some v → Value.okWide Try.prog W .any base t v := hval0
  have hW' := hW
  obtain ⟨p, q, hA0, hV, rfl, hfz, hnd⟩ := hW
  have hA : DataW.TrodAll enc Try.prog W 0 (fun _ => true) true Try.f8.params.toList args.toList ds p := hA0
  rw [Try.params8] at hA hval
  obtain ⟨v0, vs0, d0, ds0, p0, q0, hargs, rfl, rfl, h0, r0⟩ := trodAll_cons hA
  obtain ⟨v1, vs1, d1, ds1, p1, q1, rfl, rfl, rfl, h1, r1⟩ := trodAll_cons r0
  obtain ⟨v2, vs2, d2, ds2, p2, q2, rfl, rfl, rfl, h2, r2⟩ := trodAll_cons r1
  obtain ⟨rfl, rfl, rfl⟩ := trodAll_nil r2
  obtain rfl : args = #[v0, v1, v2] := by cases args; simp_all
  obtain ⟨rfl, rfl⟩ := trodVars_none hV
  obtain ⟨a0, len0, cap0, rfl⟩ := okWide_slice Try.underlying38 (hval 0 38 v0 rfl rfl)
  have k0 := h0
  have lt0 : ∀ x ∈ p0, x.block < W.heap.size := by obtain ⟨m, hm⟩ := k0; exact DataW.trod_lt m _ _ _ hm
  obtain ⟨x0, g0, b0⟩ : ∃ xs, Rd W .u8 a0 len0 cap0 xs ∧ In .u8 xs := by
    obtain ⟨fuel, hf⟩ := h0
    rcases open_ints Try.underlying38 Try.underlying5 (by kernel_rfl) hf with ⟨hcs, _⟩ | ⟨x, l, c, zs, hcs, _, hl, hm, hz, _, hcell, hwz⟩
    · simp [Value.cells] at hcs
      obtain ⟨rfl, rfl, rfl⟩ := hcs
      exact ⟨[], Rd.nilv _ _, fun _ h => by cases h⟩
    · simp [Value.cells] at hcs
      obtain ⟨rfl, rfl, rfl⟩ := hcs
      exact Rd.of_row hl hm hz hcell hwz
  obtain ⟨a1, rfl, rfl, rfl, w1⟩ := open_int Try.underlying3 (hval 1 3 v1 rfl rfl) h1
  have k2 := h2
  have lt2 : ∀ x ∈ p2, x.block < W.heap.size := by obtain ⟨m, hm⟩ := k2; exact DataW.trod_lt m _ _ _ hm
  obtain ⟨a2, b2, c2, rfl, fa2, fb2, fc2⟩ := open_arr3 Try.underlying72 Try.underlying3 (by kernel_rfl) (by kernel_rfl) (hval 2 72 v2 rfl rfl) h2
  clear hA0 hval0
  refine (PlainReads_walk W a0 len0 cap0 x0 g0 b0 a1 (fits_of_wf w1) a2 b2 c2 fa2 fb2 fc2).mono fun e W' ⟨he, bel⟩ => ?_
  subst he
  exact ⟨_, rfl, _, _, _, [], _, [], hW', trodAll_mk1 (shut_bool Try.underlying4 _), (trodAll_cons_mk (Below.trod (by kernel_rfl : laidOutB Try.prog = true) (by kernel_rfl) (of_decide_eq_true (by kernel_rfl)) k0 bel lt0) (trodAll_cons_mk (shut_int Try.underlying3 w1) (trodAll_cons_mk (Below.trod (by kernel_rfl : laidOutB Try.prog = true) (by kernel_rfl) (of_decide_eq_true (by kernel_rfl)) k2 bel lt2) trodAll_mk0))), rfl, bel.frame _, fun h => by cases h⟩

theorem proved : Rows.PlainReadsSaid :=
  OpenClaim.holds_of_wide 8 Try.f8 rfl rfl rfl rfl rfl rfl rfl ⟨rfl, rfl, rfl, rfl, rfl⟩ rfl rfl rfl rfl rfl (by kernel_rfl) Try.func8 (by kernel_rfl)
    (of_decide_eq_true (by kernel_rfl)) (by unfold Func.isWrapper; first | (rw [if_pos (by decide +kernel)]; kernel_rfl) | (rw [if_neg (by decide +kernel)]; exact ⟨rfl, rfl⟩))
    (fun os started H enc _ => lifted os started H enc)
#print axioms proved
end plainReads
end Go.Proofs.Ythpndhdpohmoaaa
