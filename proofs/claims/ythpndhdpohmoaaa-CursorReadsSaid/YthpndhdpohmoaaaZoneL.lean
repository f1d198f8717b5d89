/-
  Chapter 25: Load.
-/
import Derived.Test.YthpndhdpohmoaaaZoneT
import Derived.Test.YthpndhdpohmoaaaGet
namespace Go.Cor
open Go Go.RowKit
theorem zload_short {ys : List Int} (h : ys.length < 4) : zload ys = ([], 1) := by unfold zload; rw [if_pos h]
/-- what Load comes to, by the run behind the count -/
theorem zload_err {ys : List Int} {M : Nat} {R : List Zn × Nat × Int} (h : ¬ ys.length < 4) (hM : (num (ys.take 4)).toNat = M) (hR : zll [] 0 (zl M (ys.drop 4)) = R) (he : R.2.2 ≠ 0) : zload ys = ([], R.2.2) := by
  unfold zload
  rw [if_neg h, hM]
  rw [zl_start] at hR
  split at hR
  · rename_i h2
    rw [if_pos h2, ← hR]
  · subst hR; exact absurd rfl he
theorem zload_ok {ys : List Int} {M : Nat} {l : List Zn} {k : Nat} (h : ¬ ys.length < 4) (hM : (num (ys.take 4)).toNat = M) (hR : zll [] 0 (zl M (ys.drop 4)) = (l, k, 0)) : zload ys = if 4 + k < ys.length then ([], 2) else (l, 0) := by
  unfold zload
  rw [if_neg h, hM]
  rw [zl_start] at hR
  split at hR
  · rename_i h2
    have := (Prod.mk.inj (Prod.mk.inj hR).2).2
    exact absurd this h2
  · rename_i h2
    have h3 := Prod.mk.inj hR
    have h4 := Prod.mk.inj h3.2
    rw [if_neg h2, h3.1, ← h4.1, Nat.zero_add]
end Go.Cor
namespace Go.Proofs.Ythpndhdpohmoaaa
open Go.RowKit Go.Cor Go.Free

def LoadR (B : Nat) (ys : List Int) (A' : Option Addr) (m c' : Nat) (w : World) : Prop := w.ownsRow B 24 4 (.slice A' m c') m (zcells (zload ys).1) ∧ (zload ys).2 = 0
def LoadS (ys : List Int) (e : Int) (_w : World) : Prop := (zload ys).2 = e ∧ (zload ys).1 = []

set_option maxRecDepth 100000 in
set_option maxHeartbeats 4000000 in
theorem load1_any (w3 : World) (b0 : Nat) (A : Option Addr) (n c : Nat) (ys : List Int) (hr : Rd w3 .u8 A n c ys) (hn : n ≤ 100000) (hby : By ys) (h0 : Box w3 b0 38 (.slice A n c)) :
    Calls Try.prog 78 #[.pointer (some ⟨b0, 0, none⟩)] w3 (Gives (fun _ => False) (LoadR w3.heap.size ys) (LoadS ys) w3) := by
  have hlen := hr.len
  have hc0 := cell_of_one h0
  have HN := Lib.hid (new_any A n c ys w3 hr hn hby)
  have HLEN := Lib.hid hlen
  have HBY := Lib.hid hby
  clear hr h0 hlen hby
  go_enter Try.func78, Try.ntmps78
  go_wp2_with fail
  refine HN.out.mono ?_
  rintro e w4 ⟨p, A1, c1, rfl, hcu, hb4, hp, _⟩
  have H4 := Lib.hid hcu
  have hplt := hcu.lt
  have HB4 := Lib.hid hb4
  have HP := Lib.hid hp
  clear hcu hb4 hp HN hc0
  by_cases hs4 : n < 4
  · have HU := Lib.hid (U32_short H4.out (by omega))
    go_wp2_with fail
    refine HU.out.mono ?_
    rintro e w5 ⟨rfl, hb5⟩
    have hz := zload_short (ys := ys) (by have := HLEN.out; omega)
    exact ⟨rfl, .inr ⟨1, by decide, rfl, by rw [LoadS, hz]; exact ⟨rfl, rfl⟩⟩, .of_below (HB4.out.trans (hb5.mono HB4.out.size))⟩
  · have hu := U32_ok H4.out (by omega)
    rw [List.drop_zero] at hu
    have hbd := num_bd (HBY.out.take 4)
    rw [List.length_take, HLEN.out, Nat.min_eq_left (by omega)] at hbd
    obtain ⟨M, hM⟩ := Int.eq_ofNat_of_zero_le hbd.1
    have hM2 : (M : Int) ≤ 4294967295 := by have := hbd.2; rw [hM] at this; simp at this; omega
    rw [hM] at hu
    have hMn : (num (ys.take 4)).toNat = M := by rw [hM]; rfl
    obtain ⟨R, hR⟩ : ∃ R, zll [] 0 (zl M (ys.drop 4)) = R := ⟨_, rfl⟩
    have HR := Lib.hid hR
    have HMN := Lib.hid hMn
    have HU := Lib.hid hu
    have HL4 := Lib.hid (show ¬ ys.length < 4 by have := HLEN.out; omega)
    clear hu hbd hM hMn hR
    go_wp2_with fail
    refine HU.out.mono ?_
    rintro e w5 ⟨rfl, hc5, hm5⟩
    have HC5 := Lib.hid hc5
    have HM5 := Lib.hid hm5
    clear hc5 hm5
    go_wp2
    go_loopw [3, 4, 9, 10, 11, 12, 13, 14, 15, 16, 17, 18, 19, 20, 21, 22, 23, 24, 25, 26, 27, 28, 29, 30, 31] (fun v3 _ v9 _ _ _ _ _ _ _ _ _ _ _ _ _ _ _ _ _ _ _ _ _ _ wr => ∃ i : Nat, v9 = .int .u32 i ∧ i ≤ M ∧ ∃ A' c', v3 = .slice A' i c' ∧ 4 + 26 * i ≤ n ∧ ∃ l, Hid (wr.ownsRow w4.heap.size 24 4 (.slice A' i c') i (zcells l) ∧ Cur wr p A1 n c1 ys (4 + 26 * i) ∧ Mod (· = p) w4 wr ∧ R = zll l (26 * i) (zl (M - i) (ys.drop (4 + 26 * i)))))
      (fun _ _ v9 _ _ _ _ _ _ _ _ _ _ _ _ _ _ _ _ _ _ _ _ _ _ _ => M - (intOf v9).toNat)
    case atStart => exact ⟨0, rfl, by omega, none, 0, rfl, by omega, [], Lib.hid ⟨World.ownsRow_nil _ _ _ _, HC5.out, HM5.out, HR.out.symm⟩⟩
    case round =>
      obtain ⟨i, rfl, hi, A', c', rfl, ha, l, hI⟩ := hrel
      by_cases hlt : i < M
      · have hR' := hI.out.2.2.2
        rw [show M - i = (M - (i + 1)) + 1 by omega] at hR'
        by_cases hsh : n < 4 + 26 * i + 26
        · -- some reading is short
          rw [zll_short _ _ _ _ (by rw [List.length_drop, HLEN.out]; omega)] at hR'
          have hz := zload_err HL4.out HMN.out HR.out (by rw [hR']; decide)
          rw [hR'] at hz
          have HZ := Lib.hid hz
          clear hR' hz
          by_cases t0 : n < 4 + 26 * i + 2
          · have HU0 := Lib.hid (U16_short hI.out.2.1 (by omega))
            go_wp2_with fail
            refine HU0.out.mono ?_
            rintro e v0 ⟨rfl, hv⟩
            exact ⟨rfl, .inr ⟨1, by decide, rfl, by rw [LoadS, HZ.out]; exact ⟨rfl, rfl⟩⟩, .of_below (HB4.out.trans ((Mod.trans hI.out.2.2.1 (.of_below hv)).below HB4.out.size fun j hj => by subst hj; exact HP.out))⟩
          · have hu := U16_ok hI.out.2.1 (by omega)
            obtain ⟨y0, hy0⟩ : ∃ y, num ((ys.drop (4 + 26 * i)).take 2) = y := ⟨_, rfl⟩
            rw [hy0] at hu
            have HV0 := Lib.hid hu
            clear hu hy0
            go_wp2_with fail
            refine HV0.out.mono ?_
            rintro e v0 ⟨rfl, hx, hy⟩
            have HX1 := Lib.hid hx
            have HY1 := Lib.hid (Mod.trans hI.out.2.2.1 hy)
            clear hx hy
            by_cases t1 : n < 4 + 26 * i + 10
            · have HU1 := Lib.hid (U64_short HX1.out (by omega))
              go_wp2_with fail
              refine HU1.out.mono ?_
              rintro e v1 ⟨rfl, hv⟩
              exact ⟨rfl, .inr ⟨1, by decide, rfl, by rw [LoadS, HZ.out]; exact ⟨rfl, rfl⟩⟩, .of_below (HB4.out.trans ((Mod.trans HY1.out (.of_below hv)).below HB4.out.size fun j hj => by subst hj; exact HP.out))⟩
            · have hu := U64_ok HX1.out (by omega)
              obtain ⟨y1, hy1⟩ : ∃ y, num ((ys.drop (4 + 26 * i + 2)).take 8) = y := ⟨_, rfl⟩
              rw [hy1] at hu
              have HV1 := Lib.hid hu
              clear hu hy1
              go_wp2_with fail
              refine HV1.out.mono ?_
              rintro e v1 ⟨rfl, hx, hy⟩
              have HX2 := Lib.hid hx
              have HY2 := Lib.hid (Mod.trans HY1.out hy)
              clear hx hy
              by_cases t2 : n < 4 + 26 * i + 18
              · have HU2 := Lib.hid (U64_short HX2.out (by omega))
                go_wp2_with fail
                refine HU2.out.mono ?_
                rintro e v2 ⟨rfl, hv⟩
                exact ⟨rfl, .inr ⟨1, by decide, rfl, by rw [LoadS, HZ.out]; exact ⟨rfl, rfl⟩⟩, .of_below (HB4.out.trans ((Mod.trans HY2.out (.of_below hv)).below HB4.out.size fun j hj => by subst hj; exact HP.out))⟩
              · have hu := U64_ok HX2.out (by omega)
                obtain ⟨y2, hy2⟩ : ∃ y, num ((ys.drop (4 + 26 * i + 2 + 8)).take 8) = y := ⟨_, rfl⟩
                rw [hy2] at hu
                have HV2 := Lib.hid hu
                clear hu hy2
                go_wp2_with fail
                refine HV2.out.mono ?_
                rintro e v2 ⟨rfl, hx, hy⟩
                have HX3 := Lib.hid hx
                have HY3 := Lib.hid (Mod.trans HY2.out hy)
                clear hx hy
                by_cases t3 : n < 4 + 26 * i + 26
                · have HU3 := Lib.hid (U64_short HX3.out (by omega))
                  go_wp2_with fail
                  refine HU3.out.mono ?_
                  rintro e v3 ⟨rfl, hv⟩
                  exact ⟨rfl, .inr ⟨1, by decide, rfl, by rw [LoadS, HZ.out]; exact ⟨rfl, rfl⟩⟩, .of_below (HB4.out.trans ((Mod.trans HY3.out (.of_below hv)).below HB4.out.size fun j hj => by subst hj; exact HP.out))⟩
                · omega
        · have hlenb : ¬ (ys.drop (4 + 26 * i)).length < 26 := by rw [List.length_drop, HLEN.out]; omega
          have hzp : zparse (ys.drop (4 + 26 * i)) = ⟨num ((ys.drop (4 + 26 * i)).take 2), w64 (num ((ys.drop (4 + 26 * i + 2)).take 8)), w64 (num ((ys.drop (4 + 26 * i + 2 + 8)).take 8)), w64 (num ((ys.drop (4 + 26 * i + 2 + 8 + 8)).take 8))⟩ := by unfold zparse; simp only [List.drop_drop]
          have hb1 := num_bd ((HBY.out.drop (4 + 26 * i)).take 2)
          rw [List.length_take, List.length_drop, HLEN.out, Nat.min_eq_left (by omega)] at hb1
          obtain ⟨z1, h1⟩ : ∃ z, num ((ys.drop (4 + 26 * i)).take 2) = z := ⟨_, rfl⟩
          obtain ⟨z2, h2⟩ : ∃ z, num ((ys.drop (4 + 26 * i + 2)).take 8) = z := ⟨_, rfl⟩
          obtain ⟨z3, h3⟩ : ∃ z, num ((ys.drop (4 + 26 * i + 2 + 8)).take 8) = z := ⟨_, rfl⟩
          obtain ⟨z4, h4⟩ : ∃ z, num ((ys.drop (4 + 26 * i + 2 + 8 + 8)).take 8) = z := ⟨_, rfl⟩
          rw [h1] at hb1
          rw [h1, h2, h3, h4] at hzp
          have hu1 := U16_ok hI.out.2.1 (by omega)
          rw [h1] at hu1
          have HU1 := Lib.hid hu1
          have HH := Lib.hid (And.intro h2 (And.intro h3 h4))
          have HZP := Lib.hid hzp
          have HLB := Lib.hid hlenb
          have HRR := Lib.hid hR'
          obtain ⟨hb10, hb11⟩ := hb1
          simp at hb11
          have e2 : IntKind.i64.wrap z2 = w64 z2 := wrapi64 z2
          have e3 : IntKind.i64.wrap z3 = w64 z3 := wrapi64 z3
          have e4 : IntKind.i64.wrap z4 = w64 z4 := wrapi64 z4
          clear hu1 h1 h2 h3 h4 hzp hlenb hR'
          go_wp2_with fail
          refine HU1.out.mono ?_
          rintro e x1 ⟨rfl, hx1, hy1⟩
          have hu2 := U64_ok hx1 (by omega)
          rw [HH.out.1] at hu2
          have HU2 := Lib.hid hu2
          have HM1 := Lib.hid (Mod.trans hI.out.2.2.1 hy1)
          have HO1 := Lib.hid (owns_keep hI.out.1 hy1 fun g hg _ => by have := (hI.out.1.lt g hg).1; omega)
          clear hu2 hx1 hy1 HU1
          go_wp2_with fail
          refine HU2.out.mono ?_
          rintro e x2 ⟨rfl, hx2, hy2⟩
          have hu3 := U64_ok hx2 (by omega)
          rw [HH.out.2.1] at hu3
          have HU3 := Lib.hid hu3
          have HM2 := Lib.hid (Mod.trans HM1.out hy2)
          have HO2 := Lib.hid (owns_keep HO1.out hy2 fun g hg _ => by have := (HO1.out.lt g hg).1; omega)
          clear hu3 hx2 hy2 HU2 HM1 HO1
          go_wp2_with fail
          refine HU3.out.mono ?_
          rintro e x3 ⟨rfl, hx3, hy3⟩
          have hu4 := U64_ok hx3 (by omega)
          rw [HH.out.2.2] at hu4
          have HU4 := Lib.hid hu4
          have HM3 := Lib.hid (Mod.trans HM2.out hy3)
          have HO3 := Lib.hid (owns_keep HO2.out hy3 fun g hg _ => by have := (HO2.out.lt g hg).1; omega)
          clear hu4 hx3 hy3 HU3 HM2 HO2
          go_wp2_with fail
          refine HU4.out.mono ?_
          rintro e x4 ⟨rfl, hx4, hy4⟩
          have HC4 := Lib.hid hx4
          have HM4 := Lib.hid (Mod.trans HM3.out hy4)
          have HO4 := Lib.hid (owns_keep HO3.out hy4 fun g hg _ => by have := (HO3.out.lt g hg).1; omega)
          clear hx4 hy4 HU4 HM3 HO3
          have hR := fun w => right_any ⟨z1, w64 z2, w64 z3, w64 z4⟩ w
          unfold zr at hR
          simp only at hR
          obtain ⟨q, hq⟩ : ∃ q, zright ⟨z1, w64 z2, w64 z3, w64 z4⟩ = q := ⟨_, rfl⟩
          rw [hq] at hR
          have HRG := Lib.hid hR
          have HQ := Lib.hid hq
          clear hR hq
          go_wp2_with fail
          refine (HRG.out _).mono ?_
          rintro e x5 ⟨rfl, hb5⟩
          have hb45 : Below x4.heap.size x4 x5 := ((Below.refl x4.heap.size x4).alloc (Nat.le_refl _) _).trans (hb5.mono (by simp))
          have hbk : Blk x5 x4.heap.size 24 #[.int .i64 z1, .int .i64 (w64 z2), .int .i64 (w64 z3), .int .i64 (w64 z4)] := Blk.keep (S := fun _ _ => True) (heap_alloc_new x4 _) (.of_below hb5) trivial
          have HBK := Lib.hid hbk
          have HC5' := Lib.hid (HC4.out.below hb45)
          have HM5' := Lib.hid (Mod.trans HM4.out (.of_below hb45))
          have HO5 := Lib.hid (owns_keep (S := fun _ _ => True) HO4.out (.of_below hb45) (fun _ _ _ => trivial))
          clear hb5 hbk hb45 HC4 HM4 HO4
          cases q with
          | false =>
            have hR' := HRR.out
            rw [zll_bad _ _ _ _ HLB.out (by rw [HZP.out]; exact HQ.out)] at hR'
            have hz := zload_err HL4.out HMN.out HR.out (by rw [hR']; decide)
            rw [hR'] at hz
            have HZ := Lib.hid hz
            clear hR' hz
            go_wp2_with fail
            refine (check_false 4 _ (by decide)).mono ?_
            rintro e x6 ⟨rfl, rfl⟩
            exact ⟨rfl, .inr ⟨4, by decide, rfl, by rw [LoadS, HZ.out]; exact ⟨rfl, rfl⟩⟩, .of_below (HB4.out.trans (HM5'.out.below HB4.out.size fun j hj => by subst hj; exact HP.out))⟩
          | true =>
            have hR' := HRR.out
            rw [zll_step _ _ _ _ HLB.out (by rw [HZP.out]; exact HQ.out), HZP.out, List.drop_drop] at hR'
            have HRN := Lib.hid hR'
            have c0 := HBK.out.cell 0
            have c1' := HBK.out.cell 1
            have c2 := HBK.out.cell 2
            have c3 := HBK.out.cell 3
            simp at c0 c1' c2 c3
            clear hR'
            go_wp2_with fail
            refine (check_true 4 _).mono ?_
            rintro e x6 ⟨rfl, rfl⟩
            go_wp2_with (at_builtin; refine wpList_append_r rfl rfl elemZ (owns_keep (S := fun _ _ => True) HO5.out (.of_below ((Below.refl _ _).alloc (Nat.le_refl _) _)) (fun _ _ _ => trivial)) rfl (RdZ.lit x5 24 ⟨z1, w64 z2, w64 z3, w64 z4⟩) rfl (zcells_one _) (by omega) (by omega) (by have := HM5'.out.size; simp; omega) ?_; intro A2 c2' w6 hown hg _)
            have hrowa := owns_keep (S := fun _ _ => True) HO5.out (.of_below ((Below.refl x5.heap.size x5).alloc (Nat.le_refl _) (.cells #[.int .i64 z1, .int .i64 (w64 z2), .int .i64 (w64 z3), .int .i64 (w64 z4)] 24))) (fun _ _ _ => trivial)
            have hgr := Cu.grown H4.out (Mod.trans HM5'.out (.alloc _ _ _)) (HC5'.out.alloc' _) hrowa (Nat.le_refl _) hg
            have hpos : 4 + 26 * i + 2 + 8 + 8 + 8 = 4 + 26 * (i + 1) := by omega
            rw [hpos] at hgr
            have HG := Lib.hid hgr
            have HOW := Lib.hid hown
            clear hgr hown hg hrowa hpos c0 c1' c2 c3
            go_roundw
            case rel =>
              refine ⟨i + 1, by go_num, by omega, A2, c2', rfl, by omega, l ++ [⟨z1, w64 z2, w64 z3, w64 z4⟩], Lib.hid ⟨?_, HG.out.1, HG.out.2, ?_⟩⟩
              rotate_left
              · have := HRN.out
                rw [show 26 * (i + 1) = 26 * i + 26 by omega, show 4 + (26 * i + 26) = 4 + 26 * i + 26 by omega]
                exact this
              · rw [zcells_snoc]; simpa [zcells, zr] using HOW.out
            case measure => simp [intOf] <;> omega
      · obtain rfl : i = M := by omega
        have hR' := hI.out.2.2.2
        rw [Nat.sub_self, zll_end] at hR'
        have hz := zload_ok HL4.out HMN.out (HR.out.trans hR')
        rw [HLEN.out] at hz
        have hcu := hI.out.2.1
        have hBl : Below w3.heap.size w3 wr := HB4.out.trans (hI.out.2.2.1.below HB4.out.size fun j hj => by subst hj; exact HP.out)
        by_cases hlong : 4 + 26 * i < n
        · rw [if_pos hlong] at hz
          have HZ := Lib.hid hz
          have HEND := Lib.hid (end_long hcu hlong)
          have HBL := Lib.hid hBl
          clear hz hcu hBl hR'
          go_wp2_with fail
          refine HEND.out.mono ?_
          rintro e w6 ⟨rfl, hb6⟩
          exact ⟨rfl, .inr ⟨2, by decide, rfl, by rw [LoadS, HZ.out]; exact ⟨rfl, rfl⟩⟩, .of_below (HBL.out.trans (hb6.mono HBL.out.size))⟩
        · rw [if_neg hlong] at hz
          have HZ := Lib.hid hz
          have HEND := Lib.hid (end_ok hcu (by omega))
          have HBL := Lib.hid hBl
          clear hz hcu hBl hR'
          go_wp2_with fail
          refine HEND.out.mono ?_
          rintro e w6 ⟨rfl, hb6⟩
          have HB6 := Lib.hid hb6
          clear hb6
          go_wp2
          go_ret
          refine ⟨.inl ⟨A', i, c', rfl, ?_, by rw [HZ.out]⟩, .of_below (HBL.out.trans (HB6.out.mono HBL.out.size))⟩
          rw [HZ.out]
          exact owns_weak (owns_keep (S := fun _ _ => True) hI.out.1 (.of_below HB6.out) (fun _ _ _ => trivial)) HB4.out.size
end Go.Proofs.Ythpndhdpohmoaaa
