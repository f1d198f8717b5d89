/-
  Chapter 10: the reference's Decode.
  Chapter 10: Name; awake.
-/
import Derived.Test.YtbfnaigefmdcdaaG17
namespace Go.Cor
theorem nums_take : ∀ {b : List Int}, By b → ∀ q, nums (b.take q) = nums b % 2 ^ (8 * q)
  | [], _, q => by simp [nums_nil]
  | x :: r, h, 0 => by rw [List.take_zero, nums_nil, Nat.mul_zero, Nat.pow_zero, Nat.mod_one]
  | x :: r, h, q + 1 => by
    have hr : By r := fun y hy => h y (by simp [hy])
    have hx := h x (by simp)
    rw [List.take_succ_cons, nums_cons (r := r.take q) (fun y hy => by rcases List.mem_cons.1 hy with rfl | hy; exact hx; exact hr y (List.mem_of_mem_take hy)), nums_cons h, nums_take hr q,
      show 8 * (q + 1) = 8 + 8 * q by omega, Nat.pow_add, Nat.mod_mul]
    have h8 : (2 : Nat) ^ 8 = 256 := by decide
    rw [h8]
    have e1 : (x.toNat + 256 * nums r) % 256 = x.toNat := by omega
    have e2 : (x.toNat + 256 * nums r) / 256 = nums r := by omega
    rw [e1, e2]
theorem unp_get {k n V i : Nat} (h : i < n) : (unp k n V)[i]?.getD 0 = ((V / 2 ^ (k * i) % 2 ^ k : Nat) : Int) := by
  unfold unp; rw [List.getElem?_map, List.getElem?_range h]; rfl
end Go.Cor
namespace Go.Proofs.Ytbfnaigefmdcdaa
open Go.RowKit Go.Cor Go.Free

set_option maxRecDepth 100000 in
set_option maxHeartbeats 8000000 in
theorem refHDecode_any (w : World) (A : Option Addr) (n c : Nat) (ys : List Int) (N : Int) (h : Rd w .u8 A n c ys) (hby : By ys) (hn : n ≤ 100000) :
    Calls Try.prog 32 #[.slice A n c, .int .i64 N] w (DecG w.heap.size w hdec ys N) := by
  have hlen := h.len
  have hbk := refBlock_any N
  obtain ⟨q, hq⟩ : ∃ q, blk N = q := ⟨_, rfl⟩
  have hP : hdec ys N = (rlist N n (hrun N.toNat ys).2.1 (hrun N.toNat ys).2.2 (hrun N.toNat ys).1, rerr N n (hrun N.toNat ys).2.1 (hrun N.toNat ys).2.2) := by unfold hdec decOf; rw [hlen]
  rw [hq] at hbk
  have HBK := Lib.hid hbk
  have H := Lib.hid h
  have HBY := Lib.hid hby
  have HLEN := Lib.hid hlen
  cases q with
  | false =>
    have HP := Lib.hid (show hdec ys N = ([], 7) by rw [hP, (rerr_blk hq).1, (rerr_blk (l := []) hq).2])
    clear h hby hlen hbk hq hP
    go_enter Try.func32, Try.ntmps32
    go_wp2_with fail
    refine (HBK.out w).mono ?_
    rintro e w' ⟨rfl, rfl⟩
    go_wp2
    go_ret2
    exact ⟨none, 0, 0, by rw [HP.out]; rfl, by rw [HP.out]; exact owns_nil _ _ _ _, Below.refl _ _⟩
  | true =>
    have hN := of_decide_eq_true hq
    obtain ⟨M, rfl⟩ := Int.eq_ofNat_of_zero_le (show 0 ≤ N by omega)
    have hM : M ≤ 1024 := by omega
    have hM0 : 0 < M := by omega
    rw [show ((M : Int)).toNat = M from rfl] at hP
    have hbad : ∀ e : Int, hrun M ys = ([], 0, e) → e ≠ 0 → hdec ys M = ([], e) := by
      intro e he h0; rw [hP, he, (rerr_err hq h0).1, (rerr_err (l := []) hq h0).2]
    by_cases hx0 : ys = []
    · have hn0 : n = 0 := by rw [← hlen, hx0]; rfl
      have HP := Lib.hid (hbad 1 (by unfold hrun; rw [if_pos hx0]) (by decide))
      clear h hby hlen hbk hq hP hN hbad hx0
      subst hn0
      go_enter Try.func32, Try.ntmps32
      go_wp2_with fail
      refine (HBK.out w).mono ?_
      rintro e w' ⟨rfl, rfl⟩
      go_wp2
      go_ret2
      exact ⟨none, 0, 0, by rw [HP.out]; rfl, by rw [HP.out]; exact owns_nil _ _ _ _, Below.refl _ _⟩
    have hnp : 0 < n := by rw [← hlen]; exact List.length_pos_iff.2 hx0
    obtain ⟨b0, o0, rfl, hbl0, hc0⟩ := h.get hnp
    have hcell := hc0 0 hnp
    rw [List.getD_eq_getElem?_getD] at hcell
    have hkx := (head_one hby hx0).2
    have hx8 := hby (ys[0]?.getD 0) (by rw [List.getElem?_eq_getElem (by omega)]; exact List.getElem_mem _)
    have hR : hrun M ys = if 64 < (ys[0]?.getD 0).toNat then ([], 0, 6) else dlift [] 1 (drun (hstep (ys[0]?.getD 0).toNat) M (ys.drop 1)) := by unfold hrun; rw [if_neg hx0]
    obtain ⟨k, hk⟩ := Int.eq_ofNat_of_zero_le hx8.1
    rw [hk, Int.toNat_natCast] at hR
    rw [hk] at hcell hx8
    have hk255 : k ≤ 255 := by omega
    rw [Nat.add_zero] at hcell
    by_cases hk64 : 64 < k
    · have HP := Lib.hid (hbad 6 (by rw [hR, if_pos hk64]) (by decide))
      clear h hby hlen hbk hq hP hN hbad hx0 hc0 hkx hk hR hx8
      go_enter Try.func32, Try.ntmps32
      go_wp2_with fail
      refine (HBK.out w).mono ?_
      rintro e w' ⟨rfl, rfl⟩
      go_wp2
      go_ret2
      exact ⟨none, 0, 0, by rw [HP.out]; rfl, by rw [HP.out]; exact owns_nil _ _ _ _, Below.refl _ _⟩
    rw [if_neg hk64] at hR
    obtain ⟨R, hRe⟩ : ∃ R, hrun M ys = R := ⟨_, rfl⟩
    rw [hRe] at hR hP hbad
    have HR := Lib.hid hR
    have HBAD := Lib.hid hbad
    have HP := Lib.hid hP
    have HQ := Lib.hid hq
    clear h hby hlen hbk hq hP hN hbad hx0 hc0 hkx hk hR hx8 hRe
    go_enter Try.func32, Try.ntmps32
    go_wp2_with fail
    refine (HBK.out w).mono ?_
    rintro e w' ⟨rfl, rfl⟩
    go_wp2_with (refine wpList_slice_l (o := ⟨some 30, _, _, _, _, _⟩) rfl rfl elemU8 H.out rfl (kl := .i64) (l := 1) rfl (by omega) ?_; intro A1 c1 hrd1; have HRD1 := Lib.hid hrd1; clear hrd1 hcell)
    have hk2 : k ≤ 64 := by omega
    have HUN := Lib.hid (show ∀ e : Int, R = ([], 0, e) → e ≠ 0 → (hdec ys M).1 = [] ∧ (hdec ys M).2 = e from fun e h1 h2 => by rw [HBAD.out e h1 h2]; exact ⟨rfl, rfl⟩)
    clear HBAD
    go_loopg [0, 7] M (fun g v0 v7 wr => ∃ (m : Nat) (A' : Option Addr) (c' : Nat) (l : List Int) (a : Nat) (A0 : Option Addr) (c0 : Nat), v7 = .slice A' m c' ∧ m ≤ M ∧ g = M - m ∧ a ≤ n ∧ v0 = .slice A0 (n - a) c0 ∧ Hid (Owns wr w.heap.size 2 .i64 A' m c' l ∧ Rd w .u8 A0 (n - a) c0 (ys.drop a) ∧ Below w.heap.size w wr ∧ R = dlift l a (drun (hstep k) (M - m) (ys.drop a))))
    case atStart => exact ⟨0, none, 0, [], 1, A1, c1, rfl, by omega, rfl, by omega, rfl, Lib.hid ⟨owns_nil _ _ _ _, HRD1.out, Below.refl _ _, HR.out⟩⟩
    case round =>
      obtain ⟨m, A', c', l, a, A0, c0, rfl, hm, rfl, han, rfl, hI⟩ := hrel
      obtain ⟨wo, rfl⟩ : ∃ wo, wo = wr := ⟨_, rfl⟩
      have hdl : (ys.drop a).length = n - a := by rw [List.length_drop, HLEN.out]
      by_cases hlt : m < M
      · have hba := HBY.out.drop a
        have hR1 := hI.out.2.2.2
        have hget := refGet_any A0 (n - a) c0 (ys.drop a) wo (hI.out.2.1.below hI.out.2.2.1) hba (by omega)
        obtain ⟨g, hg⟩ : ∃ g, vget 0 (ys.drop a) = g := ⟨_, rfl⟩
        rw [hg] at hget
        obtain ⟨v, mm, er⟩ := g
        by_cases he : er = 0
        · subst he
          have hgg := zrun_get hba (by rw [hg])
          rw [hg, hdl] at hgg
          dsimp only at hgg
          obtain ⟨m1, rfl⟩ := Int.eq_ofNat_of_zero_le (show 0 ≤ mm by have := hgg.2.2.1; omega)
          obtain ⟨hd0, rfl⟩ := Int.eq_ofNat_of_zero_le hgg.2.2.2.1
          simp only [Int.toNat_natCast] at hgg
          obtain ⟨hg1, hg2, _, _, hg5⟩ := hgg
          have hst := hstep_get k (M - m) hg
          rw [List.drop_drop] at hst
          have hok := hstep_ok (lack := M - m) hk2 hba (by omega)
          rw [hst] at hok
          have hbad := drun_bad (step := hstep k) l a (lack := M - m) (b := ys.drop a) (by omega)
          rw [hst] at hbad
          have hsr := drun_step (step := hstep k) l a (lack := M - m) (b := ys.drop a) (by omega)
          rw [hst] at hsr
          obtain ⟨h, hh⟩ : ∃ h, hd0 / 2 = h := ⟨_, rfl⟩
          have hhi : (hd0 : Int) / 2 = (h : Int) := by omega
          have HST := Lib.hid (And.intro hok (And.intro hbad (And.intro hsr hR1)))
          have HGET := Lib.hid hget
          have HH := Lib.hid hh
          have hhb : h ≤ 9223372036854775807 := by omega
          clear hba hg hget hR1 hst hok hbad hsr hh hdl
          have hlb : (ys.drop (a + m1)).length = n - a - m1 := by rw [List.length_drop, HLEN.out]; omega
          have hby2 := HBY.out.drop (a + m1)
          have HLB := Lib.hid (And.intro hlb hby2)
          clear hlb hby2
          go_wp2_with fail
          refine HGET.out.mono ?_
          rintro e w4 ⟨rfl, rfl⟩
          go_upto_region 17 with (refine wpList_slice_l (o := ⟨some 46, _, _, _, _, _⟩) rfl rfl elemU8 hI.out.2.1 rfl (kl := .i64) (l := m1) rfl hg2 ?_; intro A2 c2 hrd2; rw [List.drop_drop] at hrd2; have HRD2 := Lib.hid hrd2; clear hrd2)
          by_cases h1 : hd0 ≤ 1
          · have h10 : ((h : Int) == 0) = true := by have := HH.out; simp; omega
            go_wp2_with fail
            go_ret2
            obtain ⟨_, hbad, _, hR1⟩ := HST.out
            rw [hbody, if_pos h1] at hbad
            obtain ⟨e1, e2⟩ := HUN.out 7 (hR1.trans (hbad (by decide))) (by decide)
            exact ⟨none, 0, 0, by rw [e2]; rfl, by rw [e1]; exact owns_nil _ _ _ _, hI.out.2.2.1⟩
          have h10 : ((h : Int) == 0) = false := by have := HH.out; simp; omega
          go_upto_region 19 with fail
          by_cases h2 : hd0 % 2 = 0
          · have hp : ((hd0 : Int) % 2 == 0) = true := by simp; omega
            go_upto_region 20 with fail
            by_cases h3 : M - m < h
            · have hd3 : decide ((M : Int) - (m : Int) < (h : Int)) = true := by simp; omega
              go_wp2_with fail
              go_ret2
              obtain ⟨_, hbad, _, hR1⟩ := HST.out
              rw [hbody, if_neg h1, if_pos h2, HH.out, if_pos h3] at hbad
              obtain ⟨e1, e2⟩ := HUN.out 7 (hR1.trans (hbad (by decide))) (by decide)
              exact ⟨none, 0, 0, by rw [e2]; rfl, by rw [e1]; exact owns_nil _ _ _ _, hI.out.2.2.1⟩
            have hd3 : decide ((M : Int) - (m : Int) < (h : Int)) = false := by simp; omega
            obtain ⟨q, hq⟩ : ∃ q, octets k = q := ⟨_, rfl⟩
            have hqi : ((k : Int) + 7) / 8 = (q : Int) := by rw [← hq]; unfold octets; omega
            have hq8 : q ≤ 8 := by rw [← hq]; unfold octets; omega
            have HQE := Lib.hid hq
            clear hq
            go_upto_region 22 with fail
            by_cases h4 : n - a - m1 < q
            · have hd4 : decide (n - a - m1 < q) = true := by simp; omega
              go_wp2_with fail
              go_ret2
              obtain ⟨_, hbad, _, hR1⟩ := HST.out
              rw [hbody, if_neg h1, if_pos h2, HH.out, if_neg h3, HLB.out.1, HQE.out, if_pos h4] at hbad
              obtain ⟨e1, e2⟩ := HUN.out 1 (hR1.trans (hbad (by decide))) (by decide)
              exact ⟨none, 0, 0, by rw [e2]; rfl, by rw [e1]; exact owns_nil _ _ _ _, hI.out.2.2.1⟩
            have hd4 : decide (n - a - m1 < q) = false := by simp; omega
            have hnl := nums_lt (HLB.out.2.take q)
            have hne := nums_eq (HLB.out.2.take q)
            have hnt : ((ys.drop (a + m1)).take q).length = q := by rw [List.length_take, HLB.out.1]; omega
            have hrn := fun A c w h => refNumber_any A q c ((ys.drop (a + m1)).take q) w h (HLB.out.2.take q) hq8
            rw [← hne] at hrn
            have h256 : (256 : Nat) ^ q ≤ 256 ^ 8 := Nat.pow_le_pow_right (by decide) hq8
            have h2568 : (256 : Nat) ^ 8 = 18446744073709551616 := by decide
            rw [hnt] at hnl
            obtain ⟨v, hv⟩ : ∃ v, nums ((ys.drop (a + m1)).take q) = v := ⟨_, rfl⟩
            rw [hv] at hnl hrn
            have hv64 : (v : Int) ≤ 18446744073709551615 := by omega
            have hrf := fun w => refFits_any v k hk2 hv64 w
            have HRN := Lib.hid (And.intro hrn hrf)
            have HV := Lib.hid hv
            clear hnl hne hnt hrn h256 h2568 hv hrf
            go_upto_region 24 with fail
            have hcap := HRD2.out.cap
            go_wp2_with fail
            refine (HRN.out.1 _ _ _ ((HRD2.out.take (m := q) (by omega)).below hI.out.2.2.1)).mono ?_
            rintro e w5 ⟨rfl, rfl⟩
            go_wp2_with fail
            refine (HRN.out.2 _).mono ?_
            rintro e w5 ⟨rfl, rfl⟩
            by_cases h5 : 2 ^ k ≤ v
            · have hd5 : decide (v < 2 ^ k) = false := decide_eq_false (by omega)
              rw [hd5]
              go_wp2_with fail
              go_ret2
              obtain ⟨_, hbad, _, hR1⟩ := HST.out
              rw [hbody, if_neg h1, if_pos h2, HH.out, if_neg h3, HLB.out.1, HQE.out, if_neg h4, HV.out, if_pos h5] at hbad
              obtain ⟨e1, e2⟩ := HUN.out 4 (hR1.trans (hbad (by decide))) (by decide)
              exact ⟨none, 0, 0, by rw [e2]; rfl, by rw [e1]; exact owns_nil _ _ _ _, hI.out.2.2.1⟩
            have hd5 : decide (v < 2 ^ k) = true := decide_eq_true (by omega)
            have hz := fun w => refZag_any (v : Int) w (by omega) hv64
            obtain ⟨z, hze⟩ : ∃ z, zag (v : Int) = z := ⟨_, rfl⟩
            rw [hze] at hz
            have HZ := Lib.hid (And.intro hz hze)
            rw [hd5]
            clear hz hze hd5
            obtain ⟨A3, hsl, hrd3⟩ := sl_from elemU8 HRD2.out (l := q) (by omega) .i64
            rw [List.drop_drop] at hrd3
            have HRD4 := Lib.hid hrd3
            clear hrd3
            go_wp2_with fail
            rw [hqi]
            clear hqi
            go_loopg [7, 14] h (fun g v7 v14 wr => ∃ i : Nat, v14 = .int .u64 i ∧ i ≤ h ∧ g = h - i ∧ ∃ A2 c2, v7 = .slice A2 (m + i) c2 ∧ Hid (Owns wr w.heap.size 2 .i64 A2 (m + i) c2 (l ++ List.replicate i z) ∧ Below w.heap.size w wr))
            case atStart => exact ⟨0, rfl, by omega, by omega, A', c', rfl, Lib.hid ⟨by simpa using hI.out.1, hI.out.2.2.1⟩⟩
            case round =>
              obtain ⟨i, rfl, hi, rfl, A4, c4, rfl, hJ⟩ := hrel
              by_cases hlt2 : i < h
              · have hdi : decide (i < h) = true := by simp; omega
                go_wp2_with fail
                refine (HZ.out.1 _).mono ?_
                rintro e w6 ⟨rfl, rfl⟩
                go_wp2_with (at_builtin; refine wpList_append_r rfl rfl elemI64 (hJ.out.1.alloc _) rfl (RdV.one (Box.new _ _ _)) rfl one_one (by omega) (by omega) (by have := hJ.out.2.size; simp; omega) ?_; intro A5 c5 w7 hown hg _)
                have HB7 := Lib.hid (below_grown (hJ.out.2.alloc hJ.out.2.size _) (hJ.out.1.alloc _) hg (by have := hJ.out.2.size; simp; omega))
                have HO7 := Lib.hid (owns_snoc hown)
                clear hown hg
                go_roundg (h - (i + 1))
                case measure => omega
                case rel => exact ⟨i + 1, by go_num, by omega, rfl, A5, c5, rfl, Lib.hid ⟨by rw [List.replicate_succ', ← List.append_assoc]; exact HO7.out, HB7.out⟩⟩
              · obtain rfl : i = h := by omega
                have hdi : decide (i < i) = false := by simp
                go_wp2_with fail
                go_roundg (M - (m + i))
                case measure => have := HH.out; omega
                case rel =>
                  obtain ⟨_, _, hsr, hR1⟩ := HST.out
                  rw [hbody, if_neg h1, if_pos h2, HH.out, if_neg h3, HLB.out.1, HQE.out, if_neg h4, HV.out, if_neg h5, HZ.out.2] at hsr
                  have hsr2 := hsr rfl (by have := HH.out; simp; omega)
                  simp only [List.length_replicate, List.drop_drop] at hsr2
                  refine ⟨m + i, A4, c4, l ++ List.replicate i z, a + (m1 + q), A3, c2 - q, rfl, by omega, rfl, by omega, by rw [show n - a - m1 - q = n - (a + (m1 + q)) by omega], Lib.hid ⟨hJ.out.1, ?_, hJ.out.2, ?_⟩⟩
                  · rw [show n - (a + (m1 + q)) = n - a - m1 - q by omega, ← Nat.add_assoc]; exact HRD4.out
                  · rw [hR1, hsr2, Nat.sub_add_eq]
          · have hp : ((hd0 : Int) % 2 == 0) = false := by simp; omega
            obtain ⟨G, hG⟩ : ∃ G, (M - m + 7) / 8 = G := ⟨_, rfl⟩
            have hGi : ((M : Int) - (m : Int) + 7) / 8 = (G : Int) := by omega
            have hG8 : G ≤ 128 := by omega
            have HG := Lib.hid hG
            clear hG
            go_upto_region 32 with fail
            by_cases h3 : G < h
            · have hd3 : decide (G < h) = true := by simp; omega
              go_wp2_with fail
              go_ret2
              obtain ⟨_, hbad, _, hR1⟩ := HST.out
              rw [hbody, if_neg h1, if_neg h2, HH.out, HG.out, if_pos h3] at hbad
              obtain ⟨e1, e2⟩ := HUN.out 7 (hR1.trans (hbad (by decide))) (by decide)
              exact ⟨none, 0, 0, by rw [e2]; rfl, by rw [e1]; exact owns_nil _ _ _ _, hI.out.2.2.1⟩
            have hd3 : decide (G < h) = false := by simp; omega
            have hh8 : h ≤ 128 := by omega
            have hhk : h * k ≤ 128 * 64 := Nat.mul_le_mul hh8 hk2
            obtain ⟨q, hq⟩ : ∃ q, h * k = q := ⟨_, rfl⟩
            have hqi : (h : Int) * (k : Int) = (q : Int) := by rw [← hq]; simp
            rw [hq] at hhk
            have HQE := Lib.hid hq
            clear hq
            go_upto_region 34 with fail
            by_cases h4 : n - a - m1 < q
            · have hd4 : decide (n - a - m1 < q) = true := by simp; omega
              go_wp2_with fail
              go_ret2
              obtain ⟨_, hbad, _, hR1⟩ := HST.out
              rw [hbody, if_neg h1, if_neg h2, HH.out, HG.out, if_neg h3, HLB.out.1, HQE.out, if_pos h4] at hbad
              obtain ⟨e1, e2⟩ := HUN.out 1 (hR1.trans (hbad (by decide))) (by decide)
              exact ⟨none, 0, 0, by rw [e2]; rfl, by rw [e1]; exact owns_nil _ _ _ _, hI.out.2.2.1⟩
            have hd4 : decide (n - a - m1 < q) = false := by simp; omega
            have hue : unp k (8 * h) (nums ((ys.drop (a + m1)).take q)) = unp k (8 * h) (nums (ys.drop (a + m1))) := by
              rw [nums_take HLB.out.2]
              refine unp_mod _ _ _ _ ?_
              rw [← HQE.out, Nat.mul_comm k, Nat.mul_assoc]
              exact Nat.le_refl _
            have hul := unp_len k (8 * h) (nums (ys.drop (a + m1)))
            have hug := fun i h' => unp_get (k := k) (n := 8 * h) (V := nums (ys.drop (a + m1))) (i := i) h'
            have huf := unp_fit k (8 * h) (nums (ys.drop (a + m1)))
            obtain ⟨U, hU⟩ : ∃ U, unp k (8 * h) (nums (ys.drop (a + m1))) = U := ⟨_, rfl⟩
            rw [hU] at hue hul hug huf
            have HU := Lib.hid (And.intro hue (And.intro hul (And.intro hug huf)))
            clear hue hul hug huf hU
            go_wp2_with fail
            rw [hGi]
            have HQI := Lib.hid hqi
            clear hqi hGi
            go_loopg [7, 15] (8 * h) (fun g v7 v15 wr => ∃ (i t : Nat) (B2 : Option Addr) (d2 : Nat), v15 = .int .i64 i ∧ i ≤ 8 * h ∧ g = 8 * h - i ∧ v7 = .slice B2 (m + t) d2 ∧ t ≤ M - m ∧ Hid (t = min i (M - m) ∧ Owns wr w.heap.size 2 .i64 B2 (m + t) d2 (l ++ (U.take t).map zag) ∧ Below w.heap.size w wr ∧ ∀ j, M - m ≤ j → j < i → U[j]?.getD 0 = 0))
            case atStart => exact ⟨0, 0, A', c', rfl, by omega, rfl, rfl, by omega, Lib.hid ⟨by omega, by simpa using hI.out.1, hI.out.2.2.1, fun j h1 h2 => by omega⟩⟩
            case round =>
              obtain ⟨i, t, B2, d2, rfl, hi, rfl, rfl, ht, hJ⟩ := hrel
              obtain ⟨wi, rfl⟩ : ∃ wi, wi = wr := ⟨_, rfl⟩
              by_cases hi8 : i < 8 * h
              · have hik : (i + 1) * k ≤ 8 * h * k := Nat.mul_le_mul_right k hi8
                rw [Nat.mul_assoc, HQE.out, Nat.add_mul, Nat.one_mul] at hik
                have hnum := refNum01_any A2 (n - a - m1) c2 (ys.drop (a + m1)) (i * k) k wi (HRD2.out.below hJ.out.2.2.1) HLB.out.2 (by omega) hk2 (by omega)
                have hxe := HU.out.2.2.1 i hi8
                rw [Nat.mul_comm k i] at hxe
                have hxm : U[i]?.getD 0 ∈ U := by rw [List.getElem?_eq_getElem (by rw [HU.out.2.1]; exact hi8)]; exact List.getElem_mem _
                have hxf := (HU.out.2.2.2 _ hxm).2
                obtain ⟨f, hf⟩ : ∃ f, i * k = f := ⟨_, rfl⟩
                have hfi : (i : Int) * (k : Int) = (f : Int) := by rw [← hf]; simp
                rw [hf] at hik hnum hxe
                obtain ⟨x, hx⟩ : ∃ x, nums (ys.drop (a + m1)) / 2 ^ f % 2 ^ k = x := ⟨_, rfl⟩
                rw [hx] at hnum hxe
                rw [hxe, Int.toNat_natCast] at hxf
                have h264 : (2 : Nat) ^ k ≤ 2 ^ 64 := pow_mono2 hk2
                have h264' : (2 : Nat) ^ 64 = 18446744073709551616 := by decide
                have hx64 : (x : Int) ≤ 18446744073709551615 := by omega
                have HNUM := Lib.hid hnum
                have HXE := Lib.hid hxe
                have hf8 : f ≤ 65536 := by omega
                clear hnum hxe hxm hxf hf hx h264 h264' hik
                go_wp2_with fail
                refine HNUM.out.mono ?_
                rintro e w6 ⟨rfl, rfl⟩
                by_cases hge : M - m ≤ i
                · have hdg : decide ((M : Int) - (m : Int) ≤ (i : Int)) = true := by simp; omega
                  by_cases hx0 : x = 0
                  · subst hx0
                    go_wp2_with fail
                    go_roundg (8 * h - (i + 1))
                    case measure => omega
                    case rel =>
                      refine ⟨i + 1, t, B2, d2, by go_num, by omega, rfl, rfl, ht, Lib.hid ⟨by have := hJ.out.1; omega, hJ.out.2.1, hJ.out.2.2.1, fun j h5 h6 => ?_⟩⟩
                      by_cases h7 : j < i
                      · exact hJ.out.2.2.2 j h5 h7
                      · rw [show j = i by omega, HXE.out]; rfl
                  · have hnx : ((x : Int) != 0) = true := by simp [hx0]
                    go_wp2_with fail
                    go_ret2
                    obtain ⟨_, hbad, _, hR1⟩ := HST.out
                    rw [hbody, if_neg h1, if_neg h2, HH.out, HG.out, if_neg h3, HLB.out.1, HQE.out, if_neg h4, HU.out.1, if_pos (any_at (t := i - (M - m)) (by rw [List.length_drop, HU.out.2.1]; omega) (by rw [List.getElem?_drop, show M - m + (i - (M - m)) = i by omega, HXE.out]; omega))] at hbad
                    obtain ⟨e1, e2⟩ := HUN.out 3 (hR1.trans (hbad (by decide))) (by decide)
                    exact ⟨none, 0, 0, by rw [e2]; rfl, by rw [e1]; exact owns_nil _ _ _ _, hJ.out.2.2.1⟩
                · have hdg : decide ((M : Int) - (m : Int) ≤ (i : Int)) = false := by simp; omega
                  have hti : t = i := by have := hJ.out.1; omega
                  have HTI := Lib.hid hti
                  have hz := fun w => refZag_any (x : Int) w (by omega) hx64
                  obtain ⟨z, hze⟩ : ∃ z, zag (x : Int) = z := ⟨_, rfl⟩
                  rw [hze] at hz
                  have HZ := Lib.hid (And.intro hz hze)
                  clear hz hze hti
                  go_wp2_with fail
                  refine (HZ.out.1 _).mono ?_
                  rintro e w6 ⟨rfl, rfl⟩
                  go_wp2_with (at_builtin; refine wpList_append_r rfl rfl elemI64 (hJ.out.2.1.alloc _) rfl (RdV.one (Box.new _ _ _)) rfl one_one (by omega) (by omega) (by have := hJ.out.2.2.1.size; simp; omega) ?_; intro A5 c5 w7 hown hg _)
                  have HB7 := Lib.hid (below_grown (hJ.out.2.2.1.alloc hJ.out.2.2.1.size _) (hJ.out.2.1.alloc _) hg (by have := hJ.out.2.2.1.size; simp; omega))
                  have HO7 := Lib.hid (owns_snoc hown)
                  clear hown hg
                  go_roundg (8 * h - (i + 1))
                  case measure => omega
                  case rel =>
                    have hti := HTI.out
                    refine ⟨i + 1, t + 1, A5, c5, by go_num, by omega, rfl, rfl, by omega, Lib.hid ⟨by omega, ?_, HB7.out, fun j h5 h6 => by omega⟩⟩
                    have e1 := map_take_snoc (l := U) (k := t) zag (by rw [HU.out.2.1]; omega)
                    have hxe := HXE.out
                    rw [← hti] at hxe
                    rw [hxe, HZ.out.2] at e1
                    rw [← e1, ← List.append_assoc]; exact HO7.out
              · obtain rfl : i = 8 * h := by omega
                obtain ⟨A3, hsl, hrd3⟩ := sl_from elemU8 HRD2.out (l := q) (by omega) .i64
                rw [List.drop_drop] at hrd3
                have HRD4 := Lib.hid hrd3
                have hht : 0 < h := by have := HH.out; omega
                have hqi := HQI.out
                clear hrd3
                go_wp2_with fail
                go_roundg (M - (m + t))
                case measure => have := hJ.out.1; omega
                case rel =>
                  obtain ⟨hte, hjo, hjb, hjz⟩ := hJ.out
                  obtain ⟨_, _, hsr, hR1⟩ := HST.out
                  have hany : (U.drop (M - m)).any (· != 0) = false := by
                    refine any_drop fun j hj => ?_
                    rw [List.length_drop, HU.out.2.1] at hj
                    rw [List.getElem?_drop]
                    exact hjz _ (by omega) (by omega)
                  have htk : U.take (M - m) = U.take t := by
                    by_cases h7 : M - m ≤ 8 * h
                    · rw [show t = M - m by omega]
                    · rw [List.take_of_length_le (by rw [HU.out.2.1]; omega), List.take_of_length_le (by rw [HU.out.2.1]; omega)]
                  have htl : (U.take t).length = t := by rw [List.length_take, HU.out.2.1]; omega
                  rw [hbody, if_neg h1, if_neg h2, HH.out, HG.out, if_neg h3, HLB.out.1, HQE.out, if_neg h4, HU.out.1, hany, if_neg (by decide), htk] at hsr
                  have hsr2 := hsr rfl (by simp only [List.length_map, htl]; omega)
                  simp only [List.length_map, htl, List.drop_drop] at hsr2
                  refine ⟨m + t, B2, d2, l ++ (U.take t).map zag, a + (m1 + q), A3, c2 - q, rfl, by omega, rfl, by omega, by rw [show n - a - m1 - q = n - (a + (m1 + q)) by omega], Lib.hid ⟨hjo, ?_, hjb, ?_⟩⟩
                  · rw [show n - (a + (m1 + q)) = n - a - m1 - q by omega, ← Nat.add_assoc]; exact HRD4.out
                  · rw [hR1, hsr2, Nat.sub_add_eq]
        · have H0 := Lib.hid he
          have hgl := hstep_eq k (M - m) (ys.drop a)
          rw [hg, if_pos he] at hgl
          have hbad := hR1.trans (drun_bad l a (by omega) (by rw [hgl]; exact he))
          rw [hgl] at hbad
          have HE := Lib.hid (HUN.out er hbad he)
          have HGET := Lib.hid hget
          have hne : (er != 0) = true := by simp [he]
          clear hba hg hget hR1 hgl hbad he hdl
          go_wp2_with fail
          refine HGET.out.mono ?_
          rintro e w4 ⟨rfl, rfl⟩
          go_wp2
          go_ret2
          exact ⟨none, 0, 0, by rw [HE.out.2]; rfl, by rw [HE.out.1]; exact owns_nil _ _ _ _, hI.out.2.2.1⟩
      · obtain rfl : m = M := by omega
        have hR1 := hI.out.2.2.2
        rw [Nat.sub_self, drun_end] at hR1
        have e0 := HP.out
        rw [hR1] at e0
        by_cases hlong : a < n
        · rw [(rerr_long HQ.out rfl hlong).1, (rerr_long (l := []) HQ.out rfl hlong).2] at e0
          have E0 := Lib.hid e0
          have hpos : (0 : Int) < ((n - a : Nat) : Int) := by omega
          clear e0 hR1
          go_wp2
          go_ret2
          exact ⟨none, 0, 0, by rw [E0.out]; rfl, by rw [E0.out]; exact owns_nil _ _ _ _, hI.out.2.2.1⟩
        · rw [(rerr_ok HQ.out rfl hlong).1, (rerr_ok (l := []) HQ.out rfl hlong).2] at e0
          have E0 := Lib.hid e0
          obtain rfl : a = n := by omega
          clear e0 hR1
          go_wp2
          go_ret2
          exact ⟨A', m, c', by rw [E0.out]; rfl, by rw [E0.out]; exact hI.out.1, hI.out.2.2.1⟩
end Go.Proofs.Ytbfnaigefmdcdaa

namespace Go.Proofs.Ytbfnaigefmdcdaa
open Go.RowKit Go.Cor Go.Free

theorem hName_any (w : World) : Calls Try.prog 30 #[.agg #[]] w fun e w' => e = .returned (.string ⟨#[104, 121, 98, 114, 105, 100]⟩) ∧ Below w.heap.size w w' := by
  go_enter Try.func30, Try.ntmps30
  go_wp2
  go_ret
  exact ⟨rfl, (Below.refl _ _).alloc (Nat.le_refl _) _⟩

set_option maxRecDepth 100000 in
set_option maxHeartbeats 2000000 in
theorem awake10 (w : World) : Calls Try.prog 28 #[] w fun e w' => e = .returned (.bool true) ∧ Below w.heap.size w w' := by
  have he := hybE.c _ _ 10 10 [3, 3, 3, 3, 3, 3, 3, 3, 3, 3] (Rd.lit w 2 .i64 [3, 3, 3, 3, 3, 3, 3, 3, 3, 3]) (by intro x hx; simp at hx; subst hx; exact ⟨by decide, by decide⟩) (by decide)
  unfold EncG at he
  rw [show wrg tkAll [3, 3, 3, 3, 3, 3, 3, 3, 3, 3] = 0 by decide +kernel, show tak tkAll [3, 3, 3, 3, 3, 3, 3, 3, 3, 3] = true by decide +kernel, if_pos rfl] at he
  have HE := Lib.hid he
  have hf := fun w1 => hybE.c _ _ 2 2 [0, 1] (Rd.lit w1 2 .i64 [0, 1]) (by intro x hx; simp at hx; rcases hx with rfl | rfl <;> exact ⟨by decide, by decide⟩) (by decide)
  unfold EncG at hf
  rw [show wrg tkAll [0, 1] = 0 by decide +kernel, show tak tkAll [0, 1] = true by decide +kernel, if_pos rfl] at hf
  have HF := Lib.hid hf
  have E1 := Lib.hid (show strOfNums (hform [3, 3, 3, 3, 3, 3, 3, 3, 3, 3]) = ⟨#[3, 20, 6]⟩ by decide +kernel)
  have E2 := Lib.hid (show strOfNums (hform [0, 1]) = ⟨#[2, 3, 8, 0]⟩ by decide +kernel)
  clear he hf
  go_enter Try.func28, Try.ntmps28
  go_wp2_with fail
  refine HE.out.mono ?_
  rintro e w1 ⟨A1, m1, c1, rfl, hown, hb1⟩
  have HO1 := Lib.hid (Rd.own hown)
  have HB1 := Lib.hid (((Below.refl w.heap.size w).alloc (Nat.le_refl _) _).trans (hb1.mono (by simp)))
  clear hown hb1
  go_wp2_with fail
  refine (HF.out _).mono ?_
  rintro e w2 ⟨A2, m2, c2, rfl, hown, hb2⟩
  have HO2 := Lib.hid (Rd.own hown)
  have HO1' := Lib.hid ((HO1.out.alloc _).below hb2)
  have HB2 := Lib.hid ((HB1.out.alloc HB1.out.size _).trans (hb2.mono (by have := HB1.out.size; simp; omega)))
  clear hown hb2
  have hcv1 := conv_bytes HO1'.out 29 5 9 Try.underlying29 Try.underlying5 Try.underlying9
  rw [E1.out] at hcv1
  have hcv2 := conv_bytes (Rd.lit w2 5 .u8 [3, 20, 6]) 29 5 9 Try.underlying29 Try.underlying5 Try.underlying9
  rw [show strOfNums [3, 20, 6] = ⟨#[3, 20, 6]⟩ by decide +kernel] at hcv2
  simp only [List.map_cons, List.map_nil, List.length_cons, List.length_nil] at hcv2
  have hcv3 := conv_bytes (HO2.out.alloc (.cells #[.int .u8 3, .int .u8 20, .int .u8 6] 5)) 29 5 9 Try.underlying29 Try.underlying5 Try.underlying9
  rw [E2.out] at hcv3
  have hcv4 := conv_bytes (Rd.lit (w2.alloc (.cells #[.int .u8 3, .int .u8 20, .int .u8 6] 5)) 5 .u8 [2, 3, 8, 0]) 29 5 9 Try.underlying29 Try.underlying5 Try.underlying9
  rw [show strOfNums [2, 3, 8, 0] = ⟨#[2, 3, 8, 0]⟩ by decide +kernel] at hcv4
  simp only [List.map_cons, List.map_nil, List.length_cons, List.length_nil, World.size_alloc] at hcv4
  go_wp2
  go_ret
  exact ⟨rfl, (HB2.out.alloc HB2.out.size _).alloc (by have := HB2.out.size; simp; omega) _⟩
end Go.Proofs.Ytbfnaigefmdcdaa
