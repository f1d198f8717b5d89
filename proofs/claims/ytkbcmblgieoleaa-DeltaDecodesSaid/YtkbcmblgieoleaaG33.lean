/-
  Chapter 12: the reference's Decode.
-/
import Derived.Test.YtkbcmblgieoleaaG15
import Derived.Test.YtkbcmblgieoleaaG19
import Derived.Test.YtkbcmblgieoleaaG28
import Derived.Test.YtkbcmblgieoleaaG31
import Derived.Test.YtkbcmblgieoleaaG32
namespace Go.Cor
open Go Go.RowKit
theorem sums_snoc (f d : Int) (D : List Int) : sums f (D ++ [d]) = sums f D ++ [w64 ((sums f D)[D.length]?.getD 0 + d)] := by
  have hl : (sums f D)[D.length]?.getD 0 = w64 (f + D.sum) := by
    unfold sums
    rw [List.getElem?_map, List.getElem?_range (by omega)]
    simp [sumAt]
  rw [hl]
  unfold sums
  rw [List.length_append, List.length_singleton, List.range_succ, List.map_append]
  congr 1
  · refine List.map_congr_left fun i hi => ?_
    have hi := List.mem_range.1 hi
    unfold sumAt
    rw [List.take_append_of_le_length (by omega)]
  · simp only [List.map_cons, List.map_nil]
    unfold sumAt
    rw [List.take_of_length_le (by simp), List.sum_append, List.sum_singleton, ← Int.add_assoc]
    obtain ⟨a, ha⟩ : ∃ a, f + D.sum = a := ⟨_, rfl⟩
    rw [ha]; congr 1; unfold w64; omega
theorem backs_app (f : Int) (l m : List Int) : backs f (l ++ m) = backs f l ++ backs f m := by unfold backs; rw [List.map_append]
theorem backs_len (f : Int) (l : List Int) : (backs f l).length = l.length := by simp [backs]
theorem sums_nil (f : Int) : sums f [] = [w64 f] := by simp [sums, sumAt]
theorem add_u64 (x y : Int) : w64 (wu64 (wu64 x + wu64 y)) = w64 (x + y) := by unfold w64 wu64; omega
end Go.Cor
namespace Go.Proofs.Ytkbcmblgieoleaa
open Go.RowKit Go.Cor Go.Free

set_option maxRecDepth 100000 in
set_option maxHeartbeats 16000000 in
theorem refDDecode_any (w : World) (A : Option Addr) (n c : Nat) (ys : List Int) (N : Int) (h : Rd w .u8 A n c ys) (hby : By ys) (hn : n ≤ 100000) :
    Calls Try.prog 21 #[.slice A n c, .int .i64 N] w (DecG w.heap.size w ddec ys N) := by
  have hlen := h.len
  have hbk := refBlock_any N
  obtain ⟨q, hq⟩ : ∃ q, blk N = q := ⟨_, rfl⟩
  have hP : ddec ys N = (rlist N n (dall N.toNat ys).2.1 (dall N.toNat ys).2.2 (dall N.toNat ys).1, rerr N n (dall N.toNat ys).2.1 (dall N.toNat ys).2.2) := by unfold ddec decOf; rw [hlen]
  rw [hq] at hbk
  have HBK := Lib.hid hbk
  have H := Lib.hid h
  have HBY := Lib.hid hby
  have HLEN := Lib.hid hlen
  cases q with
  | false =>
    have HP := Lib.hid (show ddec ys N = ([], 7) by rw [hP, (rerr_blk hq).1, (rerr_blk (l := []) hq).2])
    clear h hby hlen hbk hq hP
    go_enter Try.func21, Try.ntmps21
    go_wp2_with fail
    refine (HBK.out w).mono ?_
    rintro e w' ⟨rfl, rfl⟩
    go_wp2
    go_ret2
    exact ⟨none, 0, 0, by rw [HP.out]; rfl, by rw [HP.out]; exact owns_nil _ _ _ _, Below.refl _ _⟩
  | true =>
    have hN := of_decide_eq_true hq
    obtain ⟨N, rfl⟩ := Int.eq_ofNat_of_zero_le (show 0 ≤ N by omega)
    have hN2 : N ≤ 1024 := by omega
    have hN0 : 0 < N := by omega
    rw [show ((N : Int)).toNat = N from rfl] at hP
    have hbad : ∀ e : Int, dall N ys = ([], 0, e) → e ≠ 0 → ddec ys N = ([], e) := by
      intro e he h0; rw [hP, he, (rerr_err hq h0).1, (rerr_err (l := []) hq h0).2]
    have hget := refGet_any A n c ys w h hby (by omega)
    by_cases he : (vget 0 ys).2.2 = 0
    rotate_left
    · have hR : dall N ys = ([], 0, (vget 0 ys).2.2) := by unfold dall; rw [if_neg (by omega), if_pos he]
      have hPP := hbad _ hR he
      obtain ⟨g, hg⟩ : ∃ g, vget 0 ys = g := ⟨_, rfl⟩
      rw [hg] at hget hPP he
      obtain ⟨v, m, er⟩ := g
      simp only at he hPP
      have hne : (er != 0) = true := by simp [he]
      have HP := Lib.hid hPP
      have HG := Lib.hid hget
      clear h hby hlen hbk hq hP hN hbad hget hR hg hPP
      go_enter Try.func21, Try.ntmps21
      go_wp2_with fail
      refine (HBK.out w).mono ?_
      rintro e w' ⟨rfl, rfl⟩
      go_wp2_with fail
      refine HG.out.mono ?_
      rintro e w' ⟨rfl, rfl⟩
      go_wp2
      go_ret2
      exact ⟨none, 0, 0, by rw [HP.out]; rfl, by rw [HP.out]; exact owns_nil _ _ _ _, Below.refl _ _⟩
    obtain ⟨v, m0, hv, hm1, hm2, hv64⟩ := vget_shape hby he
    have hR := dall_get hN0 hv
    rw [hv] at hget
    rw [hlen] at hm2
    obtain ⟨R, hRe⟩ : ∃ R, dall N ys = R := ⟨_, rfl⟩
    obtain ⟨K, hK⟩ : ∃ K, drun dstep (N - 1) (ys.drop m0) = K := ⟨_, rfl⟩
    have hK2 : K = dlift [] 0 (drun dstep (N - 1) (ys.drop m0)) := by rw [← hK]; exact drun_start _ _
    rw [hRe, hK] at hR
    rw [hRe] at hP hbad
    have hz := zag_min v (by omega) hv64
    have hzag := fun w => refZag_any (v : Int) w (by omega) hv64
    obtain ⟨z, hze⟩ : ∃ z, zag (v : Int) = z := ⟨_, rfl⟩
    rw [hze] at hR hz hzag
    have hzw : w64 z = z := w64_in z hz.1 hz.2
    obtain ⟨hz1, hz2⟩ := hz
    have hbadK : ∀ e : Int, K = ([], 0, e) → e ≠ 0 → ddec ys N = ([], e) := fun e h1 h2 => hbad e (by rw [hR, h1, if_pos h2]) h2
    have HG := Lib.hid hget
    have HZ := Lib.hid hzag
    have HR := Lib.hid hR
    have HP := Lib.hid hP
    have HQ := Lib.hid hq
    have HK := Lib.hid hK2
    have HBAD := Lib.hid hbadK
    have HZW := Lib.hid hzw
    have hcap := h.cap
    clear h hby hlen hbk hq hP hN hbad hget he hv hR hK hK2 hRe hze hzag hzw hbadK
    go_enter Try.func21, Try.ntmps21
    go_wp2_with fail
    refine (HBK.out w).mono ?_
    rintro e w' ⟨rfl, rfl⟩
    go_wp2_with fail
    refine HG.out.mono ?_
    rintro e w' ⟨rfl, rfl⟩
    go_wp2_with (refine wpList_slice_l (o := ⟨some 37, _, _, _, _, _⟩) rfl rfl elemU8 H.out rfl (kl := .i64) (l := m0) rfl (by omega) ?_; intro A1 c1 hrd1; have HRD1 := Lib.hid hrd1; clear hrd1)
    refine (HZ.out _).mono ?_
    rintro e w' ⟨rfl, rfl⟩
    go_wp2_with fail
    have ho1 : Owns (w.alloc (.cells #[.int .i64 z] 2)) w.heap.size 2 .i64 (some ⟨w.heap.size, 0, none⟩) 1 1 (sums z []) := by
      rw [sums_nil, HZW.out]; exact owns_lit1 (Nat.le_refl _)
    have HO1 := Lib.hid ho1
    clear ho1
    go_loopg [0, 9] (N - 1) (fun gg v0 v9 wr => ∃ (L a : Nat) (A0 A9 : Option Addr) (c0 c9 : Nat), v0 = .slice A0 (n - (m0 + a)) c0 ∧ m0 + a ≤ n ∧ v9 = .slice A9 L c9 ∧ 1 ≤ L ∧ L ≤ N ∧ gg = N - L ∧ Hid (∃ D : List Int, D.length = L - 1 ∧ Rd w .u8 A0 (n - (m0 + a)) c0 (ys.drop (m0 + a)) ∧ Owns wr w.heap.size 2 .i64 A9 L c9 (sums z D) ∧ Below w.heap.size w wr ∧ K = dlift D a (drun dstep (N - L) (ys.drop (m0 + a)))))
    case atStart => exact ⟨1, 0, A1, some ⟨w.heap.size, 0, none⟩, c1, 1, rfl, by omega, rfl, by omega, by omega, rfl, Lib.hid ⟨[], rfl, HRD1.out, HO1.out, (Below.refl _ _).alloc (Nat.le_refl _) _, HK.out⟩⟩
    case round =>
      obtain ⟨L, a, A0, A9, c0, c9, rfl, han, rfl, hL1, hLN, rfl, hI⟩ := hrel
      obtain ⟨wo, rfl⟩ : ∃ wo, wo = wr := ⟨_, rfl⟩
      by_cases hlt : L < N
      · have hd : decide (L < N) = true := by simp; omega
        obtain ⟨D, hDl, hrd, ho, hbl, hKe⟩ := hI.out
        obtain ⟨M, hM⟩ : ∃ M, min 128 (N - L) = M := ⟨_, rfl⟩
        have hM1 : M ≤ 128 := by omega
        have hM0 : 0 < M := by omega
        have hML : L + M ≤ N := by omega
        have hmn := fun w => refMin_any 128 ((N : Int) - (L : Int)) w
        rw [show min 128 ((N : Int) - (L : Int)) = (M : Int) by omega] at hmn
        have hbX := HBY.out.drop (m0 + a)
        have hgt := refGet_any A0 (n - (m0 + a)) c0 (ys.drop (m0 + a)) wo (hrd.below hbl) hbX (by omega)
        have hst := fun he h1 => hKe.trans (drun_step (step := dstep) D a (lack := N - L) (b := ys.drop (m0 + a)) (by omega) he h1)
        have hbd := fun he => hKe.trans (drun_bad (step := dstep) D a (lack := N - L) (b := ys.drop (m0 + a)) (by omega) he)
        have HMN := Lib.hid hmn
        have HO := Lib.hid (And.intro ho (And.intro hbl hrd))
        have HDL := Lib.hid hDl
        by_cases he1 : (vget 0 (ys.drop (m0 + a))).2.2 = 0
        · obtain ⟨v1, m1, hv1, hm11, hm12, hv164⟩ := vget_shape hbX he1
          rw [List.length_drop, HLEN.out] at hm12
          have hS := dstep_get (N - L) hv1
          rw [hM, List.drop_drop] at hS
          rw [hv1] at hgt
          obtain ⟨f, hf⟩ : ∃ f, zag (v1 : Int) = f := ⟨_, rfl⟩
          have hzg1 := fun w => refZag_any (v1 : Int) w (by omega) hv164
          rw [hf] at hS hzg1
          obtain ⟨S, hSe⟩ : ∃ S, dstep (N - L) (ys.drop (m0 + a)) = S := ⟨_, rfl⟩
          rw [hSe] at hst hbd hS
          have hby2 := HBY.out.drop (m0 + a + m1)
          have hl2 : (ys.drop (m0 + a + m1)).length = n - (m0 + a) - m1 := by rw [List.length_drop, HLEN.out]; omega
          obtain ⟨b, hb⟩ : ∃ b, ys.drop (m0 + a + m1) = b := ⟨_, rfl⟩
          rw [hb] at hS hby2 hl2
          obtain ⟨nb, hnb⟩ : ∃ nb, n - (m0 + a) - m1 = nb := ⟨_, rfl⟩
          rw [hnb] at hl2
          have hnbn : m0 + a + m1 + nb = n := by omega
          obtain ⟨q, hq⟩ : ∃ q, (M + 31) / 32 = q := ⟨_, rfl⟩
          have hq4 : q ≤ 4 := by omega
          have hq0 : 0 < q := by omega
          have HG1 := Lib.hid hgt
          have HS := Lib.hid hS
          have HB := Lib.hid (And.intro hb (And.intro hl2 hby2))
          have HST := Lib.hid (And.intro hst hbd)
          have HQQ := Lib.hid hq
          have HZ1 := Lib.hid hzg1
          have HCC := Lib.hid (And.intro hnb hnbn)
          clear hM hmn hbX hgt hst hbd he1 hv1 hS hzg1 hSe hby2 hl2 hb hq hf hDl hrd ho hbl hKe hI hnb hnbn
          go_wp2_with fail
          refine (HMN.out _).mono ?_
          rintro e w3 ⟨rfl, rfl⟩
          go_wp2_with fail
          refine HG1.out.mono ?_
          rintro e w3 ⟨rfl, rfl⟩
          go_wp2_with (refine wpList_slice_l (o := ⟨some 61, _, _, _, _, _⟩) rfl rfl elemU8 HO.out.2.2 rfl (kl := .i64) (l := m1) rfl (by omega) ?_; intro A3 c3 hrd3; rw [HCC.out.1] at hrd3 ⊢; rw [List.drop_drop, HB.out.1] at hrd3; have HRD3 := Lib.hid hrd3; clear hrd3)
          go_loopg [0, 14, 15] q (fun gg v0 v14 v15 wr => ∃ (i r d : Nat) (A0 A14 : Option Addr) (c0 c14 : Nat), v15 = .int .i64 r ∧ r ≤ M + 32 ∧ i ≤ q ∧ gg = q - i ∧ v0 = .slice A0 d c0 ∧ v14 = .slice A14 i c14 ∧ d ≤ nb ∧ Hid (32 * i = r ∧ d + i = nb ∧ Rd w .u8 A0 d c0 (b.drop i) ∧ Owns wr wo.heap.size 3 .i64 A14 i c14 (b.take i) ∧ Below wo.heap.size wo wr ∧ dwid q b = dwid (q - i) (b.drop i) ∧ ∀ j, j < i → (b[j]?.getD 0).toNat ≤ 64))
          case atStart => exact ⟨0, 0, nb, A3, none, c3, 0, rfl, by omega, by omega, rfl, rfl, rfl, by omega, Lib.hid ⟨by omega, by omega, HRD3.out, owns_nil _ _ _ _, Below.refl _ _, rfl, fun j hj => by omega⟩⟩
          case round =>
            obtain ⟨i, r, d, A0, A14, c0, c14, rfl, hr, hi, rfl, rfl, rfl, hdn, hJ⟩ := hrel
            obtain ⟨wq, rfl⟩ : ∃ wq, wq = wr := ⟨_, rfl⟩
            obtain ⟨hir, hdi, hrb, how, hbw, hdw, hw64⟩ := hJ.out
            have hiq : r < M ↔ i < q := by have := HQQ.out; omega
            by_cases hlr : r < M
            · have hd2 : decide (r < M) = true := by simp; omega
              rw [show q - i = (q - (i + 1)) + 1 by omega] at hdw
              have hbl := HB.out.2.1
              by_cases hd0 : d = 0
              · subst hd0
                have hbe : b.drop i = [] := List.drop_of_length_le (by omega)
                rw [hbe, dwid_end] at hdw
                have hSS : S = ([], 0, 1) := by rw [HS.out]; unfold dbody; rw [HQQ.out, hdw, if_pos (by decide)]
                have hPP := HBAD.out 1 (by have := HST.out.2 (by rw [hSS]; decide); rw [hSS] at this; exact this) (by decide)
                have HPP := Lib.hid hPP
                have HBW := Lib.hid (HO.out.2.1.trans (hbw.mono HO.out.2.1.size))
                clear hir hdi hrb how hbw hdw hw64 hiq hbe hSS hPP hbl hJ
                go_wp2
                go_ret2
                exact ⟨none, 0, 0, by rw [HPP.out]; rfl, by rw [HPP.out]; exact owns_nil _ _ _ _, HBW.out⟩
              · have hne0 : ((d : Int) == 0) = false := by simp [hd0]
                obtain ⟨b0, o0, rfl, hbl0, hc0⟩ := hrb.get (by omega)
                have hbg : b.drop i = (b[i]?.getD 0) :: b.drop (i + 1) := drop_cons_getD b 0 (by omega)
                have hcell := hc0 0 (by omega)
                rw [hbg, Nat.add_zero] at hcell
                simp only [List.getD_cons_zero] at hcell
                have hmem := HB.out.2.2 (b[i]?.getD 0) (by rw [List.getElem?_eq_getElem (by omega)]; exact List.getElem_mem _)
                obtain ⟨x, hx⟩ := Int.eq_ofNat_of_zero_le hmem.1
                rw [hx] at hcell hmem
                have hne : b.drop i ≠ [] := by rw [hbg]; simp
                have hg0 : ((b.drop i)[0]?.getD 0).toNat = x := by rw [hbg]; simp [hx]
                have hx255 : x ≤ 255 := by omega
                have hcell2 := ((HO.out.2.1.trans (hbw.mono HO.out.2.1.size)).cell (p := ⟨b0, o0, none⟩) hbl0).trans hcell
                by_cases hx64 : 64 < x
                · have hd3 : decide ((64 : Int) < (x : Int)) = true := by simp; omega
                  rw [dwid_big hne (by rw [hg0]; exact hx64)] at hdw
                  have hSS : S = ([], 0, 6) := by rw [HS.out]; unfold dbody; rw [HQQ.out, hdw, if_pos (by decide)]
                  have hPP := HBAD.out 6 (by have := HST.out.2 (by rw [hSS]; decide); rw [hSS] at this; exact this) (by decide)
                  have HPP := Lib.hid hPP
                  have HBW := Lib.hid (HO.out.2.1.trans (hbw.mono HO.out.2.1.size))
                  clear hir hdi hrb how hbw hdw hw64 hiq hSS hPP hbl hJ hc0 hcell hmem hx hne hg0 hbg
                  go_wp2
                  go_ret2
                  exact ⟨none, 0, 0, by rw [HPP.out]; rfl, by rw [HPP.out]; exact owns_nil _ _ _ _, HBW.out⟩
                · have hd3 : decide ((64 : Int) < (x : Int)) = false := by simp; omega
                  rw [dwid_more hne (by rw [hg0]; exact hx64), List.drop_drop] at hdw
                  have htk : b.take i ++ [(x : Int)] = b.take (i + 1) := by rw [← hx]; exact mix_take' (by omega)
                  have HJ2 := Lib.hid (And.intro hdw (And.intro htk (And.intro hx (And.intro hw64 (And.intro hir hdi)))))
                  have HOW := Lib.hid (And.intro how (And.intro hbw hrb))
                  have hszw : wo.heap.size ≤ wq.heap.size := hbw.size
                  clear hir hdi hrb how hbw hdw hw64 hbl hJ hc0 hcell hmem hx hne hg0 hbg htk
                  go_wp2_with (first
                    | (at_builtin; refine wpList_append_r rfl rfl elemInt (HOW.out.1.alloc _) rfl (RdV.one (Box.new _ _ _)) rfl one_one (by omega) (by omega) (by simp; omega) ?_; intro A4 c4 w5 hown hg hat; have HG4 := Lib.hid (And.intro (owns_snoc hown) (below_grown (HOW.out.2.1.alloc hszw _) (HOW.out.1.alloc _) hg (by simp; omega))); clear hown hg hat)
                    | (refine wpList_slice_l (o := ⟨some 82, _, _, _, _, _⟩) rfl rfl elemU8 HOW.out.2.2 rfl (kl := .i64) (l := 1) rfl (by omega) ?_; intro A5 c5 hrd5; rw [List.drop_drop] at hrd5; have HRD5 := Lib.hid hrd5; clear hrd5))
                  go_roundg (q - (i + 1))
                  case measure => omega
                  case rel =>
                    refine ⟨i + 1, r + 32, d - 1, A5, A4, c5, c4, by go_num, by omega, by omega, rfl, rfl, rfl, by omega, Lib.hid ⟨by have := HJ2.out.2.2.2.2.1; omega, by have := HJ2.out.2.2.2.2.2; omega, HRD5.out, by rw [← HJ2.out.2.1]; exact HG4.out.1, HG4.out.2, HJ2.out.1, fun j hj => ?_⟩⟩
                    by_cases hji : j < i
                    · exact HJ2.out.2.2.2.1 j hji
                    · obtain rfl : j = i := by omega
                      rw [HJ2.out.2.2.1]; omega
            · obtain rfl : i = q := by omega
              have hd2 : decide (r < M) = false := by simp; omega
              rw [Nat.sub_self, show ∀ b : List Int, dwid 0 b = 0 from fun _ => rfl] at hdw
              have hSS : S = if (dpcs (b.take i) M (b.drop i)).2.2 ≠ 0 then ([], 0, (dpcs (b.take i) M (b.drop i)).2.2) else (backs f (dpcs (b.take i) M (b.drop i)).1, m1 + (i + (dpcs (b.take i) M (b.drop i)).2.1), 0) := by
                rw [HS.out]; unfold dbody; rw [HQQ.out, hdw, if_neg (by simp)]
              have hbl := HB.out.2.1
              have hbq := HB.out.2.2.drop i
              have hwl := row_len how
              have hwe : ∀ j, j < i → (b.take i)[j]?.getD 0 = b[j]?.getD 0 := fun j hj => by rw [List.getElem?_take_of_lt hj]
              have hw0 : ∀ j, j < i → 0 ≤ b[j]?.getD 0 := fun j hj => (HB.out.2.2 _ (by rw [List.getElem?_eq_getElem (by omega)]; exact List.getElem_mem _)).1
              have hap : Apt (.slice A9 L c9) (.slice A14 i c14) := fun g e e2 => by have h1 := (HO.out.1.lt g e).2; have h2 := (how.lt g e2).1; omega
              have how2 := owns_weak how HO.out.2.1.size
              obtain ⟨ws, hws⟩ : ∃ ws, b.take i = ws := ⟨_, rfl⟩
              obtain ⟨b2, hb2⟩ : ∃ b2, b.drop i = b2 := ⟨_, rfl⟩
              have hb2l : b2.length = d := by rw [← hb2, List.length_drop, hbl]; omega
              rw [hws, hb2] at hSS
              rw [hws] at how2 hwl hwe
              rw [hb2] at hrb hbq
              have HSS := Lib.hid hSS
              have HBQ := Lib.hid (And.intro hbq (And.intro hb2l hwl))
              have HW := Lib.hid (And.intro hwe (And.intro hw0 hw64))
              have HO3 := Lib.hid (And.intro (Owns.below HO.out.1 hbw) (And.intro (HO.out.2.1.trans (hbw.mono HO.out.2.1.size)) (And.intro how2 hap)))
              have HRB := Lib.hid hrb
              have HDI := Lib.hid (And.intro hdi (And.intro hir hb2))
              clear hir hdi hrb how hbw hdw hw64 hiq hJ hSS hbl hbq hwl hwe hw0 hap how2 hws hb2 hb2l HS
              go_wp2_with fail
              go_loopg [0, 9, 16] i (fun gg v0 v9 v16 wr => ∃ (j k8 dd p9 : Nat) (A0 A9 : Option Addr) (c0 c9 : Nat), v16 = .int .i64 j ∧ j ≤ i ∧ gg = i - j ∧ v0 = .slice A0 dd c0 ∧ dd ≤ d ∧ v9 = .slice A9 p9 c9 ∧ 1 ≤ p9 ∧ p9 ≤ N ∧ k8 ≤ M ∧ Hid (k8 = min (32 * j) M) ∧ Hid (∃ (l : List Int) (cnt : Nat), l.length = k8 ∧ p9 = L + k8 ∧ dd + cnt = d ∧ Rd w .u8 A0 dd c0 (b2.drop cnt) ∧ Owns wr w.heap.size 2 .i64 A9 p9 c9 (sums z (D ++ backs f l)) ∧ Below w.heap.size w wr ∧ Owns wr w.heap.size 3 .i64 A14 i c14 ws ∧ Apt (.slice A9 p9 c9) (.slice A14 i c14) ∧ dpcs ws M b2 = dlift l cnt (dpcs (ws.drop j) (M - k8) (b2.drop cnt))))
              case atStart => exact ⟨0, 0, d, L, A0, A9, c0, c9, rfl, by omega, by omega, rfl, by omega, rfl, by omega, by omega, by omega, Lib.hid (by omega), Lib.hid ⟨[], 0, rfl, by omega, by omega, by rw [List.drop_zero]; exact HRB.out, by simpa [backs] using HO3.out.1, HO3.out.2.1, HO3.out.2.2.1, HO3.out.2.2.2, by rw [List.drop_zero, List.drop_zero, Nat.sub_zero]; exact dlift_start (fun h => dpcs_err _ _ _ h)⟩⟩
              case round =>
                obtain ⟨j, k8, dd, p9, A0, A9, c0, c9, rfl, hj, rfl, rfl, hdd, rfl, hp1, hpN, hkM, hK8, hJ⟩ := hrel
                obtain ⟨wq2, rfl⟩ : ∃ wq2, wq2 = wr := ⟨_, rfl⟩
                obtain ⟨l, cnt, hll, hpk, hdc, hrb, hol, hbl, how, hap, hDP⟩ := hJ.out
                by_cases hlj : j < i
                · have hdj : decide (j < i) = true := by simp; omega
                  have hww := HW.out.2.2 j hlj
                  rw [← HW.out.1 j hlj] at hww
                  have hmem := HW.out.2.1 j hlj
                  rw [← HW.out.1 j hlj] at hmem
                  obtain ⟨x, hx⟩ := Int.eq_ofNat_of_zero_le hmem
                  rw [hx, Int.toNat_natCast] at hww
                  obtain ⟨b6, o6, hA14, hbl6, hc6⟩ := (Rd.own how).get (by omega)
                  have hcell := hc6 j hlj
                  rw [List.getD_eq_getElem?_getD, hx] at hcell
                  have hk8e := hK8.out
                  have hqq := HQQ.out
                  obtain ⟨t, ht⟩ : ∃ t, min 32 (M - k8) = t := ⟨_, rfl⟩
                  have ht32 : t ≤ 32 := by omega
                  have ht0 : 0 < t := by omega
                  have htd : k8 + t ≤ M := by omega
                  have hmn := fun w => refMin_any 32 ((M : Int) - 32 * (j : Int)) w
                  rw [show min 32 ((M : Int) - 32 * (j : Int)) = (t : Int) by omega] at hmn
                  have htx : t * x ≤ 32 * 64 := Nat.mul_le_mul ht32 hww
                  have hnd := fun w => rneed_any t x (by omega) hww w
                  have hdrop : ws.drop j = (x : Int) :: ws.drop (j + 1) := by rw [drop_cons_getD ws 0 (by have := HBQ.out.2.2; omega), hx]
                  rw [hdrop] at hDP
                  obtain ⟨oc, hoc⟩ : ∃ oc, octets (t * x) = oc := ⟨_, rfl⟩
                  have hoc2 : oc ≤ 256 := by rw [← hoc]; unfold octets; omega
                  rw [hoc] at hnd
                  have hbdl : (b2.drop cnt).length = dd := by rw [List.length_drop, HBQ.out.2.1]; omega
                  have h32j : 32 * j ≤ M := by omega
                  have hk8n : min (32 * (j + 1)) M = k8 + t := by omega
                  have HMN2 := Lib.hid hmn
                  have HND := Lib.hid hnd
                  have HT := Lib.hid (And.intro ht hk8n)
                  have HOL := Lib.hid (And.intro hol (And.intro hbl (And.intro how hap)))
                  have HRB2 := Lib.hid hrb
                  have HLL := Lib.hid (And.intro hll (And.intro hpk hdc))
                  have HA14 := Lib.hid hA14
                  subst hA14
                  by_cases hsh : dd < oc
                  · have hdsh : decide (dd < oc) = true := by simp; omega
                    rw [dpcs_short ht (by rw [hoc, hbdl]; omega), dlift_bad (by decide)] at hDP
                    have hSS : S = ([], 0, 1) := by rw [HSS.out, hDP, if_pos (by decide)]
                    have hPP := HBAD.out 1 (by have := HST.out.2 (by rw [hSS]; decide); rw [hSS] at this; exact this) (by decide)
                    have HPP := Lib.hid hPP
                    clear hll hpk hdc hrb hol hbl how hap hDP hww hmem hx hc6 hk8e hqq ht hmn htx hnd hdrop hoc hbdl hk8n hSS hPP hJ hsh
                    go_wp2_with fail
                    refine (HMN2.out _).mono ?_
                    rintro e w3 ⟨rfl, rfl⟩
                    go_wp2_with fail
                    refine (HND.out _).mono ?_
                    rintro e w3 ⟨rfl, rfl⟩
                    go_wp2
                    go_ret2
                    exact ⟨none, 0, 0, by rw [HPP.out]; rfl, by rw [HPP.out]; exact owns_nil _ _ _ _, HOL.out.2.1⟩
                  · have hdsh : decide (dd < oc) = false := by simp; omega
                    have hby3 := (HBQ.out.1.drop cnt).take oc
                    have hbl3 : ((b2.drop cnt).take oc).length = oc := by rw [List.length_take, hbdl]; omega
                    have hup := fun w A c h => refUnpack_any A oc c ((b2.drop cnt).take oc) x t w h hby3 (by omega) (by omega) hww
                    rw [unpk_len (by rw [hbl3, hoc])] at hup
                    have hnl : ¬ (b2.drop cnt).length < octets (t * x) := by rw [hoc, hbdl]; omega
                    have HDPC := Lib.hid (And.intro hDP (And.intro hnl hoc))
                    have hocd : oc ≤ dd := by omega
                    obtain ⟨u, hu⟩ : ∃ u, (if nums ((b2.drop cnt).take oc) / 2 ^ (x * t) ≠ 0 then (([] : List Int), (3 : Int)) else (unp x t (nums ((b2.drop cnt).take oc)), 0)) = u := ⟨_, rfl⟩
                    rw [hu] at hup
                    obtain ⟨us, er⟩ := u
                    have HU := Lib.hid hu
                    have HUP := Lib.hid hup
                    clear hll hpk hdc hrb hol hbl how hap hDP hww hmem hx hc6 hk8e hqq ht hmn htx hnd hdrop hoc hbdl hk8n hJ hby3 hbl3 hup hnl hu hsh
                    go_wp2_with fail
                    refine (HMN2.out _).mono ?_
                    rintro e w3 ⟨rfl, rfl⟩
                    go_wp2_with fail
                    refine (HND.out _).mono ?_
                    rintro e w3 ⟨rfl, rfl⟩
                    go_wp2_with fail
                    refine wp_region_free 14 (by kernel_rfl) (by kernel_rfl) ?_
                    refine chain_val (.slice A0 dd c0) (S := [0]) rfl ?_ ?_
                    · intro ρ w' hE hB hs
                      have h0 : ρ (.tmp 0) = .slice A0 dd c0 := hs 0 (by decide)
                      clear hs
                      refine if_t (by rfl) ?_
                      (go_simp <;> exact wrapi64_in _ (by omega) (by omega))
                    refine chain_val (.int .i64 oc) (S := [18]) rfl ?_ ?_
                    · intro ρ w' hE hB hs
                      have h18 : ρ (.tmp 18) = .int .i64 oc := hs 18 (by decide)
                      clear hs
                      refine if_t (by rfl) ?_
                      (go_simp <;> exact wrapi64_in _ (by omega) (by omega))
                    refine chain_fact (RdF .u8 ((b2.drop cnt).take oc)) (RdF.stable _ _) (S := [105, 106]) rfl ?_ ?_
                    · intro ρ w' hE hB hs
                      have h105 : ρ (.tmp 105) = .slice A0 dd c0 := hs 105 (by decide)
                      have h106 : ρ (.tmp 106) = .int .i64 oc := hs 106 (by decide)
                      clear hs
                      refine if_t (by rfl) ?_
                      have hrun : (Instr.sliceAt 30 (.slice A0 dd c0) none (some (.int .i64 oc)) none).run Try.prog w' = _ := run_h elemU8 A0 dd c0 (j := oc) (by have := HRB2.out.cap; omega) .i64
                      refine ⟨_, ?_, _, _, _, rfl, ((HRB2.out.below HOL.out.2.1).below hB).take (by omega)⟩
                      unfold execOp
                      simp only [Option.map, h105, h106, hrun, Sem.run_bind, Result.andThen_ok, Sem.run_pure]
                    refine chain_val (.slice (some ⟨b6, o6, none⟩) i c14) (S := [14]) rfl ?_ ?_
                    · intro ρ w' hE hB hs
                      have h14 : ρ (.tmp 14) = .slice (some ⟨b6, o6, none⟩) i c14 := hs 14 (by decide)
                      clear hs
                      refine if_t (by rfl) ?_
                      (go_simp <;> exact wrapi64_in _ (by omega) (by omega))
                    refine chain_val (.int .i64 j) (S := [16]) rfl ?_ ?_
                    · intro ρ w' hE hB hs
                      have h16 : ρ (.tmp 16) = .int .i64 j := hs 16 (by decide)
                      clear hs
                      refine if_t (by rfl) ?_
                      (go_simp <;> exact wrapi64_in _ (by omega) (by omega))
                    refine chain_val (.pointer (some ⟨b6, o6 + j, none⟩)) (S := [108, 109]) rfl ?_ ?_
                    · intro ρ w' hE hB hs
                      have h108 : ρ (.tmp 108) = .slice (some ⟨b6, o6, none⟩) i c14 := hs 108 (by decide)
                      have h109 : ρ (.tmp 109) = .int .i64 j := hs 109 (by decide)
                      clear hs
                      refine if_t (by rfl) ?_
                      go_simp
                    refine chain_val (.int .i64 x) (S := [110]) rfl ?_ ?_
                    · intro ρ w' hE hB hs
                      have h110 : ρ (.tmp 110) = .pointer (some ⟨b6, o6 + j, none⟩) := hs 110 (by decide)
                      clear hs
                      refine if_t (by rfl) ?_
                      have hcl := (hB.cell (p := ⟨b6, o6 + j, none⟩) hbl6).trans hcell
                      go_simp
                    refine chain_val (.int .i64 t) (S := [17]) rfl ?_ ?_
                    · intro ρ w' hE hB hs
                      have h17 : ρ (.tmp 17) = .int .i64 t := hs 17 (by decide)
                      clear hs
                      refine if_t (by rfl) ?_
                      (go_simp <;> exact wrapi64_in _ (by omega) (by omega))
                    refine chain_static (UnpF wq2.heap.size us er) (UnpF.stable _ _ _) (S := [107, 111, 112]) rfl (Go.Cor.enters_f Try.func55 (by kernel_rfl) rfl) rfl ?_ ?_
                    · intro ρ w' hE hB hs
                      have h107 : (RdF .u8 ((b2.drop cnt).take oc)) (ρ (.tmp 107)) w' := hs 107 (by decide)
                      have h111 : ρ (.tmp 111) = .int .i64 x := hs 111 (by decide)
                      have h112 : ρ (.tmp 112) = .int .i64 t := hs 112 (by decide)
                      clear hs
                      obtain ⟨A107, n107, c107, e107, r107⟩ := h107
                      refine ⟨(by rfl), ?_⟩
                      simp only [List.map_toArray, List.map_cons, List.map_nil, e107, h111, h112]
                      have hlr := r107.len
                      rw [List.length_take, List.length_drop, HBQ.out.2.1] at hlr
                      obtain rfl : oc = n107 := (by have := HLL.out.2.2; omega)
                      refine (HUP.out _ _ _ r107).mono ?_
                      rintro e w3 ⟨A', n', c', rfl, ho, hb⟩
                      exact ⟨_, rfl, hb, A', n', c', rfl, owns_weak ho hB.size⟩
                    refine chain_fact (UnpF wq2.heap.size us er) (UnpF.stable _ _ _) (S := [113]) rfl ?_ ?_
                    · intro ρ w' hE hB hs
                      have h113 : (UnpF wq2.heap.size us er) (ρ (.tmp 113)) w' := hs 113 (by decide)
                      clear hs
                      refine if_t (by rfl) ?_
                      exact ⟨_, rfl, h113⟩
                    refine chain_fact (OwF wq2.heap.size 32 .u64 us) (OwF.stable _ _ _ _) (S := [104]) rfl ?_ ?_
                    · intro ρ w' hE hB hs
                      have h104 : (UnpF wq2.heap.size us er) (ρ (.tmp 104)) w' := hs 104 (by decide)
                      clear hs
                      refine if_t (by rfl) ?_
                      obtain ⟨A', m', c', e104, ho⟩ := h104
                      exact ⟨.slice A' m' c', by go_simp, A', m', c', rfl, ho⟩
                    refine chain_val (.int .i64 er) (S := [104]) rfl ?_ ?_
                    · intro ρ w' hE hB hs
                      have h104 : (UnpF wq2.heap.size us er) (ρ (.tmp 104)) w' := hs 104 (by decide)
                      clear hs
                      refine if_t (by rfl) ?_
                      obtain ⟨A', m', c', e104, ho⟩ := h104
                      go_simp
                    refine chain_fact (OwF wq2.heap.size 32 .u64 us) (OwF.stable _ _ _ _) (S := [114]) rfl ?_ ?_
                    · intro ρ w' hE hB hs
                      have h114 : (OwF wq2.heap.size 32 .u64 us) (ρ (.tmp 114)) w' := hs 114 (by decide)
                      clear hs
                      refine if_t (by rfl) ?_
                      exact ⟨_, rfl, h114⟩
                    refine chain_val (.int .i64 er) (S := [115]) rfl ?_ ?_
                    · intro ρ w' hE hB hs
                      have h115 : ρ (.tmp 115) = .int .i64 er := hs 115 (by decide)
                      clear hs
                      refine if_t (by rfl) ?_
                      (go_simp <;> exact wrapi64_in _ (by omega) (by omega))
                    intro w1 hB1
                    simp only [List.reverse_cons, List.reverse_nil, List.nil_append, List.cons_append, Go.Free.Ends, forall_eq, Act.put, List.setIfInBounds_toArray, List.set_cons_zero, List.set_cons_succ]
                    rintro _ _ _ _ _ _ _ _ _ ⟨A19, n19, c19, rfl, ho19⟩
                    have HB1 := Lib.hid hB1
                    have HO19 := Lib.hid (Rd.own ho19)
                    have HOW1 := Lib.hid (And.intro (Owns.below HOL.out.1 hB1) (And.intro (HOL.out.2.1.trans (hB1.mono HOL.out.2.1.size)) (Owns.below HOL.out.2.2.1 hB1)))
                    have hl19 := row_len ho19
                    clear ho19 hB1 hcell HUP
                    by_cases her : er = 0
                    rotate_left
                    · have hU := HU.out
                      obtain ⟨hDP, hnl, hoc⟩ := HDPC.out
                      have hnu : nums ((b2.drop cnt).take oc) / 2 ^ (x * t) ≠ 0 := fun hz => by rw [if_neg (by simpa using hz)] at hU; exact her (by have := congrArg Prod.snd hU; exact this.symm)
                      rw [if_pos hnu] at hU
                      obtain rfl : er = 3 := (congrArg Prod.snd hU).symm
                      rw [dpcs_bad HT.out.1 hnl (by rw [hoc]; exact hnu), dlift_bad (by decide)] at hDP
                      have hSS : S = ([], 0, 3) := by rw [HSS.out, hDP, if_pos (by decide)]
                      have hPP := HBAD.out 3 (by have := HST.out.2 (by rw [hSS]; decide); rw [hSS] at this; exact this) (by decide)
                      have HPP := Lib.hid hPP
                      clear hU hDP hnl hoc hnu hSS hPP her hl19
                      go_wp2
                      go_ret2
                      exact ⟨none, 0, 0, by rw [HPP.out]; rfl, by rw [HPP.out]; exact owns_nil _ _ _ _, HOW1.out.2.1⟩
                    · subst her
                      have hU := HU.out
                      obtain ⟨hDP, hnl, hoc⟩ := HDPC.out
                      have hnu : ¬ nums ((b2.drop cnt).take oc) / 2 ^ (x * t) ≠ 0 := fun hz => by rw [if_pos hz] at hU; have := congrArg Prod.snd hU; simp at this
                      rw [if_neg hnu] at hU
                      have hus : unp x t (nums ((b2.drop cnt).take oc)) = us := congrArg Prod.fst hU
                      have hul : us.length = t := by rw [← hus, unp_len]
                      obtain rfl : t = n19 := by omega
                      rw [dpcs_more HT.out.1 hnl (by rw [hoc]; exact hnu), dlift_dlift, hoc, hus, List.drop_drop] at hDP
                      have HDP2 := Lib.hid hDP
                      have HUL := Lib.hid hul
                      have hba := fun w h => refBack_any f A19 t c19 us w h (by omega)
                      have HBA := Lib.hid hba
                      have HMK := Lib.hid (show M - k8 - 32 = M - (k8 + t) by have := HT.out.1; omega)
                      obtain ⟨ys2, hys2⟩ : ∃ y, backs f us = y := ⟨_, rfl⟩
                      rw [hys2] at HBA
                      have hy2l : ys2.length = t := by rw [← hys2, backs_len, hul]
                      have HY2 := Lib.hid (And.intro hys2 hy2l)
                      clear hU hDP hnl hoc hnu hus hul hba hl19 HU HDPC hys2 hy2l
                      go_wp2_with (refine wpList_slice_l (o := ⟨some 121, _, _, _, _, _⟩) rfl rfl elemU8 HRB2.out rfl (kl := .i64) (l := oc) rfl (by omega) ?_; intro A20 c20 hrd20; rw [List.drop_drop] at hrd20; have HRD20 := Lib.hid hrd20; clear hrd20)
                      refine (HZ1.out _).mono ?_
                      rintro e w3 ⟨rfl, rfl⟩
                      go_wp2_with fail
                      refine (HBA.out _ HO19.out).mono ?_
                      rintro e w3 ⟨A21, n21, c21, rfl, ho21, hb21⟩
                      obtain rfl : t = n21 := by have h1 := row_len ho21; have := HY2.out.2; omega
                      have hszw1 : w.heap.size ≤ w1.heap.size := HOW1.out.2.1.size
                      have hap21 : Apt (.slice A9 p9 c9) (.slice A21 t c21) := fun g e e2 => by have h1 := (HOW1.out.1.lt g e).2; have h2 := (ho21.lt g e2).1; omega
                      have HW3 := Lib.hid (And.intro (Owns.below HOW1.out.1 hb21) (And.intro (HOW1.out.2.1.trans (hb21.mono hszw1)) (And.intro (Owns.below HOW1.out.2.2 hb21) (And.intro HOL.out.2.2.2 (And.intro (owns_weak ho21 hszw1) hap21)))))
                      obtain ⟨L1, hL1e⟩ : ∃ X, sums z (D ++ backs f l) = X := ⟨_, rfl⟩
                      have hp9 := row_len HW3.out.1
                      obtain ⟨P0, rfl⟩ : ∃ P0, p9 = P0 + 1 := ⟨p9 - 1, by omega⟩
                      have hpkt : P0 + 1 + t ≤ N := by have := HLL.out.2.1; omega
                      have hDlen : (D ++ backs f l).length = P0 := by rw [List.length_append, backs_len, HDL.out, HLL.out.1]; have := HLL.out.2.1; omega
                      have HDlen := Lib.hid hDlen
                      clear ho21 hb21 hap21 hp9 hL1e hDlen
                      go_wp2_with fail
                      go_loopg [9, 22] t (fun gg v9 v22 wr => ∃ (jj P : Nat) (A9 : Option Addr) (c9 : Nat), v22 = .int .i64 jj ∧ jj ≤ t ∧ gg = t - jj ∧ v9 = .slice A9 (P + 1) c9 ∧ P + 1 ≤ N ∧ Hid (P = P0 + jj ∧ Owns wr w.heap.size 2 .i64 A9 (P + 1) c9 (sums z ((D ++ backs f l) ++ ys2.take jj)) ∧ Below w.heap.size w wr ∧ Owns wr w.heap.size 3 .i64 (some ⟨b6, o6, none⟩) i c14 ws ∧ Apt (.slice A9 (P + 1) c9) (.slice (some ⟨b6, o6, none⟩) i c14) ∧ Owns wr w.heap.size 2 .i64 A21 t c21 ys2 ∧ Apt (.slice A9 (P + 1) c9) (.slice A21 t c21)))
                      case atStart => exact ⟨0, P0, A9, c9, rfl, by omega, by omega, rfl, by omega, Lib.hid ⟨by omega, by simpa using HW3.out.1, HW3.out.2.1, HW3.out.2.2.1, HW3.out.2.2.2.1, HW3.out.2.2.2.2.1, HW3.out.2.2.2.2.2⟩⟩
                      case round =>
                        obtain ⟨jj, P, A9, c9, rfl, hjj, rfl, rfl, hPN, hL4⟩ := hrel
                        obtain ⟨wp, rfl⟩ : ∃ wp, wp = wr := ⟨_, rfl⟩
                        by_cases hlt4 : jj < t
                        · have hd4 : decide (jj < t) = true := by simp; omega
                          obtain ⟨hPe, ho9, hb9, how9, hapw, ho21, hap21⟩ := hL4.out
                          have hl9 := row_len ho9
                          obtain ⟨b9, o9, hA9, hbl9, hc9⟩ := (Rd.own ho9).get (by omega)
                          have hcl9 := hc9 P (by omega)
                          rw [List.getD_eq_getElem?_getD] at hcl9
                          obtain ⟨b21, o21, hA21, hbl21, hc21⟩ := (Rd.own ho21).get (by omega)
                          have hcl21 := hc21 jj hlt4
                          rw [List.getD_eq_getElem?_getD] at hcl21
                          have hsn := sums_snoc z (ys2[jj]?.getD 0) (D ++ backs f l ++ ys2.take jj)
                          have hDl2 : (D ++ backs f l ++ ys2.take jj).length = P := by rw [List.length_append, HDlen.out, List.length_take, HY2.out.2]; omega
                          rw [hDl2] at hsn
                          have htk : ys2.take jj ++ [ys2[jj]?.getD 0] = ys2.take (jj + 1) := mix_take' (by have := HY2.out.2; omega)
                          rw [List.append_assoc, htk] at hsn
                          obtain ⟨xa, hxa⟩ : ∃ xa, (sums z (D ++ backs f l ++ ys2.take jj))[P]?.getD 0 = xa := ⟨_, rfl⟩
                          obtain ⟨ya, hya⟩ : ∃ ya, ys2[jj]?.getD 0 = ya := ⟨_, rfl⟩
                          rw [hxa] at hsn hcl9
                          rw [hya] at hsn hcl21
                          have hxb : -9223372036854775808 ≤ xa ∧ xa ≤ 9223372036854775807 := by
                            rw [← hxa]
                            have hlen9 : P < (sums z (D ++ backs f l ++ ys2.take jj)).length := by rw [sums_len, hDl2]; omega
                            rw [List.getElem?_eq_getElem hlen9]
                            have hmm := List.getElem_mem hlen9
                            simp only [Option.getD_some]
                            unfold sums at hmm ⊢
                            obtain ⟨_, _, h2⟩ := List.mem_map.1 hmm
                            rw [← h2]; exact w64_bd _
                          have hyb : -9223372036854775808 ≤ ya ∧ ya ≤ 9223372036854775807 := by
                            rw [← hya, ← HY2.out.1]
                            have hlen9 : jj < (backs f us).length := by rw [backs_len, HUL.out]; omega
                            rw [List.getElem?_eq_getElem hlen9]
                            have hmm := List.getElem_mem hlen9
                            simp only [Option.getD_some]
                            unfold backs at hmm ⊢
                            obtain ⟨_, _, h2⟩ := List.mem_map.1 hmm
                            rw [← h2]; exact w64_bd _
                          have HS4 := Lib.hid hsn
                          have HL4 := Lib.hid (And.intro ho9 (And.intro hb9 (And.intro how9 (And.intro hapw (And.intro ho21 (And.intro hap21 hPe))))))
                          subst hA9 hA21
                          obtain ⟨hxb1, hxb2⟩ := hxb
                          obtain ⟨hyb1, hyb2⟩ := hyb
                          have hszp : w.heap.size ≤ wp.heap.size := hb9.size
                          clear hPe ho9 hb9 how9 hapw ho21 hap21 hl9 hc9 hc21 hsn hDl2 htk hxa hya hL4
                          go_upto_region 39 with fail
                          refine wp_region_free 16 (by kernel_rfl) (by kernel_rfl) ?_
                          refine chain_val (.slice (some ⟨b9, o9, none⟩) (P + 1) c9) (S := [9]) rfl ?_ ?_
                          · intro ρ w' hE hB hs
                            have h9 : ρ (.tmp 9) = .slice (some ⟨b9, o9, none⟩) (P + 1) c9 := hs 9 (by decide)
                            clear hs
                            refine if_t (by rfl) ?_
                            (go_simp <;> exact wrapi64_in _ (by omega) (by omega))
                          refine chain_val (.slice (some ⟨b9, o9, none⟩) (P + 1) c9) (S := [9]) rfl ?_ ?_
                          · intro ρ w' hE hB hs
                            have h9 : ρ (.tmp 9) = .slice (some ⟨b9, o9, none⟩) (P + 1) c9 := hs 9 (by decide)
                            clear hs
                            refine if_t (by rfl) ?_
                            (go_simp <;> exact wrapi64_in _ (by omega) (by omega))
                          refine chain_val (.slice (some ⟨b9, o9, none⟩) (P + 1) c9) (S := [9]) rfl ?_ ?_
                          · intro ρ w' hE hB hs
                            have h9 : ρ (.tmp 9) = .slice (some ⟨b9, o9, none⟩) (P + 1) c9 := hs 9 (by decide)
                            clear hs
                            refine if_t (by rfl) ?_
                            (go_simp <;> exact wrapi64_in _ (by omega) (by omega))
                          refine chain_val (.int .i64 ((P + 1 : Nat) : Int)) (S := [134]) rfl ?_ ?_
                          · intro ρ w' hE hB hs
                            have h134 : ρ (.tmp 134) = .slice (some ⟨b9, o9, none⟩) (P + 1) c9 := hs 134 (by decide)
                            clear hs
                            refine if_t (by rfl) ?_
                            go_simp
                          refine chain_val (.int .i64 (P : Int)) (S := [135]) rfl ?_ ?_
                          · intro ρ w' hE hB hs
                            have h135 : ρ (.tmp 135) = .int .i64 ((P + 1 : Nat) : Int) := hs 135 (by decide)
                            clear hs
                            have hc := hE.const
                            refine if_t (by rfl) ?_
                            (go_simp <;> exact wrapi64_in _ (by omega) (by omega))
                          refine chain_val (.pointer (some ⟨b9, o9 + P, none⟩)) (S := [133, 136]) rfl ?_ ?_
                          · intro ρ w' hE hB hs
                            have h133 : ρ (.tmp 133) = .slice (some ⟨b9, o9, none⟩) (P + 1) c9 := hs 133 (by decide)
                            have h136 : ρ (.tmp 136) = .int .i64 (P : Int) := hs 136 (by decide)
                            clear hs
                            refine if_t (by rfl) ?_
                            (go_simp <;> (intro hh; omega))
                          refine chain_val (.int .i64 xa) (S := [137]) rfl ?_ ?_
                          · intro ρ w' hE hB hs
                            have h137 : ρ (.tmp 137) = .pointer (some ⟨b9, o9 + P, none⟩) := hs 137 (by decide)
                            clear hs
                            refine if_t (by rfl) ?_
                            have hcl := (hB.cell (p := ⟨b9, o9 + P, none⟩) hbl9).trans hcl9
                            go_simp
                          refine chain_val (.int .u64 (wu64 xa)) (S := [138]) rfl ?_ ?_
                          · intro ρ w' hE hB hs
                            have h138 : ρ (.tmp 138) = .int .i64 xa := hs 138 (by decide)
                            clear hs
                            refine if_t (by rfl) ?_
                            (go_simp <;> exact wrapu64 _)
                          refine chain_val (.slice (some ⟨b21, o21, none⟩) t c21) (S := [21]) rfl ?_ ?_
                          · intro ρ w' hE hB hs
                            have h21 : ρ (.tmp 21) = .slice (some ⟨b21, o21, none⟩) t c21 := hs 21 (by decide)
                            clear hs
                            refine if_t (by rfl) ?_
                            (go_simp <;> exact wrapi64_in _ (by omega) (by omega))
                          refine chain_val (.int .i64 jj) (S := [22]) rfl ?_ ?_
                          · intro ρ w' hE hB hs
                            have h22 : ρ (.tmp 22) = .int .i64 jj := hs 22 (by decide)
                            clear hs
                            refine if_t (by rfl) ?_
                            (go_simp <;> exact wrapi64_in _ (by omega) (by omega))
                          refine chain_val (.pointer (some ⟨b21, o21 + jj, none⟩)) (S := [140, 141]) rfl ?_ ?_
                          · intro ρ w' hE hB hs
                            have h140 : ρ (.tmp 140) = .slice (some ⟨b21, o21, none⟩) t c21 := hs 140 (by decide)
                            have h141 : ρ (.tmp 141) = .int .i64 jj := hs 141 (by decide)
                            clear hs
                            refine if_t (by rfl) ?_
                            go_simp
                          refine chain_val (.int .i64 ya) (S := [142]) rfl ?_ ?_
                          · intro ρ w' hE hB hs
                            have h142 : ρ (.tmp 142) = .pointer (some ⟨b21, o21 + jj, none⟩) := hs 142 (by decide)
                            clear hs
                            refine if_t (by rfl) ?_
                            have hcl := (hB.cell (p := ⟨b21, o21 + jj, none⟩) hbl21).trans hcl21
                            go_simp
                          refine chain_val (.int .u64 (wu64 ya)) (S := [143]) rfl ?_ ?_
                          · intro ρ w' hE hB hs
                            have h143 : ρ (.tmp 143) = .int .i64 ya := hs 143 (by decide)
                            clear hs
                            refine if_t (by rfl) ?_
                            (go_simp <;> exact wrapu64 _)
                          refine chain_val (.int .u64 (wu64 (wu64 xa + wu64 ya))) (S := [139, 144]) rfl ?_ ?_
                          · intro ρ w' hE hB hs
                            have h139 : ρ (.tmp 139) = .int .u64 (wu64 xa) := hs 139 (by decide)
                            have h144 : ρ (.tmp 144) = .int .u64 (wu64 ya) := hs 144 (by decide)
                            clear hs
                            refine if_t (by rfl) ?_
                            (go_simp <;> exact wrapu64 _)
                          refine chain_val (.int .i64 (w64 (xa + ya))) (S := [145]) rfl ?_ ?_
                          · intro ρ w' hE hB hs
                            have h145 : ρ (.tmp 145) = .int .u64 (wu64 (wu64 xa + wu64 ya)) := hs 145 (by decide)
                            clear hs
                            refine if_t (by rfl) ?_
                            (go_simp <;> (rw [← add_u64]; exact wrapi64 _))
                          refine chain_make (RdF .i64 [(w64 (xa + ya))]) (RdF.stable _ _) (S := [146]) rfl ?_ ?_
                          · intro ρ w' hE hB hs
                            have h146 : ρ (.tmp 146) = .int .i64 (w64 (xa + ya)) := hs 146 (by decide)
                            clear hs
                            exact ⟨(by rfl), .slice (some ⟨w'.heap.size, 0, none⟩) 1 1, w'.alloc (.cells #[.int .i64 (w64 (xa + ya))] 2), (by go_simp), (Below.refl _ _).alloc (Nat.le_refl _) _, _, _, _, rfl, Rd.lit w' 2 .i64 [(w64 (xa + ya))] (by simp [maxLen])⟩
                          intro w1 hB1
                          simp only [List.reverse_cons, List.reverse_nil, List.nil_append, List.cons_append, Go.Free.Ends, forall_eq, Act.put, List.setIfInBounds_toArray, List.set_cons_zero, List.set_cons_succ]
                          rintro _ ⟨A30, n30, c30, rfl, hr30⟩
                          obtain rfl : n30 = 1 := hr30.len.symm
                          have HW5 := Lib.hid (And.intro (Owns.below HL4.out.1 hB1) (And.intro (HL4.out.2.1.trans (hB1.mono hszp)) (And.intro (Owns.below HL4.out.2.2.1 hB1) (Owns.below HL4.out.2.2.2.2.1 hB1))))
                          have HR30 := Lib.hid hr30
                          have hszp1 : w.heap.size ≤ w1.heap.size := HW5.out.2.1.size
                          clear hr30 hB1 hcl9 hcl21
                          go_wp2_with (at_builtin; refine wpList_append_r rfl rfl elemI64 HW5.out.1 rfl (Rd.toV HR30.out) rfl ints_one (by omega) (by omega) hszp1 ?_; intro A31 c31 w8 hown hg hat; have HG8 := Lib.hid (And.intro (owns_app hown) (And.intro (below_grown HW5.out.2.1 HW5.out.1 hg hszp1) (And.intro (beside HW5.out.2.2.1 hg hat HL4.out.2.2.2.1) (beside HW5.out.2.2.2 hg hat HL4.out.2.2.2.2.2.1)))); clear hown hg hat)
                          go_roundg (t - (jj + 1))
                          case measure => omega
                          case rel =>
                            refine ⟨jj + 1, P + 1, A31, c31, by go_num, by omega, rfl, rfl, by have := HL4.out.2.2.2.2.2.2; omega, Lib.hid ⟨by have := HL4.out.2.2.2.2.2.2; omega, ?_, HG8.out.2.1, HG8.out.2.2.1.1, HG8.out.2.2.1.2, HG8.out.2.2.2.1, HG8.out.2.2.2.2⟩⟩
                            rw [HS4.out]; exact HG8.out.1
                        · obtain rfl : jj = t := by omega
                          have hd4 : decide (jj < jj) = false := by simp
                          have HL4 := Lib.hid hL4.out
                          clear hL4
                          go_wp2_with fail
                          go_roundg (i - (j + 1))
                          case measure => omega
                          case rel =>
                            obtain ⟨hPe, ho9, hb9, how9, hapw, ho21, hap21⟩ := HL4.out
                            have h1 := HLL.out
                            refine ⟨j + 1, k8 + jj, dd - oc, P + 1, A20, A9, c20, c9, by go_num, by omega, rfl, rfl, by omega, rfl, by omega, hPN, htd, Lib.hid HT.out.2.symm, Lib.hid ⟨l ++ us, cnt + oc, by rw [List.length_append, HUL.out, h1.1], by omega, by omega, HRD20.out, ?_, hb9, how9, hapw, by rw [HDP2.out, HMK.out]⟩⟩
                            rw [List.take_of_length_le (by rw [HY2.out.2]; exact Nat.le_refl _), ← HY2.out.1, List.append_assoc, ← backs_app] at ho9
                            exact ho9
                · obtain rfl : j = i := by omega
                  have hdj : decide (j < j) = false := by simp
                  have hk8e := hK8.out
                  have hqq := HQQ.out
                  obtain ⟨l, cnt, hll, hpk, hdc, hrb, hol, hbl, how, hap, hDP⟩ := hJ.out
                  rw [List.drop_of_length_le (by rw [HBQ.out.2.2]; exact Nat.le_refl _), show ∀ (m : Nat) (b : List Int), dpcs [] m b = ([], 0, 0) from fun _ _ => rfl] at hDP
                  have hSS := HSS.out
                  rw [hDP] at hSS
                  simp only [dlift, ne_eq, not_true_eq_false, if_false, List.append_nil, Nat.add_zero] at hSS
                  have hKK := HST.out.1 (by rw [hSS]) (by rw [hSS]; simp only [backs_len]; omega)
                  rw [hSS] at hKK
                  simp only [backs_len, List.drop_drop] at hKK
                  obtain rfl : k8 = M := by omega
                  have HFIN := Lib.hid (And.intro hKK (And.intro hll (And.intro hpk (And.intro hdc (And.intro hrb (And.intro hol hbl))))))
                  clear hll hpk hdc hrb hol hbl how hap hDP hSS hKK hJ hk8e hqq
                  go_wp2_with fail
                  go_roundg (N - (L + k8))
                  case measure => omega
                  case rel =>
                    obtain ⟨hKK, hll, hpk, hdc, hrb, hol, hbl⟩ := HFIN.out
                    have e1 := HCC.out
                    have e2 := HDI.out
                    have e3 := HB.out.1
                    have hdd2 : dd = n - (m0 + (a + (m1 + (j + cnt)))) := by omega
                    have hrd2 : ys.drop (m0 + (a + (m1 + (j + cnt)))) = b2.drop cnt := by rw [← e2.2.2, ← e3, List.drop_drop, List.drop_drop]; congr 1; omega
                    refine ⟨L + k8, a + (m1 + (j + cnt)), A0, A9, c0, c9, by rw [← hdd2], by omega, by rw [hpk], by omega, by omega, rfl, Lib.hid ⟨D ++ backs f l, by rw [List.length_append, backs_len, HDL.out, hll]; omega, by rw [← hdd2, hrd2]; exact hrb, by rw [← hpk]; exact hol, hbl, ?_⟩⟩
                    rw [hKK, hll, Nat.sub_sub, Nat.add_assoc m0 a]
        · have hPP := HBAD.out _ (by have hgl : dstep (N - L) (ys.drop (m0 + a)) = ([], 0, (vget 0 (ys.drop (m0 + a))).2.2) := (by unfold dstep; rw [if_pos he1]); have := hbd (by rw [hgl]; exact he1); rw [hgl] at this; exact this) he1
          obtain ⟨g, hg⟩ : ∃ g, vget 0 (ys.drop (m0 + a)) = g := ⟨_, rfl⟩
          rw [hg] at hgt hPP he1
          obtain ⟨v1, m1, er⟩ := g
          simp only at he1 hPP
          have hne : (er != 0) = true := by simp [he1]
          have HPP := Lib.hid hPP
          have HG1 := Lib.hid hgt
          clear hM hmn hbX hgt hst hbd hg hPP hI hDl hrd ho hbl hKe
          go_wp2_with fail
          refine (HMN.out _).mono ?_
          rintro e w3 ⟨rfl, rfl⟩
          go_wp2_with fail
          refine HG1.out.mono ?_
          rintro e w3 ⟨rfl, rfl⟩
          go_wp2
          go_ret2
          exact ⟨none, 0, 0, by rw [HPP.out]; rfl, by rw [HPP.out]; exact owns_nil _ _ _ _, HO.out.2.1⟩
      · obtain rfl : L = N := by omega
        have hd : decide (L < L) = false := by simp
        obtain ⟨D, hDl, hrd, ho, hbl, hKe⟩ := hI.out
        rw [Nat.sub_self, drun_end] at hKe
        have hR := HR.out
        rw [hKe] at hR
        simp only [ne_eq, not_true_eq_false, if_false] at hR
        have e0 := HP.out
        rw [hR] at e0
        have HO := Lib.hid (And.intro ho hbl)
        by_cases hlong : m0 + a < n
        · rw [(rerr_long HQ.out rfl hlong).1, (rerr_long (l := []) HQ.out rfl hlong).2] at e0
          have E0 := Lib.hid e0
          have hpos : (0 : Int) < ((n - (m0 + a) : Nat) : Int) := by omega
          clear e0 hR hKe hrd ho hbl hI
          go_wp2
          go_ret2
          exact ⟨none, 0, 0, by rw [E0.out]; rfl, by rw [E0.out]; exact owns_nil _ _ _ _, HO.out.2⟩
        · rw [(rerr_ok HQ.out rfl hlong).1, (rerr_ok (l := []) HQ.out rfl hlong).2] at e0
          have E0 := Lib.hid e0
          have hz0 : n - (m0 + a) = 0 := by omega
          rw [hz0]
          clear e0 hR hKe hrd ho hbl hI hz0
          go_wp2
          go_ret2
          exact ⟨A9, L, c9, by rw [E0.out]; rfl, by rw [E0.out]; exact HO.out.1, HO.out.2⟩
end Go.Proofs.Ytkbcmblgieoleaa
