/-
  Chapter 11: the reference's Decode.
-/
import Derived.Test.YtkbcmblgieoleaaG18
import Derived.Test.YtkbcmblgieoleaaG24
import Derived.Test.YtkbcmblgieoleaaG25
import Derived.Test.YtkbcmblgieoleaaG27
import Derived.Test.YtkbcmblgieoleaaG28
namespace Go.Cor
open Go Go.RowKit
theorem shl_room {h j k : Nat} (hj : j ≤ k) (hk : k ≤ 64) (hh : h < 2 ^ (64 - k)) : h * 2 ^ j < 18446744073709551616 := by
  have := or_room (g := h) (x := 0) (k := j) (by omega) (Nat.lt_of_lt_of_le hh (pow_mono2 (by omega))) (pow_pos2 j)
  omega
theorem mix_take {J : List Int} {i : Nat} (h : i < J.length) : J.take i ++ [J[i]?.getD 0] = J.take (i + 1) := by
  rw [List.take_add_one, List.getElem?_eq_getElem h]; simp
end Go.Cor
namespace Go.Proofs.Ytkbcmblgieoleaa
open Go.RowKit Go.Cor Go.Free

set_option maxRecDepth 100000 in
set_option maxHeartbeats 16000000 in
theorem refFDecode_any (w : World) (A : Option Addr) (n c : Nat) (ys : List Int) (N : Int) (h : Rd w .u8 A n c ys) (hby : By ys) (hn : n ≤ 100000) :
    Calls Try.prog 26 #[.slice A n c, .int .i64 N] w (DecG w.heap.size w fdec ys N) := by
  have hlen := h.len
  have hbk := refBlock_any N
  obtain ⟨q, hq⟩ : ∃ q, blk N = q := ⟨_, rfl⟩
  have hP : fdec ys N = (rlist N n (frun N.toNat ys).2.1 (frun N.toNat ys).2.2 (frun N.toNat ys).1, rerr N n (frun N.toNat ys).2.1 (frun N.toNat ys).2.2) := by unfold fdec decOf; rw [hlen]
  rw [hq] at hbk
  have HBK := Lib.hid hbk
  have H := Lib.hid h
  have HBY := Lib.hid hby
  have HLEN := Lib.hid hlen
  cases q with
  | false =>
    have HP := Lib.hid (show fdec ys N = ([], 7) by rw [hP, (rerr_blk hq).1, (rerr_blk (l := []) hq).2])
    clear h hby hlen hbk hq hP
    go_enter Try.func26, Try.ntmps26
    go_wp2_with fail
    refine (HBK.out w).mono ?_
    rintro e w' ⟨rfl, rfl⟩
    go_wp2
    go_ret2
    exact ⟨none, 0, 0, by rw [HP.out]; rfl, by rw [HP.out]; exact owns_nil _ _ _ _, Below.refl _ _⟩
  | true =>
    have hN := of_decide_eq_true hq
    obtain ⟨M, rfl⟩ := Int.eq_ofNat_of_zero_le (show 0 ≤ N by omega)
    have hM : M ≤ 1024 := by omega
    have hM0 : 0 < M := by omega
    rw [show ((M : Int)).toNat = M from rfl] at hP
    have hbad : ∀ e : Int, frun M ys = ([], 0, e) → e ≠ 0 → fdec ys M = ([], e) := by
      intro e he h0; rw [hP, he, (rerr_err hq h0).1, (rerr_err (l := []) hq h0).2]
    by_cases h9 : n < 9
    · have HP := Lib.hid (hbad 1 (by unfold frun; rw [if_pos (by omega)]) (by decide))
      clear h hby hlen hbk hq hP hN hbad
      go_enter Try.func26, Try.ntmps26
      go_wp2_with fail
      refine (HBK.out w).mono ?_
      rintro e w' ⟨rfl, rfl⟩
      go_wp2
      go_ret2
      exact ⟨none, 0, 0, by rw [HP.out]; rfl, by rw [HP.out]; exact owns_nil _ _ _ _, Below.refl _ _⟩
    obtain ⟨b0, o0, rfl, hbl0, hc0⟩ := h.get (by omega)
    have hcell := hc0 8 (by omega)
    rw [List.getD_eq_getElem?_getD] at hcell
    have hx8 := hby (ys[8]?.getD 0) (by rw [List.getElem?_eq_getElem (by omega)]; exact List.getElem_mem _)
    obtain ⟨k, hk⟩ := Int.eq_ofNat_of_zero_le hx8.1
    obtain ⟨f, hf⟩ : ∃ f, num (ys.take 8) = f := ⟨_, rfl⟩
    have hR : frun M ys = if 64 < k then ([], 0, 6) else if (fhighs M k (ys.drop 9)).2.2 ≠ 0 then ([], 0, (fhighs M k (ys.drop 9)).2.2)
        else if (unpk k M (ys.drop (9 + (fhighs M k (ys.drop 9)).2.1))).2 ≠ 0 then ([], 0, (unpk k M (ys.drop (9 + (fhighs M k (ys.drop 9)).2.1))).2)
        else (backs f (fjoin k (fhighs M k (ys.drop 9)).1 (unpk k M (ys.drop (9 + (fhighs M k (ys.drop 9)).2.1))).1), n, 0) := by
      unfold frun; rw [if_neg (by omega), hk, Int.toNat_natCast, hf, hlen]
    rw [hk] at hcell hx8
    have hk255 : k ≤ 255 := by omega
    have HCELL := Lib.hid hcell
    have HF := Lib.hid hf
    have HBAD := Lib.hid hbad
    have HP := Lib.hid hP
    have HR := Lib.hid hR
    have HQ := Lib.hid hq
    have hcap := h.cap
    clear h hby hlen hbk hq hP hN hbad hc0 hk hR hx8 hf hcell
    go_enter Try.func26, Try.ntmps26
    go_wp2_with fail
    refine (HBK.out w).mono ?_
    rintro e w' ⟨rfl, rfl⟩
    go_wp2_with fail
    refine wp_region_free 10 (by kernel_rfl) (by kernel_rfl) ?_
    refine chain_val (.slice (some ⟨b0, o0, none⟩) n c) (S := [0]) rfl ?_ ?_
    · intro ρ w' hE hB hs
      have h0 : ρ (.tmp 0) = .slice (some ⟨b0, o0, none⟩) n c := hs 0 (by decide)
      clear hs
      refine if_t (by rfl) ?_
      (go_simp <;> exact wrapi64_in _ (by omega) (by omega))
    refine chain_fact (RdF .u8 (ys.take 8)) (RdF.stable _ _) (S := [30]) rfl ?_ ?_
    · intro ρ w' hE hB hs
      have h30 : ρ (.tmp 30) = .slice (some ⟨b0, o0, none⟩) n c := hs 30 (by decide)
      clear hs
      have hc := hE.const
      refine if_t (by rfl) ?_
      have hrun : (Instr.sliceAt 30 (.slice (some ⟨b0, o0, none⟩) n c) none (some (.int .i64 8)) none).run Try.prog w' = _ := run_h elemU8 (some ⟨b0, o0, none⟩) n c (j := 8) (by omega) .i64
      refine ⟨_, ?_, _, _, _, rfl, (H.out.below hB).take (by omega)⟩
      unfold execOp
      simp only [Option.map, h30, hc, hrun, Sem.run_bind, Result.andThen_ok, Sem.run_pure]
    refine chain_static (fun v__ _ => v__ = .int .u64 f) (stable_eq _) (S := [31]) rfl (Go.Cor.enters_f Try.func71 (by kernel_rfl) rfl) rfl ?_ ?_
    · intro ρ w' hE hB hs
      have h31 : (RdF .u8 (ys.take 8)) (ρ (.tmp 31)) w' := hs 31 (by decide)
      clear hs
      obtain ⟨A31, n31, c31, e31, r31⟩ := h31
      refine ⟨(by rfl), ?_⟩
      simp only [List.map_toArray, List.map_cons, List.map_nil, e31]
      refine (refNumber_any _ _ _ _ _ r31 (HBY.out.take 8) (by have := r31.len; rw [List.length_take] at this; omega)).mono ?_
      rintro e w3 ⟨rfl, rfl⟩
      exact ⟨_, rfl, Below.refl _ _, by rw [HF.out]⟩
    refine chain_val (.int .i64 (w64 f)) (S := [32]) rfl ?_ ?_
    · intro ρ w' hE hB hs
      have h32 : ρ (.tmp 32) = .int .u64 f := hs 32 (by decide)
      clear hs
      refine if_t (by rfl) ?_
      (go_simp <;> exact wrapi64 _)
    refine chain_val (.slice (some ⟨b0, o0, none⟩) n c) (S := [0]) rfl ?_ ?_
    · intro ρ w' hE hB hs
      have h0 : ρ (.tmp 0) = .slice (some ⟨b0, o0, none⟩) n c := hs 0 (by decide)
      clear hs
      refine if_t (by rfl) ?_
      (go_simp <;> exact wrapi64_in _ (by omega) (by omega))
    refine chain_val (.pointer (some ⟨b0, o0 + 8, none⟩)) (S := [34]) rfl ?_ ?_
    · intro ρ w' hE hB hs
      have h34 : ρ (.tmp 34) = .slice (some ⟨b0, o0, none⟩) n c := hs 34 (by decide)
      clear hs
      have hc := hE.const
      refine if_t (by rfl) ?_
      (go_simp <;> (intro hh; omega))
    refine chain_val (.int .u8 k) (S := [35]) rfl ?_ ?_
    · intro ρ w' hE hB hs
      have h35 : ρ (.tmp 35) = .pointer (some ⟨b0, o0 + 8, none⟩) := hs 35 (by decide)
      clear hs
      refine if_t (by rfl) ?_
      have hcl := (hB.cell (p := ⟨b0, o0 + 8, none⟩) hbl0).trans HCELL.out
      go_simp
    refine chain_val (.int .i64 k) (S := [36]) rfl ?_ ?_
    · intro ρ w' hE hB hs
      have h36 : ρ (.tmp 36) = .int .u8 k := hs 36 (by decide)
      clear hs
      refine if_t (by rfl) ?_
      (go_simp <;> exact wrapi64_in _ (by omega) (by omega))
    refine chain_val (.int .i64 (w64 f)) (S := [33]) rfl ?_ ?_
    · intro ρ w' hE hB hs
      have h33 : ρ (.tmp 33) = .int .i64 (w64 f) := hs 33 (by decide)
      clear hs
      refine if_t (by rfl) ?_
      (go_simp <;> exact wrapi64_in _ (by omega) (by omega))
    refine chain_val (.int .i64 k) (S := [37]) rfl ?_ ?_
    · intro ρ w' hE hB hs
      have h37 : ρ (.tmp 37) = .int .i64 k := hs 37 (by decide)
      clear hs
      refine if_t (by rfl) ?_
      (go_simp <;> exact wrapi64_in _ (by omega) (by omega))
    intro w1 hB1
    simp only [List.reverse_cons, List.reverse_nil, List.nil_append, List.cons_append, Go.Free.Ends, forall_eq, Act.put, List.setIfInBounds_toArray, List.set_cons_zero, List.set_cons_succ]
    rintro _ _
    have HB1 := Lib.hid hB1
    clear hB1
    by_cases hk64 : 64 < k
    · have hP := Lib.hid (HBAD.out 6 (by rw [HR.out, if_pos hk64]) (by decide))
      go_wp2
      go_ret2
      exact ⟨none, 0, 0, by rw [hP.out]; rfl, by rw [hP.out]; exact owns_nil _ _ _ _, HB1.out⟩
    have hk2 : k ≤ 64 := by omega
    have hR := HR.out
    rw [if_neg hk64] at hR
    have hFB : ∀ e : Int, fhighs M k (ys.drop 9) = ([], 0, e) → e ≠ 0 → fdec ys M = ([], e) := fun e h1 h2 => HBAD.out e (by rw [hR, h1, if_pos h2]) h2
    have HFB := Lib.hid hFB
    have HR2 := Lib.hid hR
    have hbX := HBY.out.drop 9
    have hgt := fun A' c' w' hr => refGet_any A' (n - 9) c' (ys.drop 9) w' hr hbX (by omega)
    clear hFB hR HR
    by_cases he1 : (vget 0 (ys.drop 9)).2.2 = 0
    · obtain ⟨v, m, hv, hm1, hm2, hv64⟩ := vget_shape hbX he1
      rw [List.length_drop, HLEN.out] at hm2
      rw [hv] at hgt
      have hfg := fhighs_get M k hv
      rw [List.drop_drop] at hfg
      have HGT := Lib.hid hgt
      have HFG := Lib.hid hfg
      have eM : IntKind.u64.wrap (M : Int) = (M : Int) := wrapu64_in _ (by omega) (by omega)
      clear hgt hfg hbX he1 hv
      by_cases hvM : M < v
      · have hP := Lib.hid (HFB.out 7 (by rw [HFG.out, if_pos hvM]) (by decide))
        go_wp2_with (refine wpList_slice_l (o := ⟨some 42, _, _, _, _, _⟩) rfl rfl elemU8 H.out rfl (kl := .i64) (l := 9) rfl (by omega) ?_; intro A1 c1 hrd1; have HRD1 := Lib.hid hrd1; clear hrd1)
        refine (HGT.out _ _ _ (HRD1.out.below HB1.out)).mono ?_
        rintro e w' ⟨rfl, rfl⟩
        go_wp2
        go_ret2
        exact ⟨none, 0, 0, by rw [hP.out]; rfl, by rw [hP.out]; exact owns_nil _ _ _ _, HB1.out⟩
      have hfg := HFG.out
      rw [if_neg hvM] at hfg
      have hd : decide (M < v) = false := by simp; omega
      have hmk := run_make_row' (P := Try.prog) 51 32 (.int .u64 0) 8 Try.underlying51 (by kernel_rfl) rfl .i64 .i64 M (by omega) (by omega)
      have HFG2 := Lib.hid hfg
      clear HFG hfg
      go_wp2_with (refine wpList_slice_l (o := ⟨some 42, _, _, _, _, _⟩) rfl rfl elemU8 H.out rfl (kl := .i64) (l := 9) rfl (by omega) ?_; intro A1 c1 hrd1; have HRD1 := Lib.hid hrd1; clear hrd1)
      refine (HGT.out _ _ _ (HRD1.out.below HB1.out)).mono ?_
      rintro e w' ⟨rfl, rfl⟩
      go_wp2_with (refine wpList_slice_l (o := ⟨some 57, _, _, _, _, _⟩) rfl rfl elemU8 H.out rfl (kl := .i64) (l := 9 + m) rfl (by omega) ?_; intro A2 c2 hrd2; have HRD2 := Lib.hid hrd2; clear hrd2)
      have hst : Owns (w1.alloc (.cells (madeCells #[.int .u64 0] M) 32)) w1.heap.size 32 .u64 (some ⟨w1.heap.size, 0, none⟩) M M (List.replicate M 0) := owns_made (Nat.le_refl _) (by simp [maxLen]; omega)
      obtain ⟨W1, hW1⟩ : ∃ W1, w1.alloc (.cells (madeCells #[.int .u64 0] M) 32) = W1 := ⟨_, rfl⟩
      have hb1 : Below w.heap.size w W1 := by rw [← hW1]; exact HB1.out.alloc HB1.out.size _
      rw [hW1] at hst
      rw [hW1]
      have HST := Lib.hid hst
      have HBW := Lib.hid hb1
      have hsz1 := HB1.out.size
      clear hst hb1 hW1 hmk
      obtain ⟨B, hB⟩ : ∃ B, w1.heap.size = B := ⟨_, rfl⟩
      rw [hB] at HST hsz1
      rw [hB]
      clear hB
      go_loopg [0, 12, 13] v (fun gg v0 v12 v13 wr => ∃ (j a cc : Nat) (Hl : List Int) (A0 : Option Addr) (c0 : Nat), v13 = .int .u64 j ∧ j ≤ v ∧ gg = v - j ∧ v12 = .int .i64 ((a : Int) - 1) ∧ a ≤ M ∧ 9 + cc ≤ n ∧ v0 = .slice A0 (n - (9 + cc)) c0 ∧ Hid (Owns wr B 32 .u64 (some ⟨B, 0, none⟩) M M Hl ∧ Rd w .u8 A0 (n - (9 + cc)) c0 (ys.drop (9 + cc)) ∧ Below w.heap.size w wr ∧ fhighs M k (ys.drop 9) = dlift [] cc (fexc M k (v - j) a Hl (ys.drop (9 + cc)))))
      case atStart => exact ⟨0, 0, m, _, A2, c2, rfl, by omega, by omega, rfl, by omega, by omega, rfl, Lib.hid ⟨HST.out, HRD2.out, HBW.out, HFG2.out⟩⟩
      case round =>
        obtain ⟨j, a, cc, Hl, A0, c0, rfl, hj, rfl, rfl, ha, hcc, rfl, hI⟩ := hrel
        obtain ⟨wo, rfl⟩ : ∃ wo, wo = wr := ⟨_, rfl⟩
        by_cases hlt : j < v
        · have hdj : decide (j < v) = true := by simp; omega
          have hR0 := hI.out.2.2.2
          rw [show v - j = (v - (j + 1)) + 1 by omega] at hR0
          have hbX := HBY.out.drop (9 + cc)
          have hgt := refGet_any A0 (n - (9 + cc)) c0 (ys.drop (9 + cc)) wo (hI.out.2.1.below hI.out.2.2.1) hbX (by omega)
          by_cases he1 : (vget 0 (ys.drop (9 + cc))).2.2 = 0
          · obtain ⟨g, m1, hg1, hm11, hm12, hg64⟩ := vget_shape hbX he1
            rw [List.length_drop, HLEN.out] at hm12
            rw [hg1] at hgt
            have HG1 := Lib.hid hgt
            have HR0 := Lib.hid (And.intro hR0 hg1)
            clear hgt hR0 hbX he1 hg1
            by_cases hga : M - a ≤ g
            · have hdg : decide ((M : Int) - ((a : Int) - 1) - 1 ≤ (g : Int)) = true := by simp; omega
              have hR := HR0.out.1
              rw [fexc_bad2 HR0.out.2 hga, dlift_bad (by decide)] at hR
              have hP := Lib.hid (HFB.out _ hR (by decide))
              clear hR
              go_wp2_with fail
              refine HG1.out.mono ?_
              rintro e w' ⟨rfl, rfl⟩
              go_wp2
              go_ret2
              exact ⟨none, 0, 0, by rw [hP.out]; rfl, by rw [hP.out]; exact owns_nil _ _ _ _, hI.out.2.2.1⟩
            · have hdg : decide ((M : Int) - ((a : Int) - 1) - 1 ≤ (g : Int)) = false := by simp; omega
              have hbX2 := HBY.out.drop (9 + cc + m1)
              have hgt2 := fun A' c' hr => refGet_any A' (n - (9 + cc) - m1) c' ((ys.drop (9 + cc)).drop m1) wo hr (by rw [List.drop_drop]; exact hbX2) (by omega)
              by_cases he2 : (vget 0 ((ys.drop (9 + cc)).drop m1)).2.2 = 0
              · obtain ⟨x, m2, hx1, hm21, hm22, hx64⟩ := vget_shape (by rw [List.drop_drop]; exact hbX2) he2
                rw [List.length_drop, List.length_drop, HLEN.out] at hm22
                rw [hx1] at hgt2
                have HG2 := Lib.hid hgt2
                have HX1 := Lib.hid hx1
                clear hgt2 hbX2 he2 hx1
                go_wp2_with fail
                refine HG1.out.mono ?_
                rintro e w' ⟨rfl, rfl⟩
                go_wp2_with (refine wpList_slice_l (o := ⟨some 89, _, _, _, _, _⟩) rfl rfl elemU8 hI.out.2.1 rfl (kl := .i64) (l := m1) rfl (by omega) ?_; intro A3 c3 hrd3; have HRD3 := Lib.hid hrd3; clear hrd3)
                refine (HG2.out _ _ (HRD3.out.below hI.out.2.2.1)).mono ?_
                rintro e w' ⟨rfl, rfl⟩
                by_cases hx0 : x = 0
                · subst hx0
                  have hR := HR0.out.1
                  rw [fexc_bad4 HR0.out.2 (by omega) HX1.out (.inl rfl), dlift_bad (by decide)] at hR
                  have hP := Lib.hid (HFB.out _ hR (by decide))
                  clear hR
                  go_wp2
                  go_ret2
                  exact ⟨none, 0, 0, by rw [hP.out]; rfl, by rw [hP.out]; exact owns_nil _ _ _ _, hI.out.2.2.1⟩
                have hne0 : ((x : Int) == 0) = false := by simp [hx0]
                have hof := fun w => refOf_any (x : Int) w (by omega) hx64
                have hbd := bw_bound (x : Int) hx64
                rw [show bw (x : Int) = (nbits x : Int) by simp [bw]] at hof hbd
                obtain ⟨nb, hnb⟩ : ∃ nb, nbits x = nb := ⟨_, rfl⟩
                rw [hnb] at hof hbd
                have HOF := Lib.hid (And.intro hof hnb)
                have hnb64 : nb ≤ 64 := by omega
                clear hof hnb hbd
                by_cases hnk : 64 < nb + k
                · have hd1 : decide (64 < (nb : Int) + (k : Int)) = true := by simp; omega
                  have hR := HR0.out.1
                  rw [fexc_bad4 HR0.out.2 (by omega) HX1.out (.inr (by rw [HOF.out.2]; exact hnk)), dlift_bad (by decide)] at hR
                  have hP := Lib.hid (HFB.out _ hR (by decide))
                  clear hR
                  go_wp2_with fail
                  refine (HOF.out.1 _).mono ?_
                  rintro e w' ⟨rfl, rfl⟩
                  go_wp2
                  go_ret2
                  exact ⟨none, 0, 0, by rw [hP.out]; rfl, by rw [hP.out]; exact owns_nil _ _ _ _, hI.out.2.2.1⟩
                · have hd1 : decide (64 < (nb : Int) + (k : Int)) = false := by simp; omega
                  obtain ⟨g', c', hv4, hBg, hgl, hcell, hfr, hset⟩ := owns_put (i := a + g) (y := (x : Int)) hI.out.1 (by omega)
                  injection hv4 with hA hk4 hc4
                  injection hA with hA
                  injection hA with hA
                  subst hA hc4
                  have hHl := row_len hI.out.1
                  obtain ⟨y, hy⟩ : ∃ y, Hl[a + g]? = some y := ⟨_, List.getElem?_eq_getElem (by omega)⟩
                  rw [hy, Option.map_some] at hcell
                  have HSET := Lib.hid hset
                  clear hset hHl hk4 hy
                  go_wp2_with fail
                  refine (HOF.out.1 _).mono ?_
                  rintro e w' ⟨rfl, rfl⟩
                  go_wp2_with (refine wpList_slice_l (o := ⟨some 114, _, _, _, _, _⟩) rfl rfl elemU8 hI.out.2.1 rfl (kl := .i64) (l := m1 + m2) rfl (by omega) ?_; intro A4 c4 hrd4; have HRD4 := Lib.hid hrd4; clear hrd4)
                  go_roundg (v - (j + 1))
                  case measure => omega
                  case rel =>
                    have hR := HR0.out.1
                    rw [fexc_step HR0.out.2 (by omega) HX1.out (by omega) (by rw [HOF.out.2]; omega), dlift_dlift, List.drop_drop] at hR
                    have hrd := HRD4.out
                    rw [List.drop_drop] at hrd
                    refine ⟨j + 1, a + g + 1, cc + (m1 + m2), Hl.set (a + g) (x : Int), A4, c4, by go_num, by omega, rfl, by go_num, by omega, by omega, ?_, Lib.hid ⟨HSET.out, ?_, hI.out.2.2.1.setCell hsz1 _, by simpa [Nat.add_assoc] using hR⟩⟩
                    · rw [show n - (9 + cc) - (m1 + m2) = n - (9 + (cc + (m1 + m2))) by omega]
                    · rw [show n - (9 + cc) - (m1 + m2) = n - (9 + (cc + (m1 + m2))) by omega, Nat.add_assoc] at hrd; exact hrd
              · have hR := HR0.out.1
                rw [fexc_bad3 HR0.out.2 (by omega) he2, dlift_bad he2] at hR
                have hP := Lib.hid (HFB.out _ hR he2)
                obtain ⟨er, her⟩ : ∃ er, (vget 0 ((ys.drop (9 + cc)).drop m1)).2.2 = er := ⟨_, rfl⟩
                rw [her] at hgt2 hP he2
                have hne : (er == 0) = false := by simp [he2]
                have HG2 := Lib.hid hgt2
                clear hR her hgt2 hbX2
                go_wp2_with fail
                refine HG1.out.mono ?_
                rintro e w' ⟨rfl, rfl⟩
                go_wp2_with (refine wpList_slice_l (o := ⟨some 89, _, _, _, _, _⟩) rfl rfl elemU8 hI.out.2.1 rfl (kl := .i64) (l := m1) rfl (by omega) ?_; intro A3 c3 hrd3; have HRD3 := Lib.hid hrd3; clear hrd3)
                refine (HG2.out _ _ (HRD3.out.below hI.out.2.2.1)).mono ?_
                rintro e w' ⟨rfl, rfl⟩
                go_wp2
                go_ret2
                exact ⟨none, 0, 0, by rw [hP.out]; rfl, by rw [hP.out]; exact owns_nil _ _ _ _, hI.out.2.2.1⟩
          · have hR := hR0
            rw [fexc_bad1 he1, dlift_bad he1] at hR
            have hP := Lib.hid (HFB.out _ hR he1)
            obtain ⟨er, her⟩ : ∃ er, (vget 0 (ys.drop (9 + cc))).2.2 = er := ⟨_, rfl⟩
            rw [her] at hgt hP he1
            have hne : (er == 0) = false := by simp [he1]
            have HG1 := Lib.hid hgt
            clear hR her hgt hbX hR0
            go_wp2_with fail
            refine HG1.out.mono ?_
            rintro e w' ⟨rfl, rfl⟩
            go_wp2
            go_ret2
            exact ⟨none, 0, 0, by rw [hP.out]; rfl, by rw [hP.out]; exact owns_nil _ _ _ _, hI.out.2.2.1⟩
        · obtain rfl : j = v := by omega
          have hR := hI.out.2.2.2
          rw [Nat.sub_self, fexc] at hR
          have HFH := Lib.hid (show fhighs M k (ys.drop 9) = (Hl, cc, 0) by rw [hR]; simp [dlift])
          clear hR
          have hfo := fhighs_ok (n := M) (k := k) (b := ys.drop 9) (by rw [HFH.out])
          rw [HFH.out] at hfo
          have hR := HR2.out
          rw [HFH.out, if_neg (by simp)] at hR
          have hup := refUnpack_any A0 (n - (9 + cc)) c0 (ys.drop (9 + cc)) k M wo (hI.out.2.1.below hI.out.2.2.1) (HBY.out.drop (9 + cc)) (by omega) hM hk2
          have huo := unpk_ok (k := k) (n := M) (b := ys.drop (9 + cc))
          obtain ⟨u, hu⟩ : ∃ u, unpk k M (ys.drop (9 + cc)) = u := ⟨_, rfl⟩
          rw [hu] at hup huo
          simp only [hu] at hR
          obtain ⟨us, er⟩ := u
          simp only at hup huo hR
          have HO1 := Lib.hid hI.out.1
          have HB1' := Lib.hid hI.out.2.2.1
          have HUP := Lib.hid hup
          clear hup hu hI HFH HR2 HFB HFG2 HGT HST HBW HRD1 HRD2
          by_cases her : er = 0
          · subst her
            rw [if_neg (by simp)] at hR
            have huo := huo rfl
            have HOK := Lib.hid (And.intro hfo huo)
            have HR3 := Lib.hid hR
            clear hfo huo hR
            go_wp2_with fail
            refine HUP.out.mono ?_
            rintro e w3 ⟨A5, n5, c5, rfl, ho5, hb5⟩
            obtain rfl : n5 = M := by have h1 := row_len ho5; have := HOK.out.2.1; simp only at h1; omega
            have HO5 := Lib.hid (Rd.own ho5)
            have HO1b := Lib.hid (Rd.own (Owns.below HO1.out hb5))
            have HB3 := Lib.hid (HB1'.out.trans (hb5.mono HB1'.out.size))
            clear ho5 hb5 HUP HO1
            go_wp2_with fail
            go_loopg [20, 21] n5 (fun gg v20 v21 wr => ∃ (i : Nat) (A7 : Option Addr) (c7 : Nat), v21 = .int .i64 i ∧ i ≤ n5 ∧ gg = n5 - i ∧ v20 = .slice A7 i c7 ∧ Hid (Owns wr w3.heap.size 32 .u64 A7 i c7 ((fjoin k Hl us).take i) ∧ Below w3.heap.size w3 wr))
            case atStart => exact ⟨0, none, 0, rfl, by omega, by omega, rfl, Lib.hid ⟨owns_nil _ _ _ _, Below.refl _ _⟩⟩
            case round =>
              obtain ⟨i, A7, c7, rfl, hi, rfl, rfl, hI⟩ := hrel
              obtain ⟨wp, rfl⟩ : ∃ wp, wp = wr := ⟨_, rfl⟩
              by_cases hlt2 : i < n5
              · have hdi : decide (i < n5) = true := by simp; omega
                have hHs := HOK.out.1.1
                have hus := HOK.out.2.1
                have hJ := fjoin_len k Hl us
                have hJg := fjoin_get k Hl us (i := i) (by omega)
                have hJt := mix_take (J := fjoin k Hl us) (i := i) (by omega)
                obtain ⟨g, hg⟩ := Int.eq_ofNat_of_zero_le ((HOK.out.1.2 (Hl[i]?.getD 0) (by rw [List.getElem?_eq_getElem (by omega)]; exact List.getElem_mem _)).1)
                obtain ⟨x, hx⟩ := Int.eq_ofNat_of_zero_le ((HOK.out.2.2 (us[i]?.getD 0) (by rw [List.getElem?_eq_getElem (by omega)]; exact List.getElem_mem _)).1)
                have hg2 := (HOK.out.1.2 (Hl[i]?.getD 0) (by rw [List.getElem?_eq_getElem (by omega)]; exact List.getElem_mem _)).2
                have hx2 := (HOK.out.2.2 (us[i]?.getD 0) (by rw [List.getElem?_eq_getElem (by omega)]; exact List.getElem_mem _)).2
                rw [hg, Int.toNat_natCast] at hg2
                rw [hx] at hx2
                have hx3 : x < 2 ^ k := by exact_mod_cast hx2
                have hgx := or_room hk2 hg2 hx3
                rw [hJg, hg, hx, room_cast] at hJt
                obtain ⟨b1, o1, e1, hbl1, hc1⟩ := (HO1b.out.below hI.out.2).get (by omega)
                have hcell1 := hc1 i hlt2
                rw [List.getD_eq_getElem?_getD, hg] at hcell1
                obtain ⟨rfl, rfl⟩ := addr_inj e1
                rw [Nat.zero_add] at hcell1
                obtain ⟨b5, o5, e5, hbl5, hc5⟩ := (HO5.out.below hI.out.2).get (by omega)
                have hcell5 := hc5 i hlt2
                rw [List.getD_eq_getElem?_getD, hx] at hcell5
                have HJ := Lib.hid hJt
                have HG := Lib.hid hg2
                have HGX := Lib.hid hgx
                clear hHs hus hJ hJg hJt hg hx hg2 hx2 hx3 hgx hc1 e1 hc5
                subst e5
                go_wp2_with fail
                go_loopg [22, 23] k (fun gg v22 v23 wr => ∃ (j2 y : Nat), v23 = .int .i64 j2 ∧ j2 ≤ k ∧ gg = k - j2 ∧ v22 = .int .u64 y ∧ wp = wr ∧ Hid (y = g * 2 ^ j2))
                case atStart => exact ⟨0, g, rfl, by omega, by omega, rfl, rfl, Lib.hid (by simp)⟩
                case round =>
                  obtain ⟨j2, y, rfl, hj2, rfl, rfl, rfl, hy⟩ := hrel
                  by_cases hlt3 : j2 < k
                  · have hdj : decide (j2 < k) = true := by simp; omega
                    have hs := shl_room (h := g) (j := j2 + 1) (k := k) (by omega) hk2 HG.out
                    rw [Nat.pow_succ, ← Nat.mul_assoc, ← hy.out] at hs
                    have HY := Lib.hid (show 2 * y = g * 2 ^ (j2 + 1) by rw [hy.out, Nat.pow_succ, Nat.mul_comm 2, Nat.mul_assoc])
                    have ew : IntKind.u64.wrap (2 * (y : Int)) = 2 * (y : Int) := wrapu64_in _ (by omega) (by omega)
                    clear hs hy
                    go_wp2_with fail
                    go_roundg (k - (j2 + 1))
                    case measure => omega
                    case rel => exact ⟨j2 + 1, 2 * y, by go_num, by omega, rfl, val_i (by omega), rfl, Lib.hid HY.out⟩
                  · obtain rfl : j2 = k := by omega
                    have hdj : decide (j2 < j2) = false := by simp
                    have hgx := HGX.out
                    have hJt := HJ.out
                    rw [← hy.out] at hgx hJt
                    have ew : IntKind.u64.wrap ((y : Int) + (x : Int)) = (y : Int) + (x : Int) := wrapu64_in _ (by omega) (by omega)
                    have HJ2 := Lib.hid hJt
                    clear hgx hJt hy
                    go_wp2_with (at_builtin; refine wpList_append_r rfl rfl elemU64 (hI.out.1.alloc _) rfl (RdV.one (Box.new _ _ _)) rfl one_one (by omega) (by omega) (by have := hI.out.2.size; simp; omega) ?_; intro A8 c8 w4 hown hgr _; have HW := Lib.hid (And.intro (owns_snoc hown) (below_grown (hI.out.2.alloc hI.out.2.size _) (hI.out.1.alloc _) hgr (by have := hI.out.2.size; simp; omega))); clear hown hgr)
                    go_roundg (n5 - (i + 1))
                    case measure => omega
                    case rel => exact ⟨i + 1, A8, c8, by go_num, by omega, rfl, rfl, Lib.hid ⟨by rw [← HJ2.out, Int.natCast_add]; exact HW.out.1, HW.out.2⟩⟩
              · obtain rfl : i = n5 := by omega
                have hdi : decide (i < i) = false := by simp
                have hrd := hI.out.1
                have hl2 := HOK.out.2.1
                rw [List.take_of_length_le (by rw [fjoin_len]; omega)] at hrd
                have hbk := refBack_any (w64 f) A7 i c7 (fjoin k Hl us) wp (Rd.own hrd) (by omega)
                rw [backs_w64] at hbk
                have HBK2 := Lib.hid hbk
                have HB5 := Lib.hid (HB3.out.trans (hI.out.2.mono HB3.out.size))
                have HP2 := Lib.hid (show fdec ys i = (backs f (fjoin k Hl us), 0) by rw [HP.out, HR3.out]; unfold rlist rerr; simp [HQ.out])
                clear hrd hl2 hbk hI
                go_wp2_with fail
                refine HBK2.out.mono ?_
                rintro e w6 ⟨A9, n9, c9, rfl, ho9, hb9⟩
                go_wp2
                go_ret2
                exact ⟨A9, n9, c9, by rw [HP2.out]; rfl, by rw [HP2.out]; exact owns_weak ho9 HB5.out.size, HB5.out.trans (hb9.mono HB5.out.size)⟩
          · rw [if_pos (by simpa using her)] at hR
            have hP := Lib.hid (HBAD.out _ hR her)
            have hne : (er == 0) = false := by simp [her]
            clear hR
            go_wp2_with fail
            refine HUP.out.mono ?_
            rintro e w3 ⟨A5, n5, c5, rfl, ho5, hb5⟩
            go_wp2
            go_ret2
            exact ⟨none, 0, 0, by rw [hP.out]; rfl, by rw [hP.out]; exact owns_nil _ _ _ _, HB1'.out.trans (hb5.mono HB1'.out.size)⟩
    · have hP := Lib.hid (HFB.out _ (by unfold fhighs; rw [if_pos he1]) he1)
      have HGT := Lib.hid hgt
      obtain ⟨er, her⟩ : ∃ er, (vget 0 (ys.drop 9)).2.2 = er := ⟨_, rfl⟩
      rw [her] at HGT hP he1
      have hne : (er == 0) = false := by simp [he1]
      clear hgt her hbX
      go_wp2_with (refine wpList_slice_l (o := ⟨some 42, _, _, _, _, _⟩) rfl rfl elemU8 H.out rfl (kl := .i64) (l := 9) rfl (by omega) ?_; intro A1 c1 hrd1; have HRD1 := Lib.hid hrd1; clear hrd1)
      refine (HGT.out _ _ _ (HRD1.out.below HB1.out)).mono ?_
      rintro e w' ⟨rfl, rfl⟩
      go_wp2
      go_ret2
      exact ⟨none, 0, 0, by rw [hP.out]; rfl, by rw [hP.out]; exact owns_nil _ _ _ _, HB1.out⟩
end Go.Proofs.Ytkbcmblgieoleaa
