/-
  VarintBack: for every input the law returns true; each argument reads behind the call as it read before. No condition.
-/
import Derived.Test.YtibfbomihopgaaaVarA
import Derived.Test.YtibfbomihopgaaaVarN
import Derived.ProofKit
import Derived.OpenShut
import Derived.ChangeOld
namespace Go.Proofs.Ytibfbomihopgaaa
open Go.RowKit Go.Cor Go.Free

set_option maxRecDepth 100000 in
set_option maxHeartbeats 2000000 in
theorem VarintBack_walk (W : World) (v' : Int) (hv : Fits .u64 v') (A1 : Option Addr) (n1 c1 : Nat) (rs : List Int) (h1 : Rd W .u8 A1 n1 c1 rs) (hr : In .u8 rs) (A2 : Option Addr) (n2 c2 : Nat) (bs : List Int) (h2 : Rd W .u8 A2 n2 c2 bs) (hb : In .u8 bs) :
    Calls Try.prog 12 #[.int .u64 v', .slice A1 n1 c1, .slice A2 n2 c2] W fun e w' => e = .returned (.bool true) ∧ Below W.heap.size W w' := by
  obtain ⟨v, rfl⟩ := Int.eq_ofNat_of_zero_le hv.1
  by_cases hn : 100 < n1 ∨ 100 < n2
  · clear h1 h2 hr hb hv
    rcases hn with hn | hn
    · go_enter Try.func12, Try.ntmps12
      go_wp2
      go_ret
      exact ⟨rfl, Below.refl _ _⟩
    · by_cases hm : 100 < n1
      · go_enter Try.func12, Try.ntmps12
        go_wp2
        go_ret
        exact ⟨rfl, Below.refl _ _⟩
      · go_enter Try.func12, Try.ntmps12
        go_wp2
        go_ret
        exact ⟨rfl, Below.refl _ _⟩
  · have hn1 : n1 ≤ 100 := by omega
    have hn2 : n2 ≤ 100 := by omega
    have hvl := vput_len_u64 v (by have := hv.2; omega)
    have e1 := vget_put v 0 rs (by decide) (by have := hv.2; simp; omega) (fun h => absurd h (by decide))
    have e2 := vget_back bs hb 0 (by decide)
    have hbd : ∀ x ∈ vput v ++ rs, 0 ≤ x ∧ x ≤ 255 := by
      intro x hx
      rcases List.mem_append.1 hx with hx | hx
      · exact vput_bytes v x hx
      · exact hr x hx
    have ee := vget_err (i := 0) (b := bs)
    obtain ⟨y3, hy3⟩ : ∃ r, vget 0 bs = r := ⟨_, rfl⟩
    rw [hy3] at e2 ee
    have HY := Lib.hid hy3
    have E2 := Lib.hid e2
    have EE := Lib.hid ee
    have H1 := Lib.hid h1
    have H2 := Lib.hid h2
    have HB := Lib.hid hb
    have HBD := Lib.hid hbd
    have HV := Lib.hid hv.2
    clear e2 ee h1 h2 hb hr hv hn hy3 hbd
    obtain ⟨m, hm⟩ : ∃ m, (vput v).length = m := ⟨_, rfl⟩
    rw [hm] at hvl e1
    have e1' : vget 0 (vput v ++ rs) = ((v : Int), (m : Int), 0) := by rw [e1]; simp
    have E1 := Lib.hid e1'
    clear e1 e1'
    have HM := Lib.hid hm
    clear hm
    go_enter Try.func12, Try.ntmps12
    go_wp2_with fail
    refine (put_any none 0 0 [] v _ (Rd.nilv _ _) (by decide) HV.out).mono ?_
    rintro e w1 ⟨A, n, c, rfl, hown, hb1⟩
    obtain rfl : n = m := by have q1 := hown.1; have q2 := HM.out; simp at q1; omega
    have HO := Lib.hid hown
    have HB1 := Lib.hid hb1
    clear hown hb1
    go_wp2_with (at_builtin; refine wpList_append_r rfl rfl elemU8 HO.out rfl (Rd.toV (H1.out.below HB1.out)) rfl ints_one (by omega) (by omega) HB1.out.size ?_; intro A' c' w2 hown hg _)
    have hrd : Rd w2 .u8 A' (n + n1) c' (vput v ++ rs) := Rd.own (owns_app hown)
    have HRD := Lib.hid hrd
    have HB2 := Lib.hid (below_grown HB1.out HO.out hg HB1.out.size)
    clear hrd hown hg
    go_wp2_with fail
    have hg := get_any _ _ _ _ _ HRD.out HBD.out
    rw [E1.out] at hg
    refine hg.mono ?_
    clear hg
    rintro e w' ⟨rfl, rfl⟩
    go_wp2_with fail
    refine (size_any v _ HV.out).mono ?_
    rw [HM.out]
    rintro e w3 ⟨rfl, hb3⟩
    have HB3 := Lib.hid (HB2.out.trans (hb3.mono HB2.out.size))
    clear hb3
    go_wp2_with fail
    have hg2 := get_any _ _ _ _ w3 (H2.out.below HB3.out) HB.out
    rw [HY.out] at hg2
    refine hg2.mono ?_
    clear hg2
    rintro e w' ⟨rfl, rfl⟩
    obtain ⟨y, m2, f⟩ := y3
    by_cases hf : f = 0
    · subst hf
      obtain ⟨yy, mm, q1, q2, q3, q4, q5, q6, _⟩ := E2.out rfl
      simp only at q1 q2 q6
      obtain rfl : m2 = (mm : Int) := by simpa using q2
      subst q1
      have q4' : mm ≤ n2 := by have := H2.out.len; omega
      have HQ := Lib.hid q5
      have hyu : (yy : Int) ≤ 18446744073709551615 := by simp at q6; omega
      have HRW := Lib.hid (H2.out.below HB3.out)
      have hc2 := H2.out.cap
      clear q2 q4 q5 q6
      go_wp2_with fail
      refine wp_region_free 22 (by kernel_rfl) (by kernel_rfl) ?_
      refine chain_val (.int .i64 (mm : Int)) (S := [11]) rfl ?_ ?_
      · intro ρ w' hE hB hs
        have h11 : ρ (.tmp 11) = .int .i64 (mm : Int) := hs 11 (by decide)
        clear hs
        refine if_t (by rfl) ?_
        go_simp
      refine chain_val (.bool true) (S := [60]) rfl ?_ ?_
      · intro ρ w' hE hB hs
        have h60 : ρ (.tmp 60) = .int .i64 (mm : Int) := hs 60 (by decide)
        clear hs
        have hc := hE.const
        refine if_t (by rfl) ?_
        go_simp
        omega
      refine chain_val (.bool true) (S := [61]) rfl ?_ ?_
      · intro ρ w' hE hB hs
        have h61 : ρ (.tmp 61) = .bool true := hs 61 (by decide)
        clear hs
        refine if_t (by rfl) ?_
        go_simp
      refine chain_val (.int .i64 (mm : Int)) (S := [11, 62]) rfl ?_ ?_
      · intro ρ w' hE hB hs
        have h11 : ρ (.tmp 11) = .int .i64 (mm : Int) := hs 11 (by decide)
        have h62 : ρ (.tmp 62) = .bool true := hs 62 (by decide)
        clear hs
        refine if_t (by simp [Region.wanted, yieldedR, h62]) ?_
        go_simp
      refine chain_val (.slice A2 n2 c2) (S := [2, 62]) rfl ?_ ?_
      · intro ρ w' hE hB hs
        have h2 : ρ (.tmp 2) = .slice A2 n2 c2 := hs 2 (by decide)
        have h62 : ρ (.tmp 62) = .bool true := hs 62 (by decide)
        clear hs
        refine if_t (by simp [Region.wanted, yieldedR, h62]) ?_
        go_simp
      refine chain_val (.int .i64 (n2 : Int)) (S := [64, 62]) rfl ?_ ?_
      · intro ρ w' hE hB hs
        have h62 : ρ (.tmp 62) = .bool true := hs 62 (by decide)
        have h64 : ρ (.tmp 64) = .slice A2 n2 c2 := hs 64 (by decide)
        clear hs
        refine if_t (by simp [Region.wanted, yieldedR, h62]) ?_
        go_simp
      refine chain_val (.bool true) (S := [63, 65, 62]) rfl ?_ ?_
      · intro ρ w' hE hB hs
        have h62 : ρ (.tmp 62) = .bool true := hs 62 (by decide)
        have h63 : ρ (.tmp 63) = .int .i64 (mm : Int) := hs 63 (by decide)
        have h65 : ρ (.tmp 65) = .int .i64 (n2 : Int) := hs 65 (by decide)
        clear hs
        refine if_t (by simp [Region.wanted, yieldedR, h62]) ?_
        go_simp
      refine chain_val (.bool true) (S := [62, 66]) rfl ?_ ?_
      · intro ρ w' hE hB hs
        have h62 : ρ (.tmp 62) = .bool true := hs 62 (by decide)
        have h66 : ρ (.tmp 66) = .bool true := hs 66 (by decide)
        clear hs
        have hc := hE.const
        refine if_t (by rfl) ?_
        go_simp
      refine chain_val (.bool true) (S := [67]) rfl ?_ ?_
      · intro ρ w' hE hB hs
        have h67 : ρ (.tmp 67) = .bool true := hs 67 (by decide)
        clear hs
        refine if_t (by rfl) ?_
        go_simp
      refine chain_val (.int .u64 (yy : Int)) (S := [10, 68]) rfl ?_ ?_
      · intro ρ w' hE hB hs
        have h10 : ρ (.tmp 10) = .int .u64 (yy : Int) := hs 10 (by decide)
        have h68 : ρ (.tmp 68) = .bool true := hs 68 (by decide)
        clear hs
        refine if_t (by simp [Region.wanted, yieldedR, h68]) ?_
        go_simp
      refine chain_static (RdF .u8 (vput yy)) (RdF.stable _ _) (S := [69, 68]) rfl (Go.Cor.enters_f Try.func18 (by kernel_rfl) rfl) rfl ?_ ?_
      · intro ρ w' hE hB hs
        have h68 : ρ (.tmp 68) = .bool true := hs 68 (by decide)
        have h69 : ρ (.tmp 69) = .int .u64 (yy : Int) := hs 69 (by decide)
        clear hs
        have hc := hE.const
        refine ⟨(by simp [Region.wanted, yieldedR, h68]), ?_⟩
        simp only [List.map_toArray, List.map_cons, List.map_nil, hc, h69]
        refine (put_any none 0 0 [] yy w' (Rd.nilv _ _) (by decide) hyu).mono ?_
        rintro e w'' ⟨A', n', c', rfl, hown, hb⟩
        exact ⟨_, rfl, hb, A', n', c', rfl, Rd.own hown⟩
      refine chain_val (.string (strOfNums (vput yy))) (S := [70, 68]) rfl ?_ ?_
      · intro ρ w' hE hB hs
        have h68 : ρ (.tmp 68) = .bool true := hs 68 (by decide)
        have h70 : (RdF .u8 (vput yy)) (ρ (.tmp 70)) w' := hs 70 (by decide)
        clear hs
        refine if_t (by simp [Region.wanted, yieldedR, h68]) ?_
        obtain ⟨A70, n70, c70, e70, r70⟩ := h70
        have hcv := conv_bytes r70 22 5 9 Try.underlying22 Try.underlying5 Try.underlying9
        clear r70
        go_simp
      refine chain_val (.slice A2 n2 c2) (S := [2, 68]) rfl ?_ ?_
      · intro ρ w' hE hB hs
        have h2 : ρ (.tmp 2) = .slice A2 n2 c2 := hs 2 (by decide)
        have h68 : ρ (.tmp 68) = .bool true := hs 68 (by decide)
        clear hs
        refine if_t (by simp [Region.wanted, yieldedR, h68]) ?_
        go_simp
      refine chain_val (.int .i64 (mm : Int)) (S := [11, 68]) rfl ?_ ?_
      · intro ρ w' hE hB hs
        have h11 : ρ (.tmp 11) = .int .i64 (mm : Int) := hs 11 (by decide)
        have h68 : ρ (.tmp 68) = .bool true := hs 68 (by decide)
        clear hs
        refine if_t (by simp [Region.wanted, yieldedR, h68]) ?_
        go_simp
      refine chain_val (.slice A2 mm c2) (S := [72, 73, 68]) rfl ?_ ?_
      · intro ρ w' hE hB hs
        have h68 : ρ (.tmp 68) = .bool true := hs 68 (by decide)
        have h72 : ρ (.tmp 72) = .slice A2 n2 c2 := hs 72 (by decide)
        have h73 : ρ (.tmp 73) = .int .i64 (mm : Int) := hs 73 (by decide)
        clear hs
        refine if_t (by simp [Region.wanted, yieldedR, h68]) ?_
        go_simp
        intro hlt
        omega
      refine chain_val (.string (strOfNums (bs.take mm))) (S := [74, 68]) rfl ?_ ?_
      · intro ρ w' hE hB hs
        have h68 : ρ (.tmp 68) = .bool true := hs 68 (by decide)
        have h74 : ρ (.tmp 74) = .slice A2 mm c2 := hs 74 (by decide)
        clear hs
        refine if_t (by simp [Region.wanted, yieldedR, h68]) ?_
        have hcv := conv_bytes ((HRW.out.take q4').below hB) 22 5 9 Try.underlying22 Try.underlying5 Try.underlying9
        go_simp
      refine chain_val (.bool true) (S := [71, 75, 68]) rfl ?_ ?_
      · intro ρ w' hE hB hs
        have h68 : ρ (.tmp 68) = .bool true := hs 68 (by decide)
        have h71 : ρ (.tmp 71) = .string (strOfNums (vput yy)) := hs 71 (by decide)
        have h75 : ρ (.tmp 75) = .string (strOfNums (bs.take mm)) := hs 75 (by decide)
        clear hs
        refine if_t (by simp [Region.wanted, yieldedR, h68]) ?_
        rw [HQ.out] at h75
        go_simp
      refine chain_val (.bool true) (S := [68, 76]) rfl ?_ ?_
      · intro ρ w' hE hB hs
        have h68 : ρ (.tmp 68) = .bool true := hs 68 (by decide)
        have h76 : ρ (.tmp 76) = .bool true := hs 76 (by decide)
        clear hs
        have hc := hE.const
        refine if_t (by rfl) ?_
        go_simp
      refine chain_val (.bool true) (S := [77]) rfl ?_ ?_
      · intro ρ w' hE hB hs
        have h77 : ρ (.tmp 77) = .bool true := hs 77 (by decide)
        clear hs
        refine if_t (by rfl) ?_
        go_simp
      refine chain_static (fun v__ _ => v__ = .bool true) (stable_eq _) (S := [78]) rfl (Go.Cor.enters_f Try.func17 (by kernel_rfl) rfl) rfl ?_ ?_
      · intro ρ w' hE hB hs
        have h78 : ρ (.tmp 78) = .bool true := hs 78 (by decide)
        clear hs
        refine ⟨(by simp [Region.wanted, yieldedR, h78]), ?_⟩
        simp only [List.map_toArray, List.map_cons, List.map_nil, ]
        refine (awake04 w').mono ?_
        rintro e w'' ⟨rfl, hb⟩
        exact ⟨_, rfl, hb, rfl⟩
      refine chain_val (.bool true) (S := [78, 79]) rfl ?_ ?_
      · intro ρ w' hE hB hs
        have h78 : ρ (.tmp 78) = .bool true := hs 78 (by decide)
        have h79 : ρ (.tmp 79) = .bool true := hs 79 (by decide)
        clear hs
        have hc := hE.const
        refine if_t (by rfl) ?_
        go_simp
      refine chain_val (.bool true) (S := [80]) rfl ?_ ?_
      · intro ρ w' hE hB hs
        have h80 : ρ (.tmp 80) = .bool true := hs 80 (by decide)
        clear hs
        refine if_t (by rfl) ?_
        go_simp
      intro w1 hB1
      simp only [List.reverse_cons, List.reverse_nil, List.nil_append, List.cons_append, Go.Free.Ends, forall_eq, Act.put, List.setIfInBounds_toArray, List.set_cons_zero, List.set_cons_succ]
      intro _ _
      go_wp2
      go_ret
      exact ⟨rfl, HB3.out.trans (hB1.mono HB3.out.size)⟩
    · have he := EE.out hf
      simp only [Prod.mk.injEq] at he
      obtain ⟨rfl, rfl, _⟩ := he
      have hfb : (f == 0) = false := by simpa using hf
      clear hf
      go_wp2_with (go_at_call 17; refine (awake04 _).mono ?_; rintro e w' ⟨rfl, hb⟩)
      go_ret
      exact ⟨rfl, HB3.out.trans (hb.mono HB3.out.size)⟩

namespace varintBack
open Go.ChangeShapes Go.WideShapes Go.ChangeAt Go.RowKit Go.Cor
set_option linter.unusedVariables false

set_option maxRecDepth 100000 in
theorem lifted (os : Os) (started : os.Started) (H : Type) (enc : TypeId × Value → H) :
    ReturnsInHanded {} Try.checked os 12 .any (Rows.varintBackSpec.pre6 enc Try.prog Try.f12 Rows.varintBackRow.domain false) (Rows.varintBackSpec.post enc Try.prog Try.f12 false true false false) := by
  refine returnsInHanded_of_change (C := Try.checked) (by kernel_rfl : ownKnob Try.prog.godebug = none) started (by kernel_rfl) Try.func12
    (ChangeSpec.witness6 (enc := enc) (C := Try.checked) false ⟨#[], #[.int .u64 0, .slice none 0 0, .slice none 0 0], []⟩ 8 (by kernel_rfl) (by kernel_rfl) (by kernel_rfl) (by kernel_rfl)) ?_
  intro W base args ds gs before hval0 hW hcnd _
  have hval : ∀ (j : Nat) t v, Try.f12.params[j]? = some t → args[j]? = some v → Value.okWide Try.prog W .any base t v := hval0
  have hW' := hW
  obtain ⟨p, q, hA0, hV, rfl, hfz, hnd⟩ := hW
  have hA : DataW.TrodAll enc Try.prog W 0 (fun _ => true) true Try.f12.params.toList args.toList ds p := hA0
  rw [Try.params12] at hA hval
  obtain ⟨v0, vs0, d0, ds0, p0, q0, hargs, rfl, rfl, h0, r0⟩ := trodAll_cons hA
  obtain ⟨v1, vs1, d1, ds1, p1, q1, rfl, rfl, rfl, h1, r1⟩ := trodAll_cons r0
  obtain ⟨v2, vs2, d2, ds2, p2, q2, rfl, rfl, rfl, h2, r2⟩ := trodAll_cons r1
  obtain ⟨rfl, rfl, rfl⟩ := trodAll_nil r2
  obtain rfl : args = #[v0, v1, v2] := by cases args; simp_all
  obtain ⟨rfl, rfl⟩ := trodVars_none hV
  obtain ⟨a0, rfl, rfl, rfl, w0⟩ := open_int Try.underlying23 (hval 0 23 v0 rfl rfl) h0
  obtain ⟨a1, len1, cap1, rfl⟩ := okWide_slice Try.underlying22 (hval 1 22 v1 rfl rfl)
  have k1 := h1
  have lt1 : ∀ x ∈ p1, x.block < W.heap.size := by obtain ⟨m, hm⟩ := k1; exact DataW.trod_lt m _ _ _ hm
  obtain ⟨x1, g1, b1⟩ : ∃ xs, Rd W .u8 a1 len1 cap1 xs ∧ In .u8 xs := by
    obtain ⟨fuel, hf⟩ := h1
    rcases open_ints Try.underlying22 Try.underlying5 (by kernel_rfl) hf with ⟨hcs, _⟩ | ⟨x, l, c, zs, hcs, _, hl, hm, hz, _, hcell, hwz⟩
    · simp [Value.cells] at hcs
      obtain ⟨rfl, rfl, rfl⟩ := hcs
      exact ⟨[], Rd.nilv _ _, fun _ h => by cases h⟩
    · simp [Value.cells] at hcs
      obtain ⟨rfl, rfl, rfl⟩ := hcs
      exact Rd.of_row hl hm hz hcell hwz
  obtain ⟨a2, len2, cap2, rfl⟩ := okWide_slice Try.underlying22 (hval 2 22 v2 rfl rfl)
  have k2 := h2
  have lt2 : ∀ x ∈ p2, x.block < W.heap.size := by obtain ⟨m, hm⟩ := k2; exact DataW.trod_lt m _ _ _ hm
  obtain ⟨x2, g2, b2⟩ : ∃ xs, Rd W .u8 a2 len2 cap2 xs ∧ In .u8 xs := by
    obtain ⟨fuel, hf⟩ := h2
    rcases open_ints Try.underlying22 Try.underlying5 (by kernel_rfl) hf with ⟨hcs, _⟩ | ⟨x, l, c, zs, hcs, _, hl, hm, hz, _, hcell, hwz⟩
    · simp [Value.cells] at hcs
      obtain ⟨rfl, rfl, rfl⟩ := hcs
      exact ⟨[], Rd.nilv _ _, fun _ h => by cases h⟩
    · simp [Value.cells] at hcs
      obtain ⟨rfl, rfl, rfl⟩ := hcs
      exact Rd.of_row hl hm hz hcell hwz
  clear hA0 hval0
  refine (VarintBack_walk W a0 (fits_of_wf w0) a1 len1 cap1 x1 g1 b1 a2 len2 cap2 x2 g2 b2).mono fun e W' ⟨he, bel⟩ => ?_
  subst he
  exact ⟨_, rfl, _, _, _, [], _, [], hW', trodAll_mk1 (shut_bool Try.underlying4 _), (trodAll_cons_mk (shut_int Try.underlying23 w0) (trodAll_cons_mk (Below.trod (by kernel_rfl : laidOutB Try.prog = true) (by kernel_rfl) (of_decide_eq_true (by kernel_rfl)) k1 bel lt1) (trodAll_cons_mk (Below.trod (by kernel_rfl : laidOutB Try.prog = true) (by kernel_rfl) (of_decide_eq_true (by kernel_rfl)) k2 bel lt2) trodAll_mk0))), rfl, bel.frame _, fun h => by cases h⟩

theorem proved : Rows.VarintBackSaid :=
  OpenClaim.holds_of_wide 12 Try.f12 rfl rfl rfl rfl rfl rfl rfl ⟨rfl, rfl, rfl, rfl, rfl⟩ rfl rfl rfl rfl rfl (by kernel_rfl) Try.func12 (by kernel_rfl)
    (of_decide_eq_true (by kernel_rfl)) (by unfold Func.isWrapper; first | (rw [if_pos (by decide +kernel)]; kernel_rfl) | (rw [if_neg (by decide +kernel)]; exact ⟨rfl, rfl⟩))
    (fun os started H enc _ => lifted os started H enc)
#print axioms proved
end varintBack
end Go.Proofs.Ytibfbomihopgaaa
