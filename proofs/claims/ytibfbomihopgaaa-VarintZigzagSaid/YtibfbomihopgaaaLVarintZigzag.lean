/-
  VarintZigzag: for every input the law returns true; each argument reads behind the call as it read before. No condition.
-/
import Derived.Test.YtibfbomihopgaaaVarA
import Derived.Test.YtibfbomihopgaaaNumM
import Derived.ProofKit
import Derived.OpenShut
import Derived.ChangeOld
namespace Go.Proofs.Ytibfbomihopgaaa
open Go.RowKit Go.Cor

set_option maxHeartbeats 2000000 in
theorem VarintZigzag_walk (W : World) (a : Int) (ha : Fits .i64 a) (b : Int) (hb : Fits .i64 b) (z : Int) (hz : Fits .u64 z) :
    Calls Try.prog 6 #[.int .i64 a, .int .i64 b, .int .u64 z] W fun e w' => e = .returned (.bool true) ∧ Below W.heap.size W w' := by
  have h1 := zig_any a W ha.1 ha.2
  have h2 := zig_any b W hb.1 hb.2
  have h3 := zag_any (zig a) W (zig_nonneg a) (zig_max a ha.1 ha.2)
  rw [zig_zag] at h3
  have h4 := zag_any z W hz.1 hz.2
  have h5 := zig_any (zag z) W (zag_min z hz.1 hz.2).1 (zag_min z hz.1 hz.2).2
  rw [zag_zig z hz.1] at h5
  have hda : (0 ≤ a ∧ zig a = 2 * a) ∨ (a < 0 ∧ zig a = -2 * a - 1) := by unfold zig; split <;> omega
  have hdb : (0 ≤ b ∧ zig b = 2 * b) ∨ (b < 0 ∧ zig b = -2 * b - 1) := by unfold zig; split <;> omega
  have hxu := zig_max a ha.1 ha.2
  have hyu := zig_max b hb.1 hb.2
  have hinj : zig a = zig b → a = b := zig_inj
  obtain ⟨x, hx⟩ : ∃ x, zig a = x := ⟨_, rfl⟩
  obtain ⟨y, hy⟩ : ∃ y, zig b = y := ⟨_, rfl⟩
  obtain ⟨u, hu⟩ : ∃ u, zag z = u := ⟨_, rfl⟩
  rw [hx] at h1 h3 hda hinj hxu
  rw [hy] at h2 hdb hinj hyu
  rw [hu] at h4 h5
  have H1 := Lib.hid h1
  have H2 := Lib.hid h2
  have H3 := Lib.hid h3
  have H4 := Lib.hid h4
  have H5 := Lib.hid h5
  clear h1 h2 h3 h4 h5 hx hy hu hz
  have hx0 : 0 ≤ x := by omega
  have hy0 : 0 ≤ y := by omega
  obtain ⟨ha1, ha2⟩ := ha
  obtain ⟨hb1, hb2⟩ := hb
  have fin : ∀ w : World, W = w → Calls Try.prog 17 #[] w fun e w' => e = .returned (.bool true) ∧ Below W.heap.size W w' := by rintro w rfl; exact awake04 _
  have HF := Lib.hid fin
  clear fin
  by_cases c3 : a = b
  · subst c3
    obtain rfl : x = y := by omega
    by_cases c1 : 0 ≤ a
    · skip
      have d1 : x ≤ 2 * a := by omega
      have d2 : 2 * a ≤ x := by omega
      have d3 : (x % 2 == 1) = false := by simp; omega
      clear hda hdb hinj
      go_enter Try.func6, Try.ntmps6
      go_wp2_with fail
      refine H1.out.mono ?_; rintro e w' ⟨rfl, rfl⟩
      go_wp2_with fail
      refine H2.out.mono ?_; rintro e w' ⟨rfl, rfl⟩
      go_wp2_with fail
      refine H3.out.mono ?_; rintro e w' ⟨rfl, rfl⟩
      go_wp2_with fail
      refine H4.out.mono ?_; rintro e w' ⟨rfl, rfl⟩
      go_wp2_with fail
      refine H5.out.mono ?_; rintro e w' ⟨rfl, rfl⟩
      go_wp2_with (go_at_call 17; refine (awake04 _).mono ?_; rintro e w' ⟨rfl, hb⟩)
      go_ret
      exact ⟨rfl, hb⟩
    · skip
      have d1 : x ≤ -2 * a - 1 := by omega
      have d2 : -2 * a - 1 ≤ x := by omega
      have d3 : (x % 2 == 1) = true := by simp; omega
      clear hda hdb hinj
      go_enter Try.func6, Try.ntmps6
      go_wp2_with fail
      refine H1.out.mono ?_; rintro e w' ⟨rfl, rfl⟩
      go_wp2_with fail
      refine H2.out.mono ?_; rintro e w' ⟨rfl, rfl⟩
      go_wp2_with fail
      refine H3.out.mono ?_; rintro e w' ⟨rfl, rfl⟩
      go_wp2_with fail
      refine H4.out.mono ?_; rintro e w' ⟨rfl, rfl⟩
      go_wp2_with fail
      refine H5.out.mono ?_; rintro e w' ⟨rfl, rfl⟩
      go_wp2_with (go_at_call 17; refine (awake04 _).mono ?_; rintro e w' ⟨rfl, hb⟩)
      go_ret
      exact ⟨rfl, hb⟩
  · have q1 : (a == b) = false := by simpa using c3
    have q2 : (x == y) = false := by simp; exact fun h => c3 (hinj h)
    by_cases c1 : 0 ≤ a <;> by_cases c2 : 0 ≤ b
    · skip
      have d1 : x ≤ 2 * a := by omega
      have d2 : 2 * a ≤ x := by omega
      have d3 : (x % 2 == 1) = false := by simp; omega
      have e1 : y ≤ 2 * b := by omega
      have e2 : 2 * b ≤ y := by omega
      clear hda hdb hinj c3
      by_cases c4 : a < b
      · skip
        go_enter Try.func6, Try.ntmps6
        go_wp2_with fail
        refine H1.out.mono ?_; rintro e w' ⟨rfl, rfl⟩
        go_wp2_with fail
        refine H2.out.mono ?_; rintro e w' ⟨rfl, rfl⟩
        go_wp2_with fail
        refine H3.out.mono ?_; rintro e w' ⟨rfl, rfl⟩
        go_wp2_with fail
        refine H4.out.mono ?_; rintro e w' ⟨rfl, rfl⟩
        go_wp2_with fail
        refine H5.out.mono ?_; rintro e w' ⟨rfl, rfl⟩
        go_wp2_with (go_at_call 17; refine (awake04 _).mono ?_; rintro e w' ⟨rfl, hb⟩)
        go_ret
        exact ⟨rfl, hb⟩
      · skip
        go_enter Try.func6, Try.ntmps6
        go_wp2_with fail
        refine H1.out.mono ?_; rintro e w' ⟨rfl, rfl⟩
        go_wp2_with fail
        refine H2.out.mono ?_; rintro e w' ⟨rfl, rfl⟩
        go_wp2_with fail
        refine H3.out.mono ?_; rintro e w' ⟨rfl, rfl⟩
        go_wp2_with fail
        refine H4.out.mono ?_; rintro e w' ⟨rfl, rfl⟩
        go_wp2_with fail
        refine H5.out.mono ?_; rintro e w' ⟨rfl, rfl⟩
        go_wp2_with (go_at_call 17; refine (awake04 _).mono ?_; rintro e w' ⟨rfl, hb⟩)
        go_ret
        exact ⟨rfl, hb⟩
    · skip
      have d1 : x ≤ 2 * a := by omega
      have d2 : 2 * a ≤ x := by omega
      have d3 : (x % 2 == 1) = false := by simp; omega
      have e1 : y ≤ -2 * b - 1 := by omega
      have e2 : -2 * b - 1 ≤ y := by omega
      clear hda hdb hinj c3
      by_cases c4 : a < b
      · skip
        exfalso; omega
      · skip
        go_enter Try.func6, Try.ntmps6
        go_wp2_with fail
        refine H1.out.mono ?_; rintro e w' ⟨rfl, rfl⟩
        go_wp2_with fail
        refine H2.out.mono ?_; rintro e w' ⟨rfl, rfl⟩
        go_wp2_with fail
        refine H3.out.mono ?_; rintro e w' ⟨rfl, rfl⟩
        go_wp2_with fail
        refine H4.out.mono ?_; rintro e w' ⟨rfl, rfl⟩
        go_wp2_with fail
        refine H5.out.mono ?_; rintro e w' ⟨rfl, rfl⟩
        go_wp2_with (go_at_call 17; refine (awake04 _).mono ?_; rintro e w' ⟨rfl, hb⟩)
        go_ret
        exact ⟨rfl, hb⟩
    · skip
      have d1 : x ≤ -2 * a - 1 := by omega
      have d2 : -2 * a - 1 ≤ x := by omega
      have d3 : (x % 2 == 1) = true := by simp; omega
      have e1 : y ≤ 2 * b := by omega
      have e2 : 2 * b ≤ y := by omega
      clear hda hdb hinj c3
      by_cases c4 : a < b
      · skip
        go_enter Try.func6, Try.ntmps6
        go_wp2_with fail
        refine H1.out.mono ?_; rintro e w' ⟨rfl, rfl⟩
        go_wp2_with fail
        refine H2.out.mono ?_; rintro e w' ⟨rfl, rfl⟩
        go_wp2_with fail
        refine H3.out.mono ?_; rintro e w' ⟨rfl, rfl⟩
        go_wp2_with fail
        refine H4.out.mono ?_; rintro e w' ⟨rfl, rfl⟩
        go_wp2_with fail
        refine H5.out.mono ?_; rintro e w' ⟨rfl, rfl⟩
        go_wp2_with (go_at_call 17; refine (awake04 _).mono ?_; rintro e w' ⟨rfl, hb⟩)
        go_ret
        exact ⟨rfl, hb⟩
      · skip
        exfalso; omega
    · skip
      have d1 : x ≤ -2 * a - 1 := by omega
      have d2 : -2 * a - 1 ≤ x := by omega
      have d3 : (x % 2 == 1) = true := by simp; omega
      have e1 : y ≤ -2 * b - 1 := by omega
      have e2 : -2 * b - 1 ≤ y := by omega
      clear hda hdb hinj c3
      by_cases c4 : a < b
      · skip
        go_enter Try.func6, Try.ntmps6
        go_wp2_with fail
        refine H1.out.mono ?_; rintro e w' ⟨rfl, rfl⟩
        go_wp2_with fail
        refine H2.out.mono ?_; rintro e w' ⟨rfl, rfl⟩
        go_wp2_with fail
        refine H3.out.mono ?_; rintro e w' ⟨rfl, rfl⟩
        go_wp2_with fail
        refine H4.out.mono ?_; rintro e w' ⟨rfl, rfl⟩
        go_wp2_with fail
        refine H5.out.mono ?_; rintro e w' ⟨rfl, rfl⟩
        go_wp2_with (go_at_call 17; refine (awake04 _).mono ?_; rintro e w' ⟨rfl, hb⟩)
        go_ret
        exact ⟨rfl, hb⟩
      · skip
        go_enter Try.func6, Try.ntmps6
        go_wp2_with fail
        refine H1.out.mono ?_; rintro e w' ⟨rfl, rfl⟩
        go_wp2_with fail
        refine H2.out.mono ?_; rintro e w' ⟨rfl, rfl⟩
        go_wp2_with fail
        refine H3.out.mono ?_; rintro e w' ⟨rfl, rfl⟩
        go_wp2_with fail
        refine H4.out.mono ?_; rintro e w' ⟨rfl, rfl⟩
        go_wp2_with fail
        refine H5.out.mono ?_; rintro e w' ⟨rfl, rfl⟩
        go_wp2_with (go_at_call 17; refine (awake04 _).mono ?_; rintro e w' ⟨rfl, hb⟩)
        go_ret
        exact ⟨rfl, hb⟩

namespace varintZigzag
open Go.ChangeShapes Go.WideShapes Go.ChangeAt Go.RowKit Go.Cor
set_option linter.unusedVariables false

set_option maxRecDepth 100000 in
theorem lifted (os : Os) (started : os.Started) (H : Type) (enc : TypeId × Value → H) :
    ReturnsInHanded {} Try.checked os 6 .any (Rows.varintZigzagSpec.pre6 enc Try.prog Try.f6 Rows.varintZigzagRow.domain false) (Rows.varintZigzagSpec.post enc Try.prog Try.f6 false true false false) := by
  refine returnsInHanded_of_change (C := Try.checked) (by kernel_rfl : ownKnob Try.prog.godebug = none) started (by kernel_rfl) Try.func6
    (ChangeSpec.witness6 (enc := enc) (C := Try.checked) false ⟨#[], #[.int .i64 0, .int .i64 0, .int .u64 0], []⟩ 8 (by kernel_rfl) (by kernel_rfl) (by kernel_rfl) (by kernel_rfl)) ?_
  intro W base args ds gs before hval0 hW hcnd _
  have hval : ∀ (j : Nat) t v, Try.f6.params[j]? = some t → args[j]? = some v → Value.okWide Try.prog W .any base t v := hval0
  have hW' := hW
  obtain ⟨p, q, hA0, hV, rfl, hfz, hnd⟩ := hW
  have hA : DataW.TrodAll enc Try.prog W 0 (fun _ => true) true Try.f6.params.toList args.toList ds p := hA0
  rw [Try.params6] at hA hval
  obtain ⟨v0, vs0, d0, ds0, p0, q0, hargs, rfl, rfl, h0, r0⟩ := trodAll_cons hA
  obtain ⟨v1, vs1, d1, ds1, p1, q1, rfl, rfl, rfl, h1, r1⟩ := trodAll_cons r0
  obtain ⟨v2, vs2, d2, ds2, p2, q2, rfl, rfl, rfl, h2, r2⟩ := trodAll_cons r1
  obtain ⟨rfl, rfl, rfl⟩ := trodAll_nil r2
  obtain rfl : args = #[v0, v1, v2] := by cases args; simp_all
  obtain ⟨rfl, rfl⟩ := trodVars_none hV
  obtain ⟨a0, rfl, rfl, rfl, w0⟩ := open_int Try.underlying2 (hval 0 2 v0 rfl rfl) h0
  obtain ⟨a1, rfl, rfl, rfl, w1⟩ := open_int Try.underlying2 (hval 1 2 v1 rfl rfl) h1
  obtain ⟨a2, rfl, rfl, rfl, w2⟩ := open_int Try.underlying23 (hval 2 23 v2 rfl rfl) h2
  clear hA0 hval0
  refine (VarintZigzag_walk W a0 (fits_of_wf w0) a1 (fits_of_wf w1) a2 (fits_of_wf w2)).mono fun e W' ⟨he, bel⟩ => ?_
  subst he
  exact ⟨_, rfl, _, _, _, [], _, [], hW', trodAll_mk1 (shut_bool Try.underlying4 _), (trodAll_cons_mk (shut_int Try.underlying2 w0) (trodAll_cons_mk (shut_int Try.underlying2 w1) (trodAll_cons_mk (shut_int Try.underlying23 w2) trodAll_mk0))), rfl, bel.frame _, fun h => by cases h⟩

theorem proved : Rows.VarintZigzagSaid :=
  OpenClaim.holds_of_wide 6 Try.f6 rfl rfl rfl rfl rfl rfl rfl ⟨rfl, rfl, rfl, rfl, rfl⟩ rfl rfl rfl rfl rfl (by kernel_rfl) Try.func6 (by kernel_rfl)
    (of_decide_eq_true (by kernel_rfl)) (by unfold Func.isWrapper; first | (rw [if_pos (by decide +kernel)]; kernel_rfl) | (rw [if_neg (by decide +kernel)]; exact ⟨rfl, rfl⟩))
    (fun os started H enc _ => lifted os started H enc)
#print axioms proved
end varintZigzag
end Go.Proofs.Ytibfbomihopgaaa
