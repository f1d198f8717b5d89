/-
  VarintSizes: for every input the law returns true; each argument reads behind the call as it read before. No condition.
-/
import Derived.Test.YtibfbomihopgaaaVarA
import Derived.Test.YtibfbomihopgaaaNumM
import Derived.ProofKit
import Derived.OpenShut
import Derived.ChangeOld
namespace Go.Proofs.Ytibfbomihopgaaa
open Go.RowKit Go.Cor

set_option maxHeartbeats 2000000 in
theorem VarintSizes_walk (W : World) (a' : Int) (ha : Fits .u64 a') (b' : Int) (hb : Fits .u64 b') :
    Calls Try.prog 13 #[.int .u64 a', .int .u64 b'] W fun e w' => e = .returned (.bool true) ∧ Below W.heap.size W w' := by
  obtain ⟨a, rfl⟩ := Int.eq_ofNat_of_zero_le ha.1
  obtain ⟨b, rfl⟩ := Int.eq_ofNat_of_zero_le hb.1
  have h1 := fun w => size_any a w ha.2
  have h2 := fun w => size_any b w hb.2
  have hna := vput_nbits a
  have ha10 := vput_len_u64 a (by have := ha.2; omega)
  have hb10 := vput_len_u64 b (by have := hb.2; omega)
  have hm1 : a ≤ b → (vput a).length ≤ (vput b).length := vput_mono
  have hm2 : b ≤ a → (vput b).length ≤ (vput a).length := vput_mono
  have hn64 := nbits_u64 a (by have := ha.2; omega)
  have hpa := vput_pos a
  obtain ⟨x, hx⟩ : ∃ x, (vput a).length = x := ⟨_, rfl⟩
  obtain ⟨y, hy⟩ : ∃ y, (vput b).length = y := ⟨_, rfl⟩
  rw [hx] at h1 hna ha10 hm1 hm2 hpa
  rw [hy] at h2 hb10 hm1 hm2
  obtain ⟨m, hm⟩ : ∃ m, nbits a = m := ⟨_, rfl⟩
  rw [hm] at hna hn64
  have H1 := Lib.hid h1
  have H2 := Lib.hid h2
  have HM := Lib.hid hm
  have HA := Lib.hid hna
  have ha2 := ha.2
  clear h1 h2 hx hy hm hna ha hb
  have hord : (a < b ∧ x ≤ y) ∨ (a = b ∧ x = y) ∨ (b < a ∧ y ≤ x) := by
    rcases Nat.lt_trichotomy a b with h | h | h
    · exact .inl ⟨h, hm1 (by omega)⟩
    · subst h; exact .inr (.inl ⟨rfl, by have := hm1 (by omega); have := hm2 (by omega); omega⟩)
    · exact .inr (.inr ⟨h, hm2 (by omega)⟩)
  clear hm1 hm2
  have HO := Lib.hid hord
  clear hord
  go_enter Try.func13, Try.ntmps13
  go_wp2_with fail
  refine (H1.out _).mono ?_; rintro e w1 ⟨rfl, hb1⟩
  go_wp2_with fail
  refine (H2.out _).mono ?_; rintro e w2 ⟨rfl, hb2⟩
  have HB2 := Lib.hid (hb1.trans (hb2.mono hb1.size))
  clear hb1 hb2
  go_wp2_with fail
  go_loop [7, 8, 14, 15, 16, 17, 18, 19] (fun k7 v8 _ _ _ _ _ _ => ∃ k u : Nat, k7 = .int .i64 k ∧ k ≤ 64 ∧ v8 = .int .u64 u ∧ (u : Int) ≤ 18446744073709551615 ∧ Hid (nbits a = k + nbits u))
    (fun _ v8 _ _ _ _ _ _ => (intOf v8).toNat)
  case atStart => exact ⟨0, a, rfl, by omega, rfl, ha2, Lib.hid (by omega)⟩
  case round =>
    obtain ⟨k, u, rfl, hk, rfl, hu, hI⟩ := hrel
    by_cases hlt : 0 < u
    · have hI2 := hI.out
      rw [nbits_pos hlt, HM.out] at hI2
      have hk2 : k < 64 := by omega
      have HI2 := Lib.hid hI2
      clear hI2
      go_wp2
      go_round
      case rel => exact ⟨k + 1, u / 2, by go_num, by omega, val_i (by omega), by omega, Lib.hid (by rw [HM.out, HI2.out]; omega)⟩
      case measure => simp [intOf] <;> omega
    · obtain rfl : u = 0 := by omega
      have hkm : k = m := by have := hI.out; rw [nbits_zero, HM.out] at this; omega
      subst hkm
      have HX : (x : Int) = max 1 (((k : Int) + 6) / 7) := by have := HA.out; omega
      have HX' := Lib.hid HX
      clear HX
      have HZ := HX'.out
      by_cases d0 : 1 < ((k : Int) + 6) / 7
      · have d1 : (x : Int) ≤ ((k : Int) + 6) / 7 := by omega
        have d3 : ((x : Int) == ((k : Int) + 6) / 7) = true := by simp; omega
        clear HZ
        rcases HO.out with ⟨c1, c2⟩ | ⟨c1, c2⟩ | ⟨c1, c2⟩
        · go_wp2_with (go_at_call 17; refine (awake04 _).mono ?_; rintro e w' ⟨rfl, hb⟩)
          go_ret
          exact ⟨ret_b (by simp <;> omega), HB2.out.trans (hb.mono HB2.out.size)⟩
        · subst c1; subst c2
          go_wp2_with (go_at_call 17; refine (awake04 _).mono ?_; rintro e w' ⟨rfl, hb⟩)
          go_ret
          exact ⟨ret_b (by simp <;> omega), HB2.out.trans (hb.mono HB2.out.size)⟩
        · go_wp2_with (go_at_call 17; refine (awake04 _).mono ?_; rintro e w' ⟨rfl, hb⟩)
          go_ret
          exact ⟨ret_b (by simp <;> omega), HB2.out.trans (hb.mono HB2.out.size)⟩
      · obtain rfl : x = 1 := by omega
        clear HZ
        rcases HO.out with ⟨c1, c2⟩ | ⟨c1, c2⟩ | ⟨c1, c2⟩
        · go_wp2_with (go_at_call 17; refine (awake04 _).mono ?_; rintro e w' ⟨rfl, hb⟩)
          go_ret
          exact ⟨ret_b (by simp <;> omega), HB2.out.trans (hb.mono HB2.out.size)⟩
        · subst c1; subst c2
          go_wp2_with (go_at_call 17; refine (awake04 _).mono ?_; rintro e w' ⟨rfl, hb⟩)
          go_ret
          exact ⟨ret_b (by simp <;> omega), HB2.out.trans (hb.mono HB2.out.size)⟩
        · go_wp2_with (go_at_call 17; refine (awake04 _).mono ?_; rintro e w' ⟨rfl, hb⟩)
          go_ret
          exact ⟨ret_b (by simp <;> omega), HB2.out.trans (hb.mono HB2.out.size)⟩

namespace varintSizes
open Go.ChangeShapes Go.WideShapes Go.ChangeAt Go.RowKit Go.Cor
set_option linter.unusedVariables false

set_option maxRecDepth 100000 in
theorem lifted (os : Os) (started : os.Started) (H : Type) (enc : TypeId × Value → H) :
    ReturnsInHanded {} Try.checked os 13 .any (Rows.varintSizesSpec.pre6 enc Try.prog Try.f13 Rows.varintSizesRow.domain false) (Rows.varintSizesSpec.post enc Try.prog Try.f13 false true false false) := by
  refine returnsInHanded_of_change (C := Try.checked) (by kernel_rfl : ownKnob Try.prog.godebug = none) started (by kernel_rfl) Try.func13
    (ChangeSpec.witness6 (enc := enc) (C := Try.checked) false ⟨#[], #[.int .u64 0, .int .u64 0], []⟩ 8 (by kernel_rfl) (by kernel_rfl) (by kernel_rfl) (by kernel_rfl)) ?_
  intro W base args ds gs before hval0 hW hcnd _
  have hval : ∀ (j : Nat) t v, Try.f13.params[j]? = some t → args[j]? = some v → Value.okWide Try.prog W .any base t v := hval0
  have hW' := hW
  obtain ⟨p, q, hA0, hV, rfl, hfz, hnd⟩ := hW
  have hA : DataW.TrodAll enc Try.prog W 0 (fun _ => true) true Try.f13.params.toList args.toList ds p := hA0
  rw [Try.params13] at hA hval
  obtain ⟨v0, vs0, d0, ds0, p0, q0, hargs, rfl, rfl, h0, r0⟩ := trodAll_cons hA
  obtain ⟨v1, vs1, d1, ds1, p1, q1, rfl, rfl, rfl, h1, r1⟩ := trodAll_cons r0
  obtain ⟨rfl, rfl, rfl⟩ := trodAll_nil r1
  obtain rfl : args = #[v0, v1] := by cases args; simp_all
  obtain ⟨rfl, rfl⟩ := trodVars_none hV
  obtain ⟨a0, rfl, rfl, rfl, w0⟩ := open_int Try.underlying23 (hval 0 23 v0 rfl rfl) h0
  obtain ⟨a1, rfl, rfl, rfl, w1⟩ := open_int Try.underlying23 (hval 1 23 v1 rfl rfl) h1
  clear hA0 hval0
  refine (VarintSizes_walk W a0 (fits_of_wf w0) a1 (fits_of_wf w1)).mono fun e W' ⟨he, bel⟩ => ?_
  subst he
  exact ⟨_, rfl, _, _, _, [], _, [], hW', trodAll_mk1 (shut_bool Try.underlying4 _), (trodAll_cons_mk (shut_int Try.underlying23 w0) (trodAll_cons_mk (shut_int Try.underlying23 w1) trodAll_mk0)), rfl, bel.frame _, fun h => by cases h⟩

theorem proved : Rows.VarintSizesSaid :=
  OpenClaim.holds_of_wide 13 Try.f13 rfl rfl rfl rfl rfl rfl rfl ⟨rfl, rfl, rfl, rfl, rfl⟩ rfl rfl rfl rfl rfl (by kernel_rfl) Try.func13 (by kernel_rfl)
    (of_decide_eq_true (by kernel_rfl)) (by unfold Func.isWrapper; first | (rw [if_pos (by decide +kernel)]; kernel_rfl) | (rw [if_neg (by decide +kernel)]; exact ⟨rfl, rfl⟩))
    (fun os started H enc _ => lifted os started H enc)
#print axioms proved
end varintSizes
end Go.Proofs.Ytibfbomihopgaaa
