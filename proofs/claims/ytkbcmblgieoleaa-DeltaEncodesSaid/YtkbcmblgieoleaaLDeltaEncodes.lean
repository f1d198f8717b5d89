/-
  DeltaEncodes: for every input the law returns true; the arguments read behind the call as they read before. No condition.
-/
import Derived.ChangeOld
import Derived.Test.YtkbcmblgieoleaaG30
import Derived.Test.YtkbcmblgieoleaaG31
namespace Go.Proofs.Ytkbcmblgieoleaa
open Go.RowKit Go.Cor Go.Free

set_option maxRecDepth 100000 in
set_option maxHeartbeats 2000000 in
theorem DeltaEncodes_walk (W : World) (A : Option Addr) (n c : Nat) (xs : List Int) (h : Rd W .i64 A n c xs) (hi : In .i64 xs) :
    Calls Try.prog 10 #[.slice A n c] W fun e w' => e = .returned (.bool true) ∧ Below W.heap.size W w' := by
  by_cases hn : 1100 < n
  · clear h hi
    go_enter Try.func10, Try.ntmps10
    go_wp2
    go_ret
    exact ⟨rfl, Below.refl _ _⟩
  · have hn2 : n ≤ 1100 := by omega
    have H := Lib.hid h
    have HI := Lib.hid hi
    clear h hi
    go_enter Try.func10, Try.ntmps10
    go_wp2_with fail
    refine (refDEncode_any A n c xs W H.out HI.out (by omega)).mono ?_
    rintro e w1 ⟨A1, n1, c1, rfl, hown1, hb1⟩
    have H1 := Lib.hid (Rd.own hown1)
    have HB1 := Lib.hid hb1
    clear hown1 hb1
    go_wp2_with fail
    refine (toldG deltaT deltaE deltaS A n c xs w1 (H.out.below HB1.out) HI.out hn2 A1 n1 c1 _ H1.out (fun _ => rfl) true rfl).mono ?_
    rintro e w2 ⟨rfl, hb2⟩
    have HB2 := Lib.hid (HB1.out.trans (hb2.mono HB1.out.size))
    clear hb2
    go_wp2_with fail
    refine (dName_any w2).mono ?_
    rintro e w3 ⟨rfl, hb3⟩
    have HB3 := Lib.hid (HB2.out.trans (hb3.mono HB2.out.size))
    clear hb3
    go_wp2_with fail
    refine (awake12 w3).mono ?_
    rintro e w4 ⟨rfl, hb4⟩
    go_wp2
    go_ret
    exact ⟨rfl, HB3.out.trans (hb4.mono HB3.out.size)⟩

namespace deltaEncodes
open Go.ChangeShapes Go.WideShapes Go.ChangeAt Go.RowKit Go.Cor
set_option linter.unusedVariables false

set_option maxRecDepth 100000 in
theorem lifted (os : Os) (started : os.Started) (H : Type) (enc : TypeId × Value → H) :
    ReturnsInHanded {} Try.checked os 10 .any (Rows.deltaEncodesSpec.pre6 enc Try.prog Try.f10 Rows.deltaEncodesRow.domain false) (Rows.deltaEncodesSpec.post enc Try.prog Try.f10 false true false false) := by
  refine returnsInHanded_of_change (C := Try.checked) (by kernel_rfl : ownKnob Try.prog.godebug = none) started (by kernel_rfl) Try.func10
    (ChangeSpec.witness6 (enc := enc) (C := Try.checked) false ⟨#[], #[.slice none 0 0], []⟩ 8 (by kernel_rfl) (by kernel_rfl) (by kernel_rfl) (by kernel_rfl)) ?_
  intro W base args ds gs before hval0 hW hcnd _
  have hval : ∀ (j : Nat) t v, Try.f10.params[j]? = some t → args[j]? = some v → Value.okWide Try.prog W .any base t v := hval0
  have hW' := hW
  obtain ⟨p, q, hA0, hV, rfl, hfz, hnd⟩ := hW
  have hA : DataW.TrodAll enc Try.prog W 0 (fun _ => true) true Try.f10.params.toList args.toList ds p := hA0
  rw [Try.params10] at hA hval
  obtain ⟨v0, vs0, d0, ds0, p0, q0, hargs, rfl, rfl, h0, r0⟩ := trodAll_cons hA
  obtain ⟨rfl, rfl, rfl⟩ := trodAll_nil r0
  obtain rfl : args = #[v0] := by cases args; simp_all
  obtain ⟨rfl, rfl⟩ := trodVars_none hV
  obtain ⟨a0, len0, cap0, rfl⟩ := okWide_slice Try.underlying22 (hval 0 22 v0 rfl rfl)
  have k0 := h0
  have lt0 : ∀ x ∈ p0, x.block < W.heap.size := by obtain ⟨m, hm⟩ := k0; exact DataW.trod_lt m _ _ _ hm
  obtain ⟨x0, g0, b0⟩ : ∃ xs, Rd W .i64 a0 len0 cap0 xs ∧ In .i64 xs := by
    obtain ⟨fuel, hf⟩ := h0
    rcases open_ints Try.underlying22 Try.underlying2 (by kernel_rfl) hf with ⟨hcs, _⟩ | ⟨x, l, c, zs, hcs, _, hl, hm, hz, _, hcell, hwz⟩
    · simp [Value.cells] at hcs
      obtain ⟨rfl, rfl, rfl⟩ := hcs
      exact ⟨[], Rd.nilv _ _, fun _ h => by cases h⟩
    · simp [Value.cells] at hcs
      obtain ⟨rfl, rfl, rfl⟩ := hcs
      exact Rd.of_row hl hm hz hcell hwz
  clear hA0 hval0
  refine (DeltaEncodes_walk W a0 len0 cap0 x0 g0 b0).mono fun e W' ⟨he, bel⟩ => ?_
  subst he
  exact ⟨_, rfl, _, _, _, [], _, [], hW', trodAll_mk1 (shut_bool Try.underlying4 _), (trodAll_cons_mk (Below.trod (by kernel_rfl : laidOutB Try.prog = true) (by kernel_rfl) (of_decide_eq_true (by kernel_rfl)) k0 bel lt0) trodAll_mk0), rfl, bel.frame _, fun h => by cases h⟩

theorem proved : Rows.DeltaEncodesSaid :=
  OpenClaim.holds_of_wide 10 Try.f10 rfl rfl rfl rfl rfl rfl rfl ⟨rfl, rfl, rfl, rfl, rfl⟩ rfl rfl rfl rfl rfl (by kernel_rfl) Try.func10 (by kernel_rfl)
    (of_decide_eq_true (by kernel_rfl)) (by unfold Func.isWrapper; first | (rw [if_pos (by decide +kernel)]; kernel_rfl) | (rw [if_neg (by decide +kernel)]; exact ⟨rfl, rfl⟩))
    (fun os started H enc _ => lifted os started H enc)
#print axioms proved
end deltaEncodes
end Go.Proofs.Ytkbcmblgieoleaa
