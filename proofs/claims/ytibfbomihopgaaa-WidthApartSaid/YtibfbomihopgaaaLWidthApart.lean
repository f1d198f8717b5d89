/-
  WidthApart: for every input the law returns true; each argument reads behind the call as it read before. No condition.
-/
import Derived.Test.YtibfbomihopgaaaWidA
import Derived.Test.YtibfbomihopgaaaWidF
import Derived.ChangeOld
namespace Go.Proofs.Ytibfbomihopgaaa
open Go.RowKit Go.Cor Go.Free

set_option maxRecDepth 100000 in
set_option maxHeartbeats 2000000 in
theorem WidthApart_walk (W : World) (A : Option Addr) (n c : Nat) (xs : List Int) (h : Rd W .i64 A n c xs) (hi : In .i64 xs) (f : Int) (hf : Fits .i64 f) :
    Calls Try.prog 8 #[.slice A n c, .int .i64 f] W fun e w' => e = .returned (.bool true) ∧ Below W.heap.size W w' := by
  by_cases hn : 200 < n
  · clear h hi hf
    go_enter Try.func8, Try.ntmps8
    go_wp2
    go_ret
    exact ⟨rfl, Below.refl _ _⟩
  · have hn2 : n ≤ 200 := by omega
    have H := Lib.hid h
    clear h hi hf
    have key : ∀ q : Bool, Hid (decide (0 < n) = q ∧ (q = true → (0 : Int) < n) ∧ (q = false → n = 0)) → Calls Try.prog 8 #[.slice A n c, .int .i64 f] W fun e w' => e = .returned (.bool true) ∧ Below W.heap.size W w' := by
      intro q hq
      go_enter Try.func8, Try.ntmps8
      go_wp2_with fail
      refine (least_any A n c xs W H.out (by omega)).mono ?_
      rw [hq.out.1]
      rintro e w' ⟨rfl, rfl⟩
      go_wp2_with fail
      refine (refLeast_any A n c xs W H.out (by omega)).mono ?_
      rintro e w' ⟨rfl, rfl⟩
      have q1 := hq.out.2.1
      have q2 := hq.out.2.2
      have HQ : Hid (n = n) := Lib.hid rfl
      cases q with
      | true =>
        have q3 : 0 < n := by have := q1 rfl; omega
        clear q1 q2
        go_wp2_with fail
        refine (offsets_any f A n c xs W H.out (by omega)).mono ?_
        rintro e w1 ⟨A1, n1, c1, rfl, hown1, hb1⟩
        have H1 := Lib.hid (Rd.own hown1)
        have HB1 := Lib.hid hb1
        clear hown1 hb1
        go_wp2_with fail
        refine (refOffsets_any f A n c xs w1 (H.out.below HB1.out) (by omega)).mono ?_
        rintro e w2 ⟨A2, n2, c2, rfl, hown2, hb2⟩
        have H2 := Lib.hid (Rd.own hown2)
        have H12 := Lib.hid (H1.out.below hb2)
        have HB2 := Lib.hid (HB1.out.trans (hb2.mono HB1.out.size))
        clear hown2 hb2
        go_wp2_with fail
        refine (sameU_any _ _ _ _ _ _ _ _ w2 H12.out H2.out).mono ?_
        rw [decide_eq_true (Eq.refl (offsets f xs))]
        rintro e w3 ⟨rfl, hb3⟩
        have HB3 := Lib.hid (HB2.out.trans (hb3.mono HB2.out.size))
        clear hb3
        go_wp2_with fail
        refine (deltas_any A n c xs w3 (H.out.below HB3.out) (by omega)).mono ?_
        rintro e w4 ⟨A4, n4, c4, rfl, hown4, hb4⟩
        have H4 := Lib.hid (Rd.own hown4)
        have HB4 := Lib.hid (HB3.out.trans (hb4.mono HB3.out.size))
        clear hown4 hb4
        go_wp2_with fail
        refine (refDeltas_any A n c xs w4 (H.out.below HB4.out) (by omega)).mono ?_
        rintro e w5 ⟨A5, n5, c5, rfl, hown5, hb5⟩
        have H5 := Lib.hid (Rd.own hown5)
        have H45 := Lib.hid (H4.out.below hb5)
        have HB5 := Lib.hid (HB4.out.trans (hb5.mono HB4.out.size))
        clear hown5 hb5
        go_wp2_with fail
        refine (sameI_any _ _ _ _ _ _ _ _ w5 H45.out H5.out).mono ?_
        rw [decide_eq_true (Eq.refl (deltas xs))]
        rintro e w6 ⟨rfl, hb6⟩
        have HB6 := Lib.hid (HB5.out.trans (hb6.mono HB5.out.size))
        clear hb6
        go_wp2_with fail
        refine (awake06 w6).mono ?_
        rintro e w7 ⟨rfl, hb7⟩
        go_wp2
        go_ret
        exact ⟨rfl, HB6.out.trans (hb7.mono HB6.out.size)⟩
      | false =>
        obtain rfl := q2 rfl
        clear q1 q2
        go_wp2_with fail
        refine (offsets_any f A 0 c xs W H.out (by omega)).mono ?_
        rintro e w1 ⟨A1, n1, c1, rfl, hown1, hb1⟩
        have H1 := Lib.hid (Rd.own hown1)
        have HB1 := Lib.hid hb1
        clear hown1 hb1
        go_wp2_with fail
        refine (refOffsets_any f A 0 c xs w1 (H.out.below HB1.out) (by omega)).mono ?_
        rintro e w2 ⟨A2, n2, c2, rfl, hown2, hb2⟩
        have H2 := Lib.hid (Rd.own hown2)
        have H12 := Lib.hid (H1.out.below hb2)
        have HB2 := Lib.hid (HB1.out.trans (hb2.mono HB1.out.size))
        clear hown2 hb2
        go_wp2_with fail
        refine (sameU_any _ _ _ _ _ _ _ _ w2 H12.out H2.out).mono ?_
        rw [decide_eq_true (Eq.refl (offsets f xs))]
        rintro e w3 ⟨rfl, hb3⟩
        have HB3 := Lib.hid (HB2.out.trans (hb3.mono HB2.out.size))
        clear hb3
        go_wp2_with fail
        refine (deltas_any A 0 c xs w3 (H.out.below HB3.out) (by omega)).mono ?_
        rintro e w4 ⟨A4, n4, c4, rfl, hown4, hb4⟩
        have H4 := Lib.hid (Rd.own hown4)
        have HB4 := Lib.hid (HB3.out.trans (hb4.mono HB3.out.size))
        clear hown4 hb4
        go_wp2_with fail
        refine (refDeltas_any A 0 c xs w4 (H.out.below HB4.out) (by omega)).mono ?_
        rintro e w5 ⟨A5, n5, c5, rfl, hown5, hb5⟩
        have H5 := Lib.hid (Rd.own hown5)
        have H45 := Lib.hid (H4.out.below hb5)
        have HB5 := Lib.hid (HB4.out.trans (hb5.mono HB4.out.size))
        clear hown5 hb5
        go_wp2_with fail
        refine (sameI_any _ _ _ _ _ _ _ _ w5 H45.out H5.out).mono ?_
        rw [decide_eq_true (Eq.refl (deltas xs))]
        rintro e w6 ⟨rfl, hb6⟩
        have HB6 := Lib.hid (HB5.out.trans (hb6.mono HB5.out.size))
        clear hb6
        go_wp2_with fail
        refine (awake06 w6).mono ?_
        rintro e w7 ⟨rfl, hb7⟩
        go_wp2
        go_ret
        exact ⟨rfl, HB6.out.trans (hb7.mono HB6.out.size)⟩
    exact key _ (Lib.hid ⟨rfl, fun e => by have := of_decide_eq_true e; omega, fun e => by have := of_decide_eq_false e; omega⟩)

namespace widthApart
open Go.ChangeShapes Go.WideShapes Go.ChangeAt Go.RowKit Go.Cor
set_option linter.unusedVariables false

set_option maxRecDepth 100000 in
theorem lifted (os : Os) (started : os.Started) (H : Type) (enc : TypeId × Value → H) :
    ReturnsInHanded {} Try.checked os 8 .any (Rows.widthApartSpec.pre6 enc Try.prog Try.f8 Rows.widthApartRow.domain false) (Rows.widthApartSpec.post enc Try.prog Try.f8 false true false false) := by
  refine returnsInHanded_of_change (C := Try.checked) (by kernel_rfl : ownKnob Try.prog.godebug = none) started (by kernel_rfl) Try.func8
    (ChangeSpec.witness6 (enc := enc) (C := Try.checked) false ⟨#[], #[.slice none 0 0, .int .i64 0], []⟩ 8 (by kernel_rfl) (by kernel_rfl) (by kernel_rfl) (by kernel_rfl)) ?_
  intro W base args ds gs before hval0 hW hcnd _
  have hval : ∀ (j : Nat) t v, Try.f8.params[j]? = some t → args[j]? = some v → Value.okWide Try.prog W .any base t v := hval0
  have hW' := hW
  obtain ⟨p, q, hA0, hV, rfl, hfz, hnd⟩ := hW
  have hA : DataW.TrodAll enc Try.prog W 0 (fun _ => true) true Try.f8.params.toList args.toList ds p := hA0
  rw [Try.params8] at hA hval
  obtain ⟨v0, vs0, d0, ds0, p0, q0, hargs, rfl, rfl, h0, r0⟩ := trodAll_cons hA
  obtain ⟨v1, vs1, d1, ds1, p1, q1, rfl, rfl, rfl, h1, r1⟩ := trodAll_cons r0
  obtain ⟨rfl, rfl, rfl⟩ := trodAll_nil r1
  obtain rfl : args = #[v0, v1] := by cases args; simp_all
  obtain ⟨rfl, rfl⟩ := trodVars_none hV
  obtain ⟨a0, len0, cap0, rfl⟩ := okWide_slice Try.underlying37 (hval 0 37 v0 rfl rfl)
  have k0 := h0
  have lt0 : ∀ x ∈ p0, x.block < W.heap.size := by obtain ⟨m, hm⟩ := k0; exact DataW.trod_lt m _ _ _ hm
  obtain ⟨x0, g0, b0⟩ : ∃ xs, Rd W .i64 a0 len0 cap0 xs ∧ In .i64 xs := by
    obtain ⟨fuel, hf⟩ := h0
    rcases open_ints Try.underlying37 Try.underlying2 (by kernel_rfl) hf with ⟨hcs, _⟩ | ⟨x, l, c, zs, hcs, _, hl, hm, hz, _, hcell, hwz⟩
    · simp [Value.cells] at hcs
      obtain ⟨rfl, rfl, rfl⟩ := hcs
      exact ⟨[], Rd.nilv _ _, fun _ h => by cases h⟩
    · simp [Value.cells] at hcs
      obtain ⟨rfl, rfl, rfl⟩ := hcs
      exact Rd.of_row hl hm hz hcell hwz
  obtain ⟨a1, rfl, rfl, rfl, w1⟩ := open_int Try.underlying2 (hval 1 2 v1 rfl rfl) h1
  clear hA0 hval0
  refine (WidthApart_walk W a0 len0 cap0 x0 g0 b0 a1 (fits_of_wf w1)).mono fun e W' ⟨he, bel⟩ => ?_
  subst he
  exact ⟨_, rfl, _, _, _, [], _, [], hW', trodAll_mk1 (shut_bool Try.underlying4 _), (trodAll_cons_mk (Below.trod (by kernel_rfl : laidOutB Try.prog = true) (by kernel_rfl) (of_decide_eq_true (by kernel_rfl)) k0 bel lt0) (trodAll_cons_mk (shut_int Try.underlying2 w1) trodAll_mk0)), rfl, bel.frame _, fun h => by cases h⟩

theorem proved : Rows.WidthApartSaid :=
  OpenClaim.holds_of_wide 8 Try.f8 rfl rfl rfl rfl rfl rfl rfl ⟨rfl, rfl, rfl, rfl, rfl⟩ rfl rfl rfl rfl rfl (by kernel_rfl) Try.func8 (by kernel_rfl)
    (of_decide_eq_true (by kernel_rfl)) (by unfold Func.isWrapper; first | (rw [if_pos (by decide +kernel)]; kernel_rfl) | (rw [if_neg (by decide +kernel)]; exact ⟨rfl, rfl⟩))
    (fun os started H enc _ => lifted os started H enc)
#print axioms proved
end widthApart
end Go.Proofs.Ytibfbomihopgaaa
