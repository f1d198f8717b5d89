/-
  SimpleBound: for every input the law returns true; the arguments read behind the call as they read before. No condition.
-/
import Derived.ChangeOld
import Derived.Test.YtaohdbagcfgoeaaDoorTie
import Derived.Test.YtaohdbagcfgoeaaDoorCards
import Derived.SevenTiedAt
import Derived.Test.YtaohdbagcfgoeaaDoorG20
import Derived.Test.YtaohdbagcfgoeaaDoorG21
namespace Go.Cor
open Go
theorem stk_app (xs : List Int) (x : Int) : stk (xs ++ [x]) = (stk xs && stk [x]) := by
  unfold stk
  rw [Bool.eq_iff_iff]
  simp only [decide_eq_true_eq, Bool.and_eq_true, List.mem_append, List.mem_singleton]
  exact ⟨fun h => ⟨fun y hy => h y (.inl hy), fun y hy => h y (.inr hy)⟩, fun h y hy => hy.elim (h.1 y) (h.2 y)⟩
end Go.Cor
namespace Go.Proofs.YtaohdbagcfgoeaaDoor
open Go.RowKit Go.Cor Go.Free
open Go

set_option maxRecDepth 100000 in
set_option maxHeartbeats 4000000 in
theorem SimpleBound_walk (W : World) (hj : Shp W) (A : Option Addr) (n c : Nat) (xs : List Int) (h : Rd W .i64 A n c xs) (hi : In .i64 xs) (x : Int) (hx : Fits .i64 x) :
    Calls Tryd.prog 3 #[.slice A n c, .int .i64 x] W fun e w' => e = .returned (.bool true) ∧ Below W.heap.size W w' := by
  by_cases hn : 1023 < n
  · clear h hi hj
    go_enter Tryd.func3, Tryd.ntmps3
    go_wp2
    go_ret
    exact ⟨rfl, Below.refl _ _⟩
  by_cases hn0 : n = 0
  · subst hn0
    clear h hi hj
    go_enter Tryd.func3, Tryd.ntmps3
    go_wp2
    go_ret
    exact ⟨rfl, Below.refl _ _⟩
  have hd1 : decide ((1023 : Int) < (n : Int)) = false := by simp; omega
  have hd2 : ((n : Int) == 0) = false := by simp; omega
  have hl := h.len
  have hb : blk n = true := decide_eq_true (by omega)
  have hs := fun w hj h => simS.c w hj A n c xs h hi (by omega)
  have ht := fun w h => refSTakes_any A n c xs w h hi (by omega)
  rw [show tak stk xs = stk xs by unfold tak; rw [hl, hb, Bool.true_and]] at hs
  have HJ := Lib.hid (fun w' (hb : Below W.heap.size W w') => shpKeep _ _ hj hb)
  obtain ⟨q, hq⟩ : ∃ q, stk xs = q := ⟨_, rfl⟩
  rw [hq] at hs ht
  have HS := Lib.hid hs
  have HT := Lib.hid ht
  cases q with
  | false =>
    have H := Lib.hid h
    clear hj h hi hx hl hb hs ht hq
    go_enter Tryd.func3, Tryd.ntmps3
    go_wp2_with fail
    refine (HS.out _ (HJ.out _ (Below.refl _ _)) H.out).mono ?_
    rintro e w1 ⟨rfl, hb1⟩
    have HB1 := Lib.hid hb1
    clear hb1
    go_wp2_with fail
    refine (HT.out _ (H.out.below HB1.out)).mono ?_
    rintro e w2 ⟨rfl, rfl⟩
    go_wp2_with fail
    refine (awake09 _ (HJ.out _ HB1.out)).mono ?_
    rintro e w3 ⟨rfl, hb3⟩
    have HB3 := Lib.hid (HB1.out.trans (hb3.mono HB1.out.size))
    clear hb3
    go_wp2
    go_ret
    exact ⟨rfl, HB3.out⟩
  | true =>
    have hF : sform xs = srest (xs.map zig) := by unfold sform; rw [if_pos hq]
    have hf := stk_fit hq
    have hne : xs.map zig ≠ [] := fun e => by have := congrArg List.length e; simp at this; subst this; simp at hl; omega
    have hT1 := srest_len n (xs.map zig) (by simp [hl])
    have hT2 := srest_pos hf hne
    have hxi : In .i64 (xs ++ [x]) := fun y hy => (List.mem_append.1 hy).elim (hi y) (fun e => by obtain rfl := List.mem_singleton.1 e; exact hx)
    have hs2 := fun w hj A c h => simS.c w hj A (n + 1) c (xs ++ [x]) h hxi (by omega)
    rw [show tak stk (xs ++ [x]) = stk [x] by unfold tak; rw [stk_app, hq, List.length_append, hl]; rw [show blk ((n + [x].length : Nat) : Int) = true from decide_eq_true (by simp; omega)]; simp] at hs2
    have ht2 := fun w A c h => refSTakes_any A 1 c [x] w h (fun y hy => hxi y (by simp [List.mem_singleton.1 hy])) (by omega)
    have hM := fun (hq2 : stk [x] = true) => (show (sform (xs ++ [x])).length % 8 = 0 ∧ 8 ≤ (sform (xs ++ [x])).length ∧ (sform (xs ++ [x])).length ≤ (srest (xs.map zig)).length + 8 by
      have h1 : stk (xs ++ [x]) = true := by rw [stk_app, hq, hq2]; rfl
      have h2 : sform (xs ++ [x]) = srest (xs.map zig ++ [zig x]) := by unfold sform; rw [if_pos h1]; simp
      have h3 := stk_fit h1
      rw [show (xs ++ [x]).map zig = xs.map zig ++ [zig x] by simp] at h3
      rw [h2]
      exact ⟨(srest_len _ _ rfl).2, srest_pos h3 (by simp), srest_more _ _ (zig x) rfl h3⟩)
    rw [hF] at HS
    obtain ⟨T, hTe⟩ : ∃ T, (srest (xs.map zig)).length = T := ⟨_, rfl⟩
    obtain ⟨M, hMe⟩ : ∃ M, (sform (xs ++ [x])).length = M := ⟨_, rfl⟩
    rw [hTe] at HS hT1 hT2 hM
    rw [hMe] at hM hs2
    obtain ⟨hT0, hT8⟩ := hT1
    obtain ⟨q2, hq2⟩ : ∃ q, stk [x] = q := ⟨_, rfl⟩
    rw [hq2] at hs2 ht2 hM
    obtain ⟨S, hSe⟩ : ∃ S : Int, (if q2 = true then (M : Int) else 0) = S := ⟨_, rfl⟩
    rw [hSe] at hs2
    have HS2 := Lib.hid hs2
    have HT2 := Lib.hid ht2
    have H := Lib.hid h
    clear hj h hi hx hb hs ht hq hF hf hne hxi hs2 ht2 hTe hMe hq2
    have HLX := Lib.hid hl
    clear hl
    go_enter Tryd.func3, Tryd.ntmps3
    go_wp2_with fail
    refine (HS.out _ (HJ.out _ (Below.refl _ _)) H.out).mono ?_
    rintro e w1 ⟨rfl, hb1⟩
    have HB1 := Lib.hid hb1
    clear hb1
    go_wp2_with fail
    refine (HT.out _ (H.out.below HB1.out)).mono ?_
    rintro e w2 ⟨rfl, rfl⟩
    have hln := HLX.out
    have hsz1 := HB1.out.size
    go_wp2_with (first
      | (at_builtin; refine wpList_append_r rfl rfl elemI64 (owns_lit0 (B := W.heap.size) (size := 1) hsz1) rfl (Rd.toV ((H.out.below HB1.out).alloc _)) rfl ints_one (by omega) (by omega) (by simp; omega) ?_; intro A2 c2 w3 hown hg _; have HO := Lib.hid (owns_start hown); have HB3 := Lib.hid (below_grown (HB1.out.alloc hsz1 _) (owns_lit0 (B := W.heap.size) (size := 1) hsz1) hg (by simp; omega)); clear hown hg)
      | (at_builtin; refine wpList_append_r rfl rfl elemI64 (HO.out.alloc _) rfl (RdV.one (Box.new _ _ _)) rfl one_one (by omega) (by omega) (by have := HB3.out.size; simp; omega) ?_; intro A4 c4 w5 hown hg _; have HO5 := Lib.hid (Rd.own (owns_snoc hown)); have HB5 := Lib.hid (below_grown (HB3.out.alloc HB3.out.size _) (HO.out.alloc _) hg (by have := HB3.out.size; simp; omega)); clear hown hg))
    refine (HS2.out _ (HJ.out _ HB5.out) _ _ HO5.out).mono ?_
    rintro e w6 ⟨rfl, hb6⟩
    have HB6 := Lib.hid (HB5.out.trans (hb6.mono HB5.out.size))
    clear hb6
    go_wp2_with fail
    refine (HT2.out _ _ _ (Rd.lit w6 2 .i64 [x] (by simp [maxLen]))).mono ?_
    rintro e w7 ⟨rfl, rfl⟩
    cases q2 with
    | false =>
      obtain rfl : S = 0 := hSe.symm
      have hTp : decide ((0 : Int) < (T : Int)) = true := by simp; omega
      go_wp2_with fail
      refine (awake09 _ (HJ.out _ (HB6.out.alloc HB6.out.size _))).mono ?_
      rintro e w8 ⟨rfl, hb8⟩
      have HB8 := Lib.hid ((HB6.out.alloc HB6.out.size _).trans (hb8.mono (by have := HB6.out.size; simp; omega)))
      clear hb8
      go_wp2
      go_ret
      exact ⟨rfl, HB8.out⟩
    | true =>
      obtain ⟨m1, m2, m3⟩ := hM rfl
      obtain rfl : S = (M : Int) := hSe.symm
      go_wp2_with fail
      refine (awake09 _ (HJ.out _ (HB6.out.alloc HB6.out.size _))).mono ?_
      rintro e w8 ⟨rfl, hb8⟩
      have HB8 := Lib.hid ((HB6.out.alloc HB6.out.size _).trans (hb8.mono (by have := HB6.out.size; simp; omega)))
      clear hb8
      go_wp2
      go_ret
      exact ⟨rfl, HB8.out⟩

namespace simpleBound
open Go.ChangeShapes Go.WideShapes Go.ChangeAt Go.RowKit Go.Cor
set_option linter.unusedVariables false

set_option maxRecDepth 100000 in
theorem lifted (os : Os) (started : os.Started) (H : Type) (enc : TypeId × Value → H) :
    ReturnsInHanded {} Tryd.checked os 3 .any (fun w args => (Rows.simpleBoundSpec.pre enc Tryd.prog Tryd.f3 [] false w args ∧ laidMetH Tryd.prog laidS w) ∧ sizedMet enc Tryd.prog Tryd.f3 (OpenSpec.ofChange Rows.simpleBoundSpec) false w args) (Rows.simpleBoundSpec.post enc Tryd.prog Tryd.f3 false true false false) := by
  refine returnsInHanded_of_change_and (C := Tryd.checked) (X := fun w _ => laidMetH Tryd.prog laidS w) (fun _ _ _ hh h => h.of_heap hh) (by kernel_rfl : ownKnob Tryd.prog.godebug = none) started (by kernel_rfl) Tryd.func3
    (ChangeSpec.witness_shaped (enc := enc) (C := Tryd.checked) (os := os) (X := fun w _ => laidMetH Tryd.prog laidS w) false (World.doorLaid Tryd.prog 400 os) #[.slice none 0 0, .int .i64 0] 8 rfl (World.shaped_of_RefB (by kernel_rfl) (by kernel_rfl)) (by kernel_rfl) (by kernel_rfl) (by kernel_rfl) (door_met os _)) ?_
  intro W base args ds gs before hval0 hW hcnd _ hL _
  have hj := of_laid hL
  have hval : ∀ (j : Nat) t v, Tryd.f3.params[j]? = some t → args[j]? = some v → Value.okWide Tryd.prog W .any base t v := hval0
  have hW' := hW
  obtain ⟨p, q, hA0, hV, rfl, hfz, hnd⟩ := hW
  have hA : DataW.TrodAll enc Tryd.prog W 0 (fun _ => true) true Tryd.f3.params.toList args.toList ds p := hA0
  rw [Tryd.params3] at hA hval
  obtain ⟨v0, vs0, d0, ds0, p0, q0, hargs, rfl, rfl, h0, r0⟩ := trodAll_cons hA
  obtain ⟨v1, vs1, d1, ds1, p1, q1, rfl, rfl, rfl, h1, r1⟩ := trodAll_cons r0
  obtain ⟨rfl, rfl, rfl⟩ := trodAll_nil r1
  obtain rfl : args = #[v0, v1] := by cases args; simp_all
  obtain ⟨rfl, rfl⟩ := trodVars_none hV
  obtain ⟨a0, len0, cap0, rfl⟩ := okWide_slice Tryd.underlying22 (hval 0 22 v0 rfl rfl)
  have k0 := h0
  have lt0 : ∀ x ∈ p0, x.block < W.heap.size := by obtain ⟨m, hm⟩ := k0; exact DataW.trod_lt m _ _ _ hm
  obtain ⟨x0, g0, b0⟩ : ∃ xs, Rd W .i64 a0 len0 cap0 xs ∧ In .i64 xs := by
    obtain ⟨fuel, hf⟩ := h0
    rcases open_ints Tryd.underlying22 Tryd.underlying2 (by kernel_rfl) hf with ⟨hcs, _⟩ | ⟨x, l, c, zs, hcs, _, hl, hm, hz, _, hcell, hwz⟩
    · simp [Value.cells] at hcs
      obtain ⟨rfl, rfl, rfl⟩ := hcs
      exact ⟨[], Rd.nilv _ _, fun _ h => by cases h⟩
    · simp [Value.cells] at hcs
      obtain ⟨rfl, rfl, rfl⟩ := hcs
      exact Rd.of_row hl hm hz hcell hwz
  obtain ⟨a1, rfl, rfl, rfl, w1⟩ := open_int Tryd.underlying2 (hval 1 2 v1 rfl rfl) h1
  clear hA0 hval0
  refine (SimpleBound_walk W hj a0 len0 cap0 x0 g0 b0 a1 (fits_of_wf w1)).mono fun e W' ⟨he, bel⟩ => ?_
  subst he
  exact ⟨_, rfl, _, _, _, [], _, [], hW', trodAll_mk1 (shut_bool Tryd.underlying4 _), (trodAll_cons_mk (Below.trod (by kernel_rfl : laidOutB Tryd.prog = true) (by kernel_rfl) (of_decide_eq_true (by kernel_rfl)) k0 bel lt0) (trodAll_cons_mk (shut_int Tryd.underlying2 w1) trodAll_mk0)), rfl, bel.frame _, fun h => by cases h⟩

theorem proved : Rows.SimpleBoundSaid :=
  OpenClaim.holds_of_wide 3 Tryd.f3 rfl rfl rfl rfl rfl rfl rfl ⟨rfl, rfl, rfl, rfl, rfl⟩ rfl rfl rfl rfl rfl (by kernel_rfl) Tryd.func3 (by kernel_rfl)
    (of_decide_eq_true (by kernel_rfl)) (by unfold Func.isWrapper; first | (rw [if_pos (by decide +kernel)]; kernel_rfl) | (rw [if_neg (by decide +kernel)]; exact ⟨rfl, rfl⟩))
    (fun os started H enc _ => lifted os started H enc)
theorem card_proved : Rows.SimpleBoundCardSaid :=
  Claim7.holds_tied_plain_at .later [] [.data] true (true, "6933165eb7f8d73dc3c6c10d1f49503a8c38ba8ec1b11c202a4084b20d70737c") true
    proved (fun _ h => by cases h) (by kernel_rfl) (fun _ h => by cases h) simpleBound_row_tie rfl ⟨rfl, rfl⟩ (by kernel_rfl) rfl
    (fun f fn hf hfn => by
      obtain rfl : f = 3 := Option.some.inj ((show Tryd.prog.funcNamed "corduroy/corduroylaw09.SimpleBound" = some 3 by kernel_rfl).symm.trans hf) |>.symm
      obtain rfl : fn = Tryd.f3 := (Option.some.inj (Tryd.func3.symm.trans hfn)).symm
      exact ⟨by kernel_rfl, fun j t ht => by
        rw [Tryd.params3] at ht
        have hm : t ∈ [22, 2] := by simpa using Array.mem_of_getElem? ht
        have hall : ([22, 2].all fun u => !Tryd.prog.wantsStandIn u) = true := by kernel_rfl
        exact (show Tryd.prog.wantsStandIn t = false by simpa using List.all_eq_true.1 hall t hm)⟩)
    (by kernel_rfl)
#print axioms card_proved
end simpleBound
end Go.Proofs.YtaohdbagcfgoeaaDoor
