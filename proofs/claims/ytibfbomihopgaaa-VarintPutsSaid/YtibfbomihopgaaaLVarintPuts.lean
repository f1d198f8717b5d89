/-
  VarintPuts: for every input the law returns true; each argument reads behind the call as it read before. No condition.
-/
import Derived.Test.YtibfbomihopgaaaVarA
import Derived.ProofKit
import Derived.OpenShut
import Derived.ChangeOld
namespace Go.Proofs.Ytibfbomihopgaaa
open Go.RowKit Go.Cor Go.Free

set_option maxRecDepth 100000 in
set_option maxHeartbeats 2000000 in
theorem VarintPuts_walk (W : World) (A : Option Addr) (n c : Nat) (xs : List Int) (h : Rd W .u8 A n c xs) (_hx : In .u8 xs) (v' : Int) (hv : Fits .u64 v') :
    Calls Try.prog 11 #[.slice A n c, .int .u64 v'] W fun e w' => e = .returned (.bool true) ∧ Below W.heap.size W w' := by
  obtain ⟨v, rfl⟩ := Int.eq_ofNat_of_zero_le hv.1
  by_cases hn : 200 < n
  · clear h _hx hv
    go_enter Try.func11, Try.ntmps11
    go_wp2
    go_ret
    exact ⟨rfl, Below.refl _ _⟩
  · have H := Lib.hid h
    have HV := Lib.hid hv.2
    clear h _hx hv
    go_enter Try.func11, Try.ntmps11
    go_wp2_with (go_at_call 39; refine (refPut_any v _ HV.out).mono ?_; rintro e w1 ⟨A2, n2, c2, rfl, hown, hb1⟩)
    have HR := Lib.hid (H.out.below hb1)
    have HR2 := Lib.hid (Rd.own hown)
    have HB1 := Lib.hid hb1
    clear hown hb1
    have hsz : (strOfNums xs).size ≤ 200 := by rw [strOfNums_size, HR.out.len]; omega
    have hsz2 : (strOfNums (vput v)).size ≤ 10 := by rw [strOfNums_size]; exact vput_len_u64 v (by have := HV.out; omega)
    have HE := Lib.hid (strOfNums_append xs (vput v))
    have HL := Lib.hid HR2.out.len
    refine wp_region_free 21 (by kernel_rfl) (by kernel_rfl) ?_
    refine chain_val (.slice A n c) (S := [0]) rfl ?_ ?_
    · intro ρ w' hE hB hs
      have h0 : ρ (.tmp 0) = .slice A n c := hs 0 (by decide)
      clear hs
      refine if_t (by rfl) ?_
      go_simp
    refine chain_val (.int .u64 (v : Int)) (S := [1]) rfl ?_ ?_
    · intro ρ w' hE hB hs
      have h1 : ρ (.tmp 1) = .int .u64 (v : Int) := hs 1 (by decide)
      clear hs
      refine if_t (by rfl) ?_
      go_simp
    refine chain_static (RdF .u8 (xs ++ vput v)) (RdF.stable _ _) (S := [11, 12]) rfl (Go.Cor.enters_f Try.func18 (by kernel_rfl) rfl) rfl ?_ ?_
    · intro ρ w' hE hB hs
      have h11 : ρ (.tmp 11) = .slice A n c := hs 11 (by decide)
      have h12 : ρ (.tmp 12) = .int .u64 (v : Int) := hs 12 (by decide)
      clear hs
      refine ⟨(by rfl), ?_⟩
      simp only [List.map_toArray, List.map_cons, List.map_nil, h11, h12]
      refine (put_any A n c xs v w' (HR.out.below hB) (by omega) HV.out).mono ?_
      rintro e w'' ⟨A', n', c', rfl, hown, hb⟩
      exact ⟨_, rfl, hb, A', n', c', rfl, Rd.own hown⟩
    refine chain_val (.string (strOfNums (xs ++ vput v))) (S := [13]) rfl ?_ ?_
    · intro ρ w' hE hB hs
      have h13 : (RdF .u8 (xs ++ vput v)) (ρ (.tmp 13)) w' := hs 13 (by decide)
      clear hs
      refine if_t (by rfl) ?_
      obtain ⟨A13, n13, c13, e13, r13⟩ := h13
      have hcv := conv_bytes r13 22 5 9 Try.underlying22 Try.underlying5 Try.underlying9
      clear r13
      go_simp
    refine chain_val (.slice A n c) (S := [0]) rfl ?_ ?_
    · intro ρ w' hE hB hs
      have h0 : ρ (.tmp 0) = .slice A n c := hs 0 (by decide)
      clear hs
      refine if_t (by rfl) ?_
      go_simp
    refine chain_val (.string (strOfNums xs)) (S := [15]) rfl ?_ ?_
    · intro ρ w' hE hB hs
      have h15 : ρ (.tmp 15) = .slice A n c := hs 15 (by decide)
      clear hs
      refine if_t (by rfl) ?_
      have hcv := conv_bytes (HR.out.below hB) 22 5 9 Try.underlying22 Try.underlying5 Try.underlying9
      go_simp
    refine chain_val (.slice A2 n2 c2) (S := [5]) rfl ?_ ?_
    · intro ρ w' hE hB hs
      have h5 : ρ (.tmp 5) = .slice A2 n2 c2 := hs 5 (by decide)
      clear hs
      refine if_t (by rfl) ?_
      go_simp
    refine chain_val (.string (strOfNums (vput v))) (S := [17]) rfl ?_ ?_
    · intro ρ w' hE hB hs
      have h17 : ρ (.tmp 17) = .slice A2 n2 c2 := hs 17 (by decide)
      clear hs
      refine if_t (by rfl) ?_
      have hcv := conv_bytes (HR2.out.below hB) 22 5 9 Try.underlying22 Try.underlying5 Try.underlying9
      go_simp
    refine chain_val (.string (strOfNums (xs ++ vput v))) (S := [16, 18]) rfl ?_ ?_
    · intro ρ w' hE hB hs
      have h16 : ρ (.tmp 16) = .string (strOfNums xs) := hs 16 (by decide)
      have h18 : ρ (.tmp 18) = .string (strOfNums (vput v)) := hs 18 (by decide)
      clear hs
      refine if_t (by rfl) ?_
      go_simp
      rw [HE.out]
      go_simp
      omega
    refine chain_val (.bool true) (S := [14, 19]) rfl ?_ ?_
    · intro ρ w' hE hB hs
      have h14 : ρ (.tmp 14) = .string (strOfNums (xs ++ vput v)) := hs 14 (by decide)
      have h19 : ρ (.tmp 19) = .string (strOfNums (xs ++ vput v)) := hs 19 (by decide)
      clear hs
      refine if_t (by rfl) ?_
      go_simp
    refine chain_val (.bool true) (S := [20]) rfl ?_ ?_
    · intro ρ w' hE hB hs
      have h20 : ρ (.tmp 20) = .bool true := hs 20 (by decide)
      clear hs
      refine if_t (by rfl) ?_
      go_simp
    refine chain_val (.int .u64 (v : Int)) (S := [1, 21]) rfl ?_ ?_
    · intro ρ w' hE hB hs
      have h1 : ρ (.tmp 1) = .int .u64 (v : Int) := hs 1 (by decide)
      have h21 : ρ (.tmp 21) = .bool true := hs 21 (by decide)
      clear hs
      refine if_t (by simp [Region.wanted, yieldedR, h21]) ?_
      go_simp
    refine chain_static (fun v__ _ => v__ = .int .i64 ((vput v).length : Int)) (stable_eq _) (S := [22, 21]) rfl (Go.Cor.enters_f Try.func40 (by kernel_rfl) rfl) rfl ?_ ?_
    · intro ρ w' hE hB hs
      have h21 : ρ (.tmp 21) = .bool true := hs 21 (by decide)
      have h22 : ρ (.tmp 22) = .int .u64 (v : Int) := hs 22 (by decide)
      clear hs
      refine ⟨(by simp [Region.wanted, yieldedR, h21]), ?_⟩
      simp only [List.map_toArray, List.map_cons, List.map_nil, h22]
      refine (size_any v w' HV.out).mono ?_
      rintro e w'' ⟨rfl, hb⟩
      exact ⟨_, rfl, hb, rfl⟩
    refine chain_val (.slice A2 n2 c2) (S := [5, 21]) rfl ?_ ?_
    · intro ρ w' hE hB hs
      have h5 : ρ (.tmp 5) = .slice A2 n2 c2 := hs 5 (by decide)
      have h21 : ρ (.tmp 21) = .bool true := hs 21 (by decide)
      clear hs
      refine if_t (by simp [Region.wanted, yieldedR, h21]) ?_
      go_simp
    refine chain_val (.int .i64 (n2 : Nat)) (S := [24, 21]) rfl ?_ ?_
    · intro ρ w' hE hB hs
      have h21 : ρ (.tmp 21) = .bool true := hs 21 (by decide)
      have h24 : ρ (.tmp 24) = .slice A2 n2 c2 := hs 24 (by decide)
      clear hs
      refine if_t (by simp [Region.wanted, yieldedR, h21]) ?_
      go_simp
    refine chain_val (.bool true) (S := [23, 25, 21]) rfl ?_ ?_
    · intro ρ w' hE hB hs
      have h21 : ρ (.tmp 21) = .bool true := hs 21 (by decide)
      have h23 : ρ (.tmp 23) = .int .i64 ((vput v).length : Int) := hs 23 (by decide)
      have h25 : ρ (.tmp 25) = .int .i64 (n2 : Nat) := hs 25 (by decide)
      clear hs
      refine if_t (by simp [Region.wanted, yieldedR, h21]) ?_
      have hl := HL.out
      go_simp
    refine chain_val (.bool true) (S := [21, 26]) rfl ?_ ?_
    · intro ρ w' hE hB hs
      have h21 : ρ (.tmp 21) = .bool true := hs 21 (by decide)
      have h26 : ρ (.tmp 26) = .bool true := hs 26 (by decide)
      clear hs
      have hc := hE.const
      refine if_t (by rfl) ?_
      go_simp
    refine chain_val (.bool true) (S := [27]) rfl ?_ ?_
    · intro ρ w' hE hB hs
      have h27 : ρ (.tmp 27) = .bool true := hs 27 (by decide)
      clear hs
      refine if_t (by rfl) ?_
      go_simp
    refine chain_static (fun v__ _ => v__ = .bool true) (stable_eq _) (S := [28]) rfl (Go.Cor.enters_f Try.func17 (by kernel_rfl) rfl) rfl ?_ ?_
    · intro ρ w' hE hB hs
      have h28 : ρ (.tmp 28) = .bool true := hs 28 (by decide)
      clear hs
      refine ⟨(by simp [Region.wanted, yieldedR, h28]), ?_⟩
      simp only [List.map_toArray, List.map_cons, List.map_nil, ]
      refine (awake04 w').mono ?_
      rintro e w'' ⟨rfl, hb⟩
      exact ⟨_, rfl, hb, rfl⟩
    refine chain_val (.bool true) (S := [28, 29]) rfl ?_ ?_
    · intro ρ w' hE hB hs
      have h28 : ρ (.tmp 28) = .bool true := hs 28 (by decide)
      have h29 : ρ (.tmp 29) = .bool true := hs 29 (by decide)
      clear hs
      have hc := hE.const
      refine if_t (by rfl) ?_
      go_simp
    refine chain_val (.bool true) (S := [30]) rfl ?_ ?_
    · intro ρ w' hE hB hs
      have h30 : ρ (.tmp 30) = .bool true := hs 30 (by decide)
      clear hs
      refine if_t (by rfl) ?_
      go_simp
    intro w1 hB1
    simp only [List.reverse_cons, List.reverse_nil, List.nil_append, List.cons_append, Go.Free.Ends, forall_eq, Act.put, List.setIfInBounds_toArray, List.set_cons_zero, List.set_cons_succ]
    intro _ _
    go_wp2
    go_ret
    exact ⟨rfl, HB1.out.trans (hB1.mono HB1.out.size)⟩

namespace varintPuts
open Go.ChangeShapes Go.WideShapes Go.ChangeAt Go.RowKit Go.Cor
set_option linter.unusedVariables false

set_option maxRecDepth 100000 in
theorem lifted (os : Os) (started : os.Started) (H : Type) (enc : TypeId × Value → H) :
    ReturnsInHanded {} Try.checked os 11 .any (Rows.varintPutsSpec.pre6 enc Try.prog Try.f11 Rows.varintPutsRow.domain false) (Rows.varintPutsSpec.post enc Try.prog Try.f11 false true false false) := by
  refine returnsInHanded_of_change (C := Try.checked) (by kernel_rfl : ownKnob Try.prog.godebug = none) started (by kernel_rfl) Try.func11
    (ChangeSpec.witness6 (enc := enc) (C := Try.checked) false ⟨#[], #[.slice none 0 0, .int .u64 0], []⟩ 8 (by kernel_rfl) (by kernel_rfl) (by kernel_rfl) (by kernel_rfl)) ?_
  intro W base args ds gs before hval0 hW hcnd _
  have hval : ∀ (j : Nat) t v, Try.f11.params[j]? = some t → args[j]? = some v → Value.okWide Try.prog W .any base t v := hval0
  have hW' := hW
  obtain ⟨p, q, hA0, hV, rfl, hfz, hnd⟩ := hW
  have hA : DataW.TrodAll enc Try.prog W 0 (fun _ => true) true Try.f11.params.toList args.toList ds p := hA0
  rw [Try.params11] at hA hval
  obtain ⟨v0, vs0, d0, ds0, p0, q0, hargs, rfl, rfl, h0, r0⟩ := trodAll_cons hA
  obtain ⟨v1, vs1, d1, ds1, p1, q1, rfl, rfl, rfl, h1, r1⟩ := trodAll_cons r0
  obtain ⟨rfl, rfl, rfl⟩ := trodAll_nil r1
  obtain rfl : args = #[v0, v1] := by cases args; simp_all
  obtain ⟨rfl, rfl⟩ := trodVars_none hV
  obtain ⟨a0, len0, cap0, rfl⟩ := okWide_slice Try.underlying22 (hval 0 22 v0 rfl rfl)
  have k0 := h0
  have lt0 : ∀ x ∈ p0, x.block < W.heap.size := by obtain ⟨m, hm⟩ := k0; exact DataW.trod_lt m _ _ _ hm
  obtain ⟨x0, g0, b0⟩ : ∃ xs, Rd W .u8 a0 len0 cap0 xs ∧ In .u8 xs := by
    obtain ⟨fuel, hf⟩ := h0
    rcases open_ints Try.underlying22 Try.underlying5 (by kernel_rfl) hf with ⟨hcs, _⟩ | ⟨x, l, c, zs, hcs, _, hl, hm, hz, _, hcell, hwz⟩
    · simp [Value.cells] at hcs
      obtain ⟨rfl, rfl, rfl⟩ := hcs
      exact ⟨[], Rd.nilv _ _, fun _ h => by cases h⟩
    · simp [Value.cells] at hcs
      obtain ⟨rfl, rfl, rfl⟩ := hcs
      exact Rd.of_row hl hm hz hcell hwz
  obtain ⟨a1, rfl, rfl, rfl, w1⟩ := open_int Try.underlying23 (hval 1 23 v1 rfl rfl) h1
  clear hA0 hval0
  refine (VarintPuts_walk W a0 len0 cap0 x0 g0 b0 a1 (fits_of_wf w1)).mono fun e W' ⟨he, bel⟩ => ?_
  subst he
  exact ⟨_, rfl, _, _, _, [], _, [], hW', trodAll_mk1 (shut_bool Try.underlying4 _), (trodAll_cons_mk (Below.trod (by kernel_rfl : laidOutB Try.prog = true) (by kernel_rfl) (of_decide_eq_true (by kernel_rfl)) k0 bel lt0) (trodAll_cons_mk (shut_int Try.underlying23 w1) trodAll_mk0)), rfl, bel.frame _, fun h => by cases h⟩

theorem proved : Rows.VarintPutsSaid :=
  OpenClaim.holds_of_wide 11 Try.f11 rfl rfl rfl rfl rfl rfl rfl ⟨rfl, rfl, rfl, rfl, rfl⟩ rfl rfl rfl rfl rfl (by kernel_rfl) Try.func11 (by kernel_rfl)
    (of_decide_eq_true (by kernel_rfl)) (by unfold Func.isWrapper; first | (rw [if_pos (by decide +kernel)]; kernel_rfl) | (rw [if_neg (by decide +kernel)]; exact ⟨rfl, rfl⟩))
    (fun os started H enc _ => lifted os started H enc)
#print axioms proved
end varintPuts
end Go.Proofs.Ytibfbomihopgaaa
