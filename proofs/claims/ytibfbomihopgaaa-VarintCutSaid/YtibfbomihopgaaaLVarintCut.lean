/-
  VarintCut: for every input the law returns true; each argument reads behind the call as it read before. No condition.
-/
import Derived.Test.YtibfbomihopgaaaVarA
import Derived.Test.YtibfbomihopgaaaVarN
import Derived.ProofKit
import Derived.OpenShut
import Derived.ChangeOld
namespace Go.Proofs.Ytibfbomihopgaaa
open Go.RowKit Go.Cor Go.Free

theorem or_128 (x : Int) (h0 : 0 ≤ x) (h1 : x < 128) : bits .or .u8 x 128 = x + 128 := by
  have := or_parts_u8 x 1 7 h0 (by omega) (by omega) (by omega)
  simpa using this

set_option maxRecDepth 100000 in
set_option maxHeartbeats 2000000 in
theorem VarintCut_walk (W : World) (v' : Int) (hv : Fits .u64 v') (q : Int) (hq : Fits .u8 q) :
    Calls Try.prog 4 #[.int .u64 v', .int .u8 q] W fun e w' => e = .returned (.bool true) ∧ Below W.heap.size W w' := by
  obtain ⟨v, rfl⟩ := Int.eq_ofNat_of_zero_le hv.1
  obtain ⟨u, rfl⟩ := Int.eq_ofNat_of_zero_le hq.1
  have hu : (u : Int) ≤ 255 := hq.2
  have hvl := vput_len_u64 v (by have := hv.2; omega)
  have hvp := vput_pos v
  obtain ⟨m, hm⟩ : ∃ m, (vput v).length = m := ⟨_, rfl⟩
  have hlast := vput_last v
  obtain ⟨x, hx⟩ : ∃ x, (vput v)[m - 1]?.getD 0 = x := ⟨_, rfl⟩
  have hxl : (vput v).getLastD 0 = x := by rw [← hx, ← hm, List.getLastD_eq_getLast?, List.getLast?_eq_getElem?]
  rw [hxl] at hlast
  have hcut := vget_cut v 0 (u % m) (by rw [hm]; exact Nat.mod_lt _ (by omega)) (by have := Nat.mod_lt u (show 0 < m by omega); omega)
  have hlong := vget_long v 0 (x + 128) (by omega) (by omega)
  have hdl : (vput v).dropLast = (vput v).take (m - 1) := by rw [List.dropLast_eq_take, hm]
  rw [hdl] at hlong
  have hlongb : ∀ z ∈ (vput v).take (m - 1) ++ [x + 128, 0], 0 ≤ z ∧ z ≤ 255 := by
    intro z hz
    rcases List.mem_append.1 hz with hz | hz
    · exact vput_bytes v z (List.mem_of_mem_take hz)
    · simp at hz; omega
  have hcutb : ∀ z ∈ (vput v).take (u % m), 0 ≤ z ∧ z ≤ 255 := fun z hz => vput_bytes v z (List.mem_of_mem_take hz)
  rw [hm] at hvl hvp
  have HM := Lib.hid hm
  have HX := Lib.hid hx
  have HC := Lib.hid hcut
  have HL := Lib.hid hlong
  have HLB := Lib.hid hlongb
  have HCB := Lib.hid hcutb
  have HV := Lib.hid hv.2
  obtain ⟨hl0, hl1⟩ := hlast
  clear hm hx hxl hcut hlong hdl hlongb hcutb hv hq
  go_enter Try.func4, Try.ntmps4
  go_wp2_with fail
  refine (put_any none 0 0 [] v _ (Rd.nilv _ _) (by decide) HV.out).mono ?_
  rintro e w1 ⟨A, n, c, rfl, hown, hb1⟩
  obtain rfl : n = m := by have q1 := hown.1; have q2 := HM.out; simp at q1; omega
  have hrd : Rd w1 .u8 A n c (vput v) := Rd.own hown
  have HR := Lib.hid hrd
  have HB1 := Lib.hid hb1
  have hcap := hrd.cap
  clear hown hb1 hrd
  have hmod : u % n < n := Nat.mod_lt _ (by omega)
  go_wp2_with fail
  have hg := get_any _ _ _ _ w1 (HR.out.take (show u % n ≤ n by omega)) HCB.out
  rw [HC.out] at hg
  refine hg.mono ?_
  clear hg
  rintro e w' ⟨rfl, rfl⟩
  obtain ⟨b, o, rfl, hbl, hc⟩ := HR.out.get (by omega)
  have hcell := hc (n - 1) (by omega)
  rw [show (vput v).getD (n - 1) 0 = x by rw [← HX.out]; simp] at hcell
  have HCL := Lib.hid hcell
  clear hc hcell
  have hlen : ((vput v).take (n - 1)).length ≤ 10 := by rw [List.length_take]; omega
  have hlen2 : ((vput v).take (n - 1)).length = n - 1 := by rw [List.length_take, HM.out]; omega
  have HL2 := Lib.hid hlen2
  clear hlen2
  go_wp2_with fail
  refine wp_region_free 15 (by kernel_rfl) (by kernel_rfl) ?_
  refine chain_make (LitF (w1.heap.size) 5) (LitF.stable _ _) (S := []) rfl ?_ ?_
  · intro ρ w' hE hB hs
    clear hs
    exact ⟨(by rfl), .slice (some ⟨w'.heap.size, 0, none⟩) 0 0, w'.alloc (.cells #[] 5), (by go_simp), (Below.refl _ _).alloc (Nat.le_refl _) _, w'.heap.size, rfl, Nat.le_trans (by omega) hB.size, heap_alloc_new w' _⟩
  refine chain_val (.slice (some ⟨b, o, none⟩) n c) (S := [5]) rfl ?_ ?_
  · intro ρ w' hE hB hs
    have h5 : ρ (.tmp 5) = .slice (some ⟨b, o, none⟩) n c := hs 5 (by decide)
    clear hs
    refine if_t (by rfl) ?_
    go_simp
  refine chain_val (.slice (some ⟨b, o, none⟩) n c) (S := [5]) rfl ?_ ?_
  · intro ρ w' hE hB hs
    have h5 : ρ (.tmp 5) = .slice (some ⟨b, o, none⟩) n c := hs 5 (by decide)
    clear hs
    refine if_t (by rfl) ?_
    go_simp
  refine chain_val (.int .i64 (n : Nat)) (S := [34]) rfl ?_ ?_
  · intro ρ w' hE hB hs
    have h34 : ρ (.tmp 34) = .slice (some ⟨b, o, none⟩) n c := hs 34 (by decide)
    clear hs
    refine if_t (by rfl) ?_
    go_simp
  refine chain_val (.int .i64 ((n : Int) - 1)) (S := [35]) rfl ?_ ?_
  · intro ρ w' hE hB hs
    have h35 : ρ (.tmp 35) = .int .i64 (n : Nat) := hs 35 (by decide)
    clear hs
    have hc := hE.const
    refine if_t (by rfl) ?_
    go_simp
    exact wrapi64_in _ (by omega) (by omega)
  refine chain_val (.slice (some ⟨b, o, none⟩) (n - 1) c) (S := [33, 36]) rfl ?_ ?_
  · intro ρ w' hE hB hs
    have h33 : ρ (.tmp 33) = .slice (some ⟨b, o, none⟩) n c := hs 33 (by decide)
    have h36 : ρ (.tmp 36) = .int .i64 ((n : Int) - 1) := hs 36 (by decide)
    clear hs
    refine if_t (by rfl) ?_
    go_simp
    intro hlt
    omega
  refine chain_append0 (base := w1.heap.size) (k := .u8) (xs := ((vput v).take (n - 1))) (S := [32, 37]) elemU8 rfl rfl (by omega) ?_ (by omega) (by omega) ?_
  · intro ρ w' hE hB hs
    have h32 : (LitF (w1.heap.size) 5) (ρ (.tmp 32)) w' := hs 32 (by decide)
    have h37 : ρ (.tmp 37) = .slice (some ⟨b, o, none⟩) (n - 1) c := hs 37 (by decide)
    clear hs
    refine ⟨(by rfl), h32, ?_⟩
    exact ⟨_, _, _, h37, (HR.out.take (by omega)).below hB⟩
  refine chain_val (.slice (some ⟨b, o, none⟩) n c) (S := [5]) rfl ?_ ?_
  · intro ρ w' hE hB hs
    have h5 : ρ (.tmp 5) = .slice (some ⟨b, o, none⟩) n c := hs 5 (by decide)
    clear hs
    refine if_t (by rfl) ?_
    go_simp
  refine chain_val (.slice (some ⟨b, o, none⟩) n c) (S := [5]) rfl ?_ ?_
  · intro ρ w' hE hB hs
    have h5 : ρ (.tmp 5) = .slice (some ⟨b, o, none⟩) n c := hs 5 (by decide)
    clear hs
    refine if_t (by rfl) ?_
    go_simp
  refine chain_val (.int .i64 (n : Nat)) (S := [40]) rfl ?_ ?_
  · intro ρ w' hE hB hs
    have h40 : ρ (.tmp 40) = .slice (some ⟨b, o, none⟩) n c := hs 40 (by decide)
    clear hs
    refine if_t (by rfl) ?_
    go_simp
  refine chain_val (.int .i64 ((n : Int) - 1)) (S := [41]) rfl ?_ ?_
  · intro ρ w' hE hB hs
    have h41 : ρ (.tmp 41) = .int .i64 (n : Nat) := hs 41 (by decide)
    clear hs
    have hc := hE.const
    refine if_t (by rfl) ?_
    go_simp
    exact wrapi64_in _ (by omega) (by omega)
  refine chain_val (.pointer (some ⟨b, o + (n - 1), none⟩)) (S := [39, 42]) rfl ?_ ?_
  · intro ρ w' hE hB hs
    have h39 : ρ (.tmp 39) = .slice (some ⟨b, o, none⟩) n c := hs 39 (by decide)
    have h42 : ρ (.tmp 42) = .int .i64 ((n : Int) - 1) := hs 42 (by decide)
    clear hs
    refine if_t (by rfl) ?_
    go_simp
    intro hh
    omega
  refine chain_val (.int .u8 x) (S := [43]) rfl ?_ ?_
  · intro ρ w' hE hB hs
    have h43 : ρ (.tmp 43) = .pointer (some ⟨b, o + (n - 1), none⟩) := hs 43 (by decide)
    clear hs
    refine if_t (by rfl) ?_
    have hcl := (hB.cell (p := ⟨b, o + (n - 1), none⟩) hbl).trans HCL.out
    go_simp
  refine chain_val (.int .u8 (x + 128)) (S := [44]) rfl ?_ ?_
  · intro ρ w' hE hB hs
    have h44 : ρ (.tmp 44) = .int .u8 x := hs 44 (by decide)
    clear hs
    have hc := hE.const
    refine if_t (by rfl) ?_
    go_simp
    rw [or_128 x hl0 hl1]
  refine chain_make (RdF .u8 [(x + 128), 0]) (RdF.stable _ _) (S := [45]) rfl ?_ ?_
  · intro ρ w' hE hB hs
    have h45 : ρ (.tmp 45) = .int .u8 (x + 128) := hs 45 (by decide)
    clear hs
    have hc := hE.const
    exact ⟨(by rfl), .slice (some ⟨w'.heap.size, 0, none⟩) 2 2, w'.alloc (.cells #[.int .u8 (x + 128), .int .u8 0] 5), (by go_simp), (Below.refl _ _).alloc (Nat.le_refl _) _, _, _, _, rfl, Rd.lit w' 5 .u8 [(x + 128), 0] (by simp [maxLen])⟩
  intro w1 hB1
  simp only [List.reverse_cons, List.reverse_nil, List.nil_append, List.cons_append, Go.Free.Ends, forall_eq, Act.put, List.setIfInBounds_toArray, List.set_cons_zero, List.set_cons_succ]
  rintro _ _ _ ⟨A2, n2, c2, rfl, hown2⟩ _ ⟨A3, n3, c3, rfl, hr3⟩
  have hn2 : n2 = n - 1 := by have := hown2.1; have := HL2.out; simp at *; omega
  have hn3 : n3 = 2 := by have := hr3.len; simpa using this.symm
  subst hn2 hn3
  have HO2 := Lib.hid hown2
  have H3 := Lib.hid hr3
  have HB2 := Lib.hid hB1
  have hsz := hB1.size
  clear hown2 hr3 hB1
  go_wp2_with (at_builtin; refine wpList_append_r rfl rfl elemU8 HO2.out rfl (Rd.toV H3.out) rfl ints_one (by omega) (by omega) hsz ?_; intro A' c' w3 hown hg _)
  have hrd : Rd w3 .u8 A' (n - 1 + 2) c' ((vput v).take (n - 1) ++ [x + 128, 0]) := Rd.own (owns_app hown)
  have HR3 := Lib.hid hrd
  have HB3 := Lib.hid (HB1.out.trans ((below_grown HB2.out HO2.out hg hsz).mono HB1.out.size))
  clear hrd hown hg
  have hg := get_any _ _ _ _ w3 HR3.out HLB.out
  refine hg.mono ?_
  clear hg
  rintro e w' ⟨rfl, rfl⟩
  have HLL := HL.out
  obtain ⟨⟨a1, a2, a3⟩, ha⟩ : ∃ t, vget 0 ((vput v).take (n - 1) ++ [x + 128, 0]) = t := ⟨_, rfl⟩
  rw [ha] at HLL ⊢
  simp only at HLL
  subst HLL
  clear ha
  go_wp2_with fail
  refine (awake04 _).mono ?_
  rintro e w' ⟨rfl, hb⟩
  go_wp2
  go_ret
  exact ⟨rfl, HB3.out.trans (hb.mono HB3.out.size)⟩

namespace varintCut
open Go.ChangeShapes Go.WideShapes Go.ChangeAt Go.RowKit Go.Cor
set_option linter.unusedVariables false

set_option maxRecDepth 100000 in
theorem lifted (os : Os) (started : os.Started) (H : Type) (enc : TypeId × Value → H) :
    ReturnsInHanded {} Try.checked os 4 .any (Rows.varintCutSpec.pre6 enc Try.prog Try.f4 Rows.varintCutRow.domain false) (Rows.varintCutSpec.post enc Try.prog Try.f4 false true false false) := by
  refine returnsInHanded_of_change (C := Try.checked) (by kernel_rfl : ownKnob Try.prog.godebug = none) started (by kernel_rfl) Try.func4
    (ChangeSpec.witness6 (enc := enc) (C := Try.checked) false ⟨#[], #[.int .u64 0, .int .u8 0], []⟩ 8 (by kernel_rfl) (by kernel_rfl) (by kernel_rfl) (by kernel_rfl)) ?_
  intro W base args ds gs before hval0 hW hcnd _
  have hval : ∀ (j : Nat) t v, Try.f4.params[j]? = some t → args[j]? = some v → Value.okWide Try.prog W .any base t v := hval0
  have hW' := hW
  obtain ⟨p, q, hA0, hV, rfl, hfz, hnd⟩ := hW
  have hA : DataW.TrodAll enc Try.prog W 0 (fun _ => true) true Try.f4.params.toList args.toList ds p := hA0
  rw [Try.params4] at hA hval
  obtain ⟨v0, vs0, d0, ds0, p0, q0, hargs, rfl, rfl, h0, r0⟩ := trodAll_cons hA
  obtain ⟨v1, vs1, d1, ds1, p1, q1, rfl, rfl, rfl, h1, r1⟩ := trodAll_cons r0
  obtain ⟨rfl, rfl, rfl⟩ := trodAll_nil r1
  obtain rfl : args = #[v0, v1] := by cases args; simp_all
  obtain ⟨rfl, rfl⟩ := trodVars_none hV
  obtain ⟨a0, rfl, rfl, rfl, w0⟩ := open_int Try.underlying23 (hval 0 23 v0 rfl rfl) h0
  obtain ⟨a1, rfl, rfl, rfl, w1⟩ := open_int Try.underlying5 (hval 1 5 v1 rfl rfl) h1
  clear hA0 hval0
  refine (VarintCut_walk W a0 (fits_of_wf w0) a1 (fits_of_wf w1)).mono fun e W' ⟨he, bel⟩ => ?_
  subst he
  exact ⟨_, rfl, _, _, _, [], _, [], hW', trodAll_mk1 (shut_bool Try.underlying4 _), (trodAll_cons_mk (shut_int Try.underlying23 w0) (trodAll_cons_mk (shut_int Try.underlying5 w1) trodAll_mk0)), rfl, bel.frame _, fun h => by cases h⟩

theorem proved : Rows.VarintCutSaid :=
  OpenClaim.holds_of_wide 4 Try.f4 rfl rfl rfl rfl rfl rfl rfl ⟨rfl, rfl, rfl, rfl, rfl⟩ rfl rfl rfl rfl rfl (by kernel_rfl) Try.func4 (by kernel_rfl)
    (of_decide_eq_true (by kernel_rfl)) (by unfold Func.isWrapper; first | (rw [if_pos (by decide +kernel)]; kernel_rfl) | (rw [if_neg (by decide +kernel)]; exact ⟨rfl, rfl⟩))
    (fun os started H enc _ => lifted os started H enc)
#print axioms proved
end varintCut
end Go.Proofs.Ytibfbomihopgaaa
