/-
  HybridConstant: for every input the law returns true; the arguments read behind the call as they read before. No condition.
-/
import Derived.ChangeOld
import Derived.Test.YtbfnaigefmdcdaaG28
namespace Go.Cor
theorem sameAs_rep (a : Int) (n : Nat) : sameAs a (List.replicate n a) = n := by
  induction n with
  | zero => rfl
  | succ n ih => rw [List.replicate_succ, sameAs, if_pos rfl, ih]
theorem most_rep (a : Int) (n : Nat) (hn : 0 < n) (h : 0 ≤ bw a) : most (List.replicate n a) = bw a := by
  have : ∀ (n : Nat) (m : Int), m = bw a → (List.replicate n a).foldl (fun m v => max m (bw v)) m = bw a := by
    intro n
    induction n with
    | zero => intro m hm; simpa using hm
    | succ n ih => intro m hm; rw [List.replicate_succ, List.foldl_cons, ih]; omega
  cases n with
  | zero => omega
  | succ n =>
    unfold most
    rw [List.replicate_succ, List.foldl_cons, this]; omega
theorem hform_const (v : Int) (n : Nat) (hn : 8 ≤ n) : ((hform (List.replicate n v)).length : Int) = 1 + (vput (2 * n)).length + (bw (zig v) + 7) / 8 := by
  have hb : 0 ≤ bw (zig v) := by unfold bw; omega
  have hs : same (List.replicate n (zig v)) = n := by
    unfold same
    rw [List.getElem?_replicate_of_lt (by omega)]
    exact sameAs_rep _ _
  have ht : htak (List.replicate n (zig v)) = n := by unfold htak; rw [if_pos (by omega), hs]
  have hne : List.replicate n (zig v) ≠ [] := by simp; omega
  have h1 : hrest (bw (zig v)).toNat (List.replicate n (zig v)) = vput (2 * n) ++ leb (zig v).toNat (octets (bw (zig v)).toNat) := by
    rw [hrest_step _ hne, ht, List.drop_of_length_le (by simp), hrest_nil, List.append_nil, (hone_run (by omega)).2, hs, List.getElem?_replicate_of_lt (by omega)]
    rfl
  unfold hform
  rw [List.map_replicate, most_rep _ _ (by omega) hb, h1, List.length_cons, List.length_append, leb_len]
  unfold octets
  omega
end Go.Cor
namespace Go.Proofs.Ytbfnaigefmdcdaa
open Go.RowKit Go.Cor Go.Free

set_option maxRecDepth 100000 in
set_option maxHeartbeats 2000000 in
theorem HybridConstant_walk (W : World) (v : Int) (hv : Fits .i64 v) (n0 : Int) (hn0 : Fits .u16 n0) :
    Calls Try.prog 8 #[.int .i64 v, .int .u16 n0] W fun e w' => e = .returned (.bool true) ∧ Below W.heap.size W w' := by
  obtain ⟨hn1, hn2⟩ := hn0
  obtain ⟨n, rfl⟩ := Int.eq_ofNat_of_zero_le hn1
  by_cases h8 : n < 8
  · have hd : decide ((n : Int) < 8) = true := by simp; omega
    go_enter Try.func8, Try.ntmps8
    go_wp2
    go_ret
    exact ⟨rfl, Below.refl _ _⟩
  have hd : decide ((n : Int) < 8) = false := by simp; omega
  by_cases h9 : 1024 < n
  · have hd2 : decide (1024 < (n : Int)) = true := by simp; omega
    go_enter Try.func8, Try.ntmps8
    go_wp2
    go_ret
    exact ⟨rfl, Below.refl _ _⟩
  have hd2 : decide (1024 < (n : Int)) = false := by simp; omega
  have hn3 : n ≤ 1024 := by omega
  have HV := Lib.hid hv
  have hvz := fun w => refZig_any v w hv.1 hv.2
  have hzm := zig_max v hv.1 hv.2
  have hof := fun w => refOf_any (zig v) w (zig_nonneg v) hzm
  have hbw := bw_bound (zig v) hzm
  have hfc := hform_const v n (by omega)
  have hzn := zig_nonneg v
  obtain ⟨z, hz⟩ : ∃ z, zig v = z := ⟨_, rfl⟩
  rw [hz] at hvz hof hbw hfc hzm hzn
  obtain ⟨b, hb⟩ : ∃ b, bw z = b := ⟨_, rfl⟩
  rw [hb] at hof hbw hfc
  have hput := fun w => refVPut_any (2 * n) w (by omega)
  rw [show ((2 * n : Nat) : Int) = 2 * (n : Int) by omega] at hput
  have hvl := vput_len_u64 (2 * n) (by omega)
  obtain ⟨p, hp⟩ : ∃ p, (vput (2 * n)).length = p := ⟨_, rfl⟩
  rw [hp] at hfc hvl
  have HZ := Lib.hid hvz
  have HOF := Lib.hid hof
  have HPUT := Lib.hid (And.intro hput hp)
  have HFC := Lib.hid hfc
  obtain ⟨hb0, hb1⟩ := hbw
  clear hv hvz hof hfc hz hb hput hp
  go_enter Try.func8, Try.ntmps8
  go_wp2_with fail
  go_loopg [5, 6] n (fun g v5 v6 wr => ∃ (i : Nat) (A : Option Addr) (c : Nat), v6 = .int .i64 i ∧ i ≤ n ∧ g = n - i ∧ v5 = .slice A i c ∧ Hid (Owns wr W.heap.size 2 .i64 A i c (List.replicate i v) ∧ Below W.heap.size W wr))
  case atStart => exact ⟨0, none, 0, rfl, by omega, rfl, rfl, Lib.hid ⟨owns_nil _ _ _ _, Below.refl _ _⟩⟩
  case round =>
    obtain ⟨i, A, c, rfl, hi, rfl, rfl, hI⟩ := hrel
    by_cases hlt : i < n
    · go_wp2_with (at_builtin; refine wpList_append_r rfl rfl elemI64 (hI.out.1.alloc _) rfl (RdV.one (Box.new _ _ _)) rfl one_one (by omega) (by omega) (by have := hI.out.2.size; simp; omega) ?_; intro A5 c5 w7 hown hg _)
      have HB7 := Lib.hid (below_grown (hI.out.2.alloc hI.out.2.size _) (hI.out.1.alloc _) hg (by have := hI.out.2.size; simp; omega))
      have HO7 := Lib.hid (owns_snoc hown)
      clear hown hg
      go_roundg (n - (i + 1))
      case measure => omega
      case rel => exact ⟨i + 1, A5, c5, by go_num, by omega, rfl, rfl, Lib.hid ⟨by rw [List.replicate_succ']; exact HO7.out, HB7.out⟩⟩
    · obtain rfl : i = n := by omega
      have hinv : In .i64 (List.replicate i v) := fun x hx => by rw [List.eq_of_mem_replicate hx]; exact HV.out
      have hsz := fun w A c h => hybS.c w A i c (List.replicate i v) h hinv (by omega)
      have htk : tak tkAll (List.replicate i v) = true := by rw [tak_all, List.length_replicate]; exact decide_eq_true (by omega)
      rw [htk, if_pos rfl, HFC.out] at hsz
      have HSZ := Lib.hid hsz
      clear hinv hsz htk
      go_wp2_with fail
      refine (HZ.out _).mono ?_
      rintro e w2 ⟨rfl, rfl⟩
      go_wp2_with fail
      refine (HOF.out _).mono ?_
      rintro e w2 ⟨rfl, rfl⟩
      go_wp2_with fail
      refine (HSZ.out _ _ _ (Rd.own hI.out.1)).mono ?_
      rintro e w3 ⟨rfl, hb3⟩
      have HB3 := Lib.hid (hI.out.2.trans (hb3.mono hI.out.2.size))
      clear hb3
      go_wp2_with fail
      refine (HPUT.out.1 _).mono ?_
      rintro e w4 ⟨A4, m4, c4, rfl, ho4, hb4⟩
      obtain rfl : m4 = p := by have := row_len ho4; have := HPUT.out.2; omega
      have HB4 := Lib.hid (HB3.out.trans (hb4.mono HB3.out.size))
      clear ho4 hb4
      go_wp2_with fail
      refine (awake10 _).mono ?_
      rintro e w5 ⟨rfl, hb5⟩
      have HB5 := Lib.hid (HB4.out.trans (hb5.mono HB4.out.size))
      clear hb5
      go_wp2
      go_ret
      exact ⟨rfl, HB5.out⟩

namespace hybridConstant
open Go.ChangeShapes Go.WideShapes Go.ChangeAt Go.RowKit Go.Cor
set_option linter.unusedVariables false

set_option maxRecDepth 100000 in
theorem lifted (os : Os) (started : os.Started) (H : Type) (enc : TypeId × Value → H) :
    ReturnsInHanded {} Try.checked os 8 .any (Rows.hybridConstantSpec.pre6 enc Try.prog Try.f8 Rows.hybridConstantRow.domain false) (Rows.hybridConstantSpec.post enc Try.prog Try.f8 false true false false) := by
  refine returnsInHanded_of_change (C := Try.checked) (by kernel_rfl : ownKnob Try.prog.godebug = none) started (by kernel_rfl) Try.func8
    (ChangeSpec.witness6 (enc := enc) (C := Try.checked) false ⟨#[], #[.int .i64 0, .int .u16 0], []⟩ 8 (by kernel_rfl) (by kernel_rfl) (by kernel_rfl) (by kernel_rfl)) ?_
  intro W base args ds gs before hval0 hW hcnd _
  have hval : ∀ (j : Nat) t v, Try.f8.params[j]? = some t → args[j]? = some v → Value.okWide Try.prog W .any base t v := hval0
  have hW' := hW
  obtain ⟨p, q, hA0, hV, rfl, hfz, hnd⟩ := hW
  have hA : DataW.TrodAll enc Try.prog W 0 (fun _ => true) true Try.f8.params.toList args.toList ds p := hA0
  rw [Try.params8] at hA hval
  obtain ⟨v0, vs0, d0, ds0, p0, q0, hargs, rfl, rfl, h0, r0⟩ := trodAll_cons hA
  obtain ⟨v1, vs1, d1, ds1, p1, q1, rfl, rfl, rfl, h1, r1⟩ := trodAll_cons r0
  obtain ⟨rfl, rfl, rfl⟩ := trodAll_nil r1
  obtain rfl : args = #[v0, v1] := by cases args; simp_all
  obtain ⟨rfl, rfl⟩ := trodVars_none hV
  obtain ⟨a0, rfl, rfl, rfl, w0⟩ := open_int Try.underlying2 (hval 0 2 v0 rfl rfl) h0
  obtain ⟨a1, rfl, rfl, rfl, w1⟩ := open_int Try.underlying43 (hval 1 43 v1 rfl rfl) h1
  clear hA0 hval0
  refine (HybridConstant_walk W a0 (fits_of_wf w0) a1 (fits_of_wf w1)).mono fun e W' ⟨he, bel⟩ => ?_
  subst he
  exact ⟨_, rfl, _, _, _, [], _, [], hW', trodAll_mk1 (shut_bool Try.underlying4 _), (trodAll_cons_mk (shut_int Try.underlying2 w0) (trodAll_cons_mk (shut_int Try.underlying43 w1) trodAll_mk0)), rfl, bel.frame _, fun h => by cases h⟩

theorem proved : Rows.HybridConstantSaid :=
  OpenClaim.holds_of_wide 8 Try.f8 rfl rfl rfl rfl rfl rfl rfl ⟨rfl, rfl, rfl, rfl, rfl⟩ rfl rfl rfl rfl rfl (by kernel_rfl) Try.func8 (by kernel_rfl)
    (of_decide_eq_true (by kernel_rfl)) (by unfold Func.isWrapper; first | (rw [if_pos (by decide +kernel)]; kernel_rfl) | (rw [if_neg (by decide +kernel)]; exact ⟨rfl, rfl⟩))
    (fun os started H enc _ => lifted os started H enc)
#print axioms proved
end hybridConstant
end Go.Proofs.Ytbfnaigefmdcdaa
