/-
  ZvarSmall: for every input the law returns true; the argument reads behind the call as it read before. No condition.
-/
import Derived.Test.YtbfnaigefmdcdaaZvarL
import Derived.ChangeOld
namespace Go.Cor
open Go
/-- a small number -/
def sml (x : Int) : Bool := decide (-64 ≤ x) && decide (x < 64)
theorem vput_one (v : Nat) : (vput v).length = 1 ↔ v < 128 := by
  by_cases h : v < 128
  · rw [vput_small h]; simp [h]
  · rw [vput_big (by omega)]
    have := vput_pos (v / 128)
    simp only [List.length_cons]; omega
theorem sml_iff (x : Int) : sml x = true ↔ (vput (zig x).toNat).length = 1 := by
  rw [vput_one]
  have := zig_nonneg x
  unfold sml
  simp only [Bool.and_eq_true, decide_eq_true_eq]
  unfold zig at *
  split <;> omega
theorem zform_small {xs : List Int} (h : ∀ x ∈ xs, I64 x) : (zform xs).length = xs.length ↔ xs.all sml = true := by
  induction xs with
  | nil => simp [zform]
  | cons x r ih =>
    have h1 := vput_pos (zig x).toNat
    have h3 := (zform_len (xs := r) fun y hy => h y (by simp [hy])).1
    have h4 := ih fun y hy => h y (by simp [hy])
    have h5 := sml_iff x
    rw [zform_cons, List.length_append, List.length_cons, List.all_cons, Bool.and_eq_true, h5, ← h4]
    omega
theorem all_snoc {l : List Int} {k : Nat} (h : k < l.length) : (l.take (k + 1)).all sml = ((l.take k).all sml && sml (l[k]?.getD 0)) := by
  rw [take_snoc h, List.all_append]; simp
end Go.Cor
namespace Go.Proofs.Ytbfnaigefmdcdaa
open Go.RowKit Go.Cor Go.Free

set_option maxRecDepth 100000 in
set_option maxHeartbeats 4000000 in
theorem ZvarSmall_walk (W : World) (A : Option Addr) (n c : Nat) (xs : List Int) (h : Rd W .i64 A n c xs) (hi : In .i64 xs) :
    Calls Try.prog 3 #[.slice A n c] W fun e w' => e = .returned (.bool true) ∧ Below W.heap.size W w' := by
  by_cases hn : 1024 < n
  · clear h hi
    go_enter Try.func3, Try.ntmps3
    go_wp2
    go_ret
    exact ⟨rfl, Below.refl _ _⟩
  by_cases h0 : n = 0
  · subst h0
    clear h hi
    go_enter Try.func3, Try.ntmps3
    go_wp2
    go_ret
    exact ⟨rfl, Below.refl _ _⟩
  have hlen := h.len
  have hx : ∀ x ∈ xs, I64 x := fun x hx => hi x hx
  have hS := zvarS.c W A n c xs h hi (by omega)
  have hb : tak tkAll xs = true := by rw [tak_all, hlen]; exact decide_eq_true (by omega)
  rw [hb, if_pos rfl] at hS
  have hz := zform_len hx
  have hsm := zform_small hx
  rw [hlen] at hz hsm
  obtain ⟨s, hs⟩ : ∃ s, (zform xs).length = s := ⟨_, rfl⟩
  rw [hs] at hS hz hsm
  obtain ⟨hz1, hz2⟩ := hz
  have n0 : ((n : Int) == 0) = false := by simp [h0]
  have HS := Lib.hid hS
  have H := Lib.hid h
  have HLEN := Lib.hid hlen
  have HSM := Lib.hid hsm
  have HI := Lib.hid hi
  clear h hi hlen hx hS hb hsm hs
  go_enter Try.func3, Try.ntmps3
  go_wp2_with fail
  refine HS.out.mono ?_
  rintro e w1 ⟨rfl, hb1⟩
  have HB1 := Lib.hid hb1
  clear hb1
  go_wp2
  go_loop [4, 5, 17, 18, 19, 20, 21, 22, 23, 24, 25, 26, 27, 28, 29, 30, 31, 32, 33, 34, 35, 36, 37] (fun v4 v5 _ _ _ _ _ _ _ _ _ _ _ _ _ _ _ _ _ _ _ _ _ => ∃ i : Nat, v5 = .int .i64 i ∧ i ≤ n ∧ ∃ q, v4 = .bool q ∧ Hid (q = (xs.take i).all sml))
    (fun _ v5 _ _ _ _ _ _ _ _ _ _ _ _ _ _ _ _ _ _ _ _ _ => n - (intOf v5).toNat)
  case atStart => exact ⟨0, rfl, by omega, true, rfl, Lib.hid (by simp)⟩
  case round =>
    obtain ⟨i, rfl, hi, q, rfl, hq⟩ := hrel
    by_cases hlt : i < n
    · obtain ⟨b', o, rfl, hbl, hc⟩ := (H.out.below HB1.out).get (by omega)
      have hcell := hc i hlt
      rw [List.getD_eq_getElem?_getD] at hcell
      have hl := HLEN.out
      have e1 := all_snoc (l := xs) (k := i) (by omega)
      obtain ⟨x, hxe⟩ : ∃ x, xs[i]?.getD 0 = x := ⟨_, rfl⟩
      rw [hxe] at hcell e1
      rw [← hq.out] at e1
      have E1 := Lib.hid e1
      clear hc hl e1 hxe
      cases q with
      | false =>
        go_wp2
        go_round
        case rel => exact ⟨i + 1, by go_num, by omega, false, rfl, Lib.hid (by rw [E1.out]; rfl)⟩
        case measure => simp [intOf] <;> omega
      | true =>
        by_cases h1 : -64 ≤ x
        · by_cases h2 : x < 64
          · have hsx : Hid (sml x = true) := by unfold sml; simp [h1, h2]; exact trivial
            go_wp2
            go_round
            case rel => exact ⟨i + 1, by go_num, by omega, true, by simp, Lib.hid (by rw [E1.out]; exact hsx.out.symm)⟩
            case measure => simp [intOf] <;> omega
          · have hsx : Hid (sml x = false) := by unfold sml; simp [h1, h2]; exact trivial
            have h3 : decide (x < 64) = false := by simp [h2]
            go_wp2
            go_round
            case rel => exact ⟨i + 1, by go_num, by omega, false, by simp [h2], Lib.hid (by rw [E1.out]; exact hsx.out.symm)⟩
            case measure => simp [intOf] <;> omega
        · have hsx : Hid (sml x = false) := by unfold sml; simp [h1]; exact trivial
          have h3 : decide (-64 ≤ x) = false := by simp [h1]
          go_wp2
          go_round
          case rel => exact ⟨i + 1, by go_num, by omega, false, by simp [h1], Lib.hid (by rw [E1.out]; exact hsx.out.symm)⟩
          case measure => simp [intOf] <;> omega
    · obtain rfl : i = n := by omega
      have hq' := hq.out
      rw [List.take_of_length_le (by have := HLEN.out; omega)] at hq'
      have HW := Lib.hid (awake08 w1)
      cases q with
      | true =>
        obtain rfl : s = i := HSM.out.2 hq'.symm
        clear hq hq' HSM
        go_wp2_with fail
        refine HW.out.mono ?_
        rintro e w2 ⟨rfl, hb2⟩
        have HB2 := Lib.hid (HB1.out.trans (hb2.mono HB1.out.size))
        clear hb2
        go_wp2
        go_ret
        exact ⟨rfl, HB2.out⟩
      | false =>
        have hne : s ≠ i := fun e => by have := HSM.out.1 e; rw [this] at hq'; cases hq'
        have e1 : ((s : Int) == (i : Int)) = false := by simp; omega
        clear hq hq' HSM hne
        go_wp2_with fail
        refine HW.out.mono ?_
        rintro e w2 ⟨rfl, hb2⟩
        have HB2 := Lib.hid (HB1.out.trans (hb2.mono HB1.out.size))
        clear hb2
        go_wp2
        go_ret
        exact ⟨rfl, HB2.out⟩

namespace zvarSmall
open Go.ChangeShapes Go.WideShapes Go.ChangeAt Go.RowKit Go.Cor
set_option linter.unusedVariables false

set_option maxRecDepth 100000 in
theorem lifted (os : Os) (started : os.Started) (H : Type) (enc : TypeId × Value → H) :
    ReturnsInHanded {} Try.checked os 3 .any (Rows.zvarSmallSpec.pre6 enc Try.prog Try.f3 Rows.zvarSmallRow.domain false) (Rows.zvarSmallSpec.post enc Try.prog Try.f3 false true false false) := by
  refine returnsInHanded_of_change (C := Try.checked) (by kernel_rfl : ownKnob Try.prog.godebug = none) started (by kernel_rfl) Try.func3
    (ChangeSpec.witness6 (enc := enc) (C := Try.checked) false ⟨#[], #[.slice none 0 0], []⟩ 8 (by kernel_rfl) (by kernel_rfl) (by kernel_rfl) (by kernel_rfl)) ?_
  intro W base args ds gs before hval0 hW hcnd _
  have hval : ∀ (j : Nat) t v, Try.f3.params[j]? = some t → args[j]? = some v → Value.okWide Try.prog W .any base t v := hval0
  have hW' := hW
  obtain ⟨p, q, hA0, hV, rfl, hfz, hnd⟩ := hW
  have hA : DataW.TrodAll enc Try.prog W 0 (fun _ => true) true Try.f3.params.toList args.toList ds p := hA0
  rw [Try.params3] at hA hval
  obtain ⟨v0, vs0, d0, ds0, p0, q0, hargs, rfl, rfl, h0, r0⟩ := trodAll_cons hA
  obtain ⟨rfl, rfl, rfl⟩ := trodAll_nil r0
  obtain rfl : args = #[v0] := by cases args; simp_all
  obtain ⟨rfl, rfl⟩ := trodVars_none hV
  obtain ⟨a0, len0, cap0, rfl⟩ := okWide_slice Try.underlying22 (hval 0 22 v0 rfl rfl)
  have k0 := h0
  have lt0 : ∀ x ∈ p0, x.block < W.heap.size := by obtain ⟨m, hm⟩ := k0; exact DataW.trod_lt m _ _ _ hm
  obtain ⟨x0, g0, b0⟩ : ∃ xs, Rd W .i64 a0 len0 cap0 xs ∧ In .i64 xs := by
    obtain ⟨fuel, hf⟩ := h0
    rcases open_ints Try.underlying22 Try.underlying2 (by kernel_rfl) hf with ⟨hcs, _⟩ | ⟨x, l, c, zs, hcs, _, hl, hm, hz, _, hcell, hwz⟩
    · simp [Value.cells] at hcs
      obtain ⟨rfl, rfl, rfl⟩ := hcs
      exact ⟨[], Rd.nilv _ _, fun _ h => by cases h⟩
    · simp [Value.cells] at hcs
      obtain ⟨rfl, rfl, rfl⟩ := hcs
      exact Rd.of_row hl hm hz hcell hwz
  clear hA0 hval0
  refine (ZvarSmall_walk W a0 len0 cap0 x0 g0 b0).mono fun e W' ⟨he, bel⟩ => ?_
  subst he
  exact ⟨_, rfl, _, _, _, [], _, [], hW', trodAll_mk1 (shut_bool Try.underlying4 _), (trodAll_cons_mk (Below.trod (by kernel_rfl : laidOutB Try.prog = true) (by kernel_rfl) (of_decide_eq_true (by kernel_rfl)) k0 bel lt0) trodAll_mk0), rfl, bel.frame _, fun h => by cases h⟩

theorem proved : Rows.ZvarSmallSaid :=
  OpenClaim.holds_of_wide 3 Try.f3 rfl rfl rfl rfl rfl rfl rfl ⟨rfl, rfl, rfl, rfl, rfl⟩ rfl rfl rfl rfl rfl (by kernel_rfl) Try.func3 (by kernel_rfl)
    (of_decide_eq_true (by kernel_rfl)) (by unfold Func.isWrapper; first | (rw [if_pos (by decide +kernel)]; kernel_rfl) | (rw [if_neg (by decide +kernel)]; exact ⟨rfl, rfl⟩))
    (fun os started H enc _ => lifted os started H enc)
#print axioms proved
end zvarSmall
end Go.Proofs.Ytbfnaigefmdcdaa
