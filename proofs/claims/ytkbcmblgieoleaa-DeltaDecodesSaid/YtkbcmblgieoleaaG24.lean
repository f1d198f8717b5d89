/-
  Chapter 11: high and low parts; the exceptions are handed out.
  Chapter 11: the next short number; the high parts.
  Chapter 11: how long a form is; the width by which it is the shortest.
  Chapter 11: the best width, the offsets; Takes, Size.
-/
import Derived.Deep.CutBlock
import Derived.Test.YtkbcmblgieoleaaG10
import Derived.Test.YtkbcmblgieoleaaG11
import Derived.Test.YtkbcmblgieoleaaG13
import Derived.Test.YtkbcmblgieoleaaG14
import Derived.Test.YtkbcmblgieoleaaG18
import Derived.Test.YtkbcmblgieoleaaG19
import Derived.Test.YtkbcmblgieoleaaG20
import Derived.Test.YtkbcmblgieoleaaG22
import Derived.Test.YtkbcmblgieoleaaG23
namespace Go.Cor
open Go Go.RowKit
theorem exc_zero {k g : Nat} {us : List Int} {i : Nat} (hi : i < us.length) (h : fhi k (us[i]?.getD 0) = 0) : exc k g (us.drop i) = exc k (g + 1) (us.drop (i + 1)) := by
  rw [drop_cons_getD us 0 hi, exc, if_pos h]
theorem exc_more {k g : Nat} {us : List Int} {i : Nat} (hi : i < us.length) (h : fhi k (us[i]?.getD 0) ≠ 0) : exc k g (us.drop i) = (g, fhi k (us[i]?.getD 0)) :: exc k 0 (us.drop (i + 1)) := by
  rw [drop_cons_getD us 0 hi, exc, if_neg h]
def excE (x : Nat × Nat) : Array Value := #[.int .i64 x.1, .int .u64 x.2]
theorem low_eq (u k : Nat) : (u : Int) - (u : Int) / 2 ^ k * 2 ^ k = ((u % 2 ^ k : Nat) : Int) := by
  have h1 : (2 : Int) ^ k = ((2 ^ k : Nat) : Int) := by simp
  rw [h1]
  have := Nat.div_add_mod u (2 ^ k)
  rw [Nat.mul_comm] at this
  have h2 : (u : Int) / ((2 ^ k : Nat) : Int) = ((u / 2 ^ k : Nat) : Int) := by simp
  rw [h2, ← Int.natCast_mul]
  omega
theorem low_le (u k : Nat) : 0 ≤ (u : Int) / 2 ^ k * 2 ^ k ∧ (u : Int) / 2 ^ k * 2 ^ k ≤ u := by
  have h1 : (2 : Int) ^ k = ((2 ^ k : Nat) : Int) := by simp
  have h2 : (u : Int) / ((2 ^ k : Nat) : Int) = ((u / 2 ^ k : Nat) : Int) := by simp
  have := Nat.div_mul_le_self u (2 ^ k)
  rw [h1, h2, ← Int.natCast_mul]
  omega
end Go.Cor
namespace Go.Proofs.Ytkbcmblgieoleaa
open Go.RowKit Go.Cor Go.Free

theorem high_any (u k : Nat) (hk : k ≤ 64) (w : World) : Calls Try.prog 116 #[.int .u64 u, .int .i64 k] w fun e w' => e = .returned (.int .u64 ((u / 2 ^ k : Nat) : Int)) ∧ w = w' := by
  go_enter Try.func116, Try.ntmps116
  go_wp2
  go_ret
  exact ⟨ret_i (shr_nat u k), rfl⟩
theorem low_any (u k : Nat) (hk : k ≤ 64) (hu : (u : Int) ≤ 18446744073709551615) (w : World) : Calls Try.prog 74 #[.int .u64 u, .int .i64 k] w fun e w' => e = .returned (.int .u64 ((u % 2 ^ k : Nat) : Int)) ∧ w = w' := by
  go_enter Try.func74, Try.ntmps74
  have h1 := low_le u k
  have e1 : IntKind.u64.wrap ((u : Int) / 2 ^ k * 2 ^ k) = (u : Int) / 2 ^ k * 2 ^ k := wrapu64_in _ h1.1 (by omega)
  have e2 := low_eq u k
  have e3 : IntKind.u64.wrap ((u : Int) - (u : Int) / 2 ^ k * 2 ^ k) = (u : Int) % 2 ^ k := by rw [e2]; have := Nat.mod_le u (2 ^ k); rw [wrapu64_in _ (by omega) (by omega)]; simp
  clear e2
  go_wp2
  go_ret
  exact ⟨ret_i (by simp), rfl⟩

theorem exceptions_any (A : Option Addr) (n c : Nat) (k : Int) (w : World) :
    Calls Try.prog 73 #[.slice A n c, .int .i64 k] w fun e w' => e = .returned (.func (.func 115) #[] #[.pointer (some ⟨w.heap.size, 0, none⟩), .pointer (some ⟨w.heap.size + 1, 0, none⟩)]) ∧ (w.alloc (.cells #[.slice A n c] 51)).alloc (.cells #[.int .i64 k] 3) = w' := by
  go_enter Try.func73, Try.ntmps73
  go_wp2
  go_ret
  exact ⟨rfl, rfl⟩

set_option maxRecDepth 100000 in
set_option maxHeartbeats 8000000 in
theorem exc_iter (ba o c n k : Nat) (us : List Int) (b1 b2 : Nat) (w0 : World) (hrd : Rd w0 .u64 (some ⟨ba, o, none⟩) n c us) (hu : In .u64 us) (h1 : Box w0 b1 51 (.slice (some ⟨ba, o, none⟩) n c)) (h2 : Box w0 b2 3 (.int .i64 k)) (hn : n ≤ 1024) (hk : k ≤ 64) :
    Iter Try.prog 115 #[.pointer (some ⟨b1, 0, none⟩), .pointer (some ⟨b2, 0, none⟩)] excE (exc k 0 us) (fun j => j = b1 ∨ j = b2 ∨ j = ba) (fun _ => False) w0 := by
  intro l J W hW hWs hJ hY hJ0
  refine callsIn_wide.2 ?_
  have g1 : Box W b1 51 (.slice (some ⟨ba, o, none⟩) n c) := h1.keep hW (.inl rfl)
  have g2 : Box W b2 3 (.int .i64 k) := h2.keep hW (.inr (.inl rfl))
  have g3 : Rd W .u64 (some ⟨ba, o, none⟩) n c us := hrd.keep hWs fun j hj ⟨o', e⟩ => hW.block j hj (.inr (.inr (by injection e with e; injection e with e; exact e.symm)))
  have HY := Lib.hid hY
  have HJ := Lib.hid hJ
  have H := Lib.hid (And.intro g2 (And.intro g3 hJ0))
  have HU := Lib.hid hu
  have hc1 := cell_of_one g1
  clear hY hJ g1 g2 g3 hJ0 hrd h1 h2 hW hWs hu
  go_enter Try.func115, Try.ntmps115
  go_wp2
  go_loopg [4, 9] n (fun gg v4 v9 wr => ∃ (i g : Nat) (pre : List (Nat × Nat)), v9 = .int .i64 i ∧ i ≤ n ∧ gg = n - i ∧ v4 = .int .i64 g ∧ g ≤ i ∧ Hid (Box wr b2 3 (.int .i64 k) ∧ Rd wr .u64 (some ⟨ba, o, none⟩) n c us ∧ exc k 0 us = pre ++ exc k g (us.drop i) ∧ J pre wr))
  case atStart => exact ⟨0, 0, [], rfl, by omega, rfl, rfl, by omega, Lib.hid ⟨H.out.1, H.out.2.1, by simp, H.out.2.2⟩⟩
  case round =>
    obtain ⟨i, g, pre, rfl, hi, rfl, rfl, hg, hI⟩ := hrel
    obtain ⟨wo, rfl⟩ : ∃ wo, wo = wr := ⟨_, rfl⟩
    have hl := hI.out.2.1.len
    by_cases hlt : i < n
    · obtain ⟨b', o', e', hbl, hc⟩ := hI.out.2.1.get (by omega)
      obtain ⟨e1, e2⟩ := addr_inj e'
      subst e1 e2
      have hcell := hc i hlt
      rw [List.getD_eq_getElem?_getD] at hcell
      have hc2 := cell_of_one hI.out.1
      have hxu := HU.out (us[i]?.getD 0) (by rw [List.getElem?_eq_getElem (by omega)]; exact List.getElem_mem _)
      obtain ⟨x, hx⟩ := Int.eq_ofNat_of_zero_le hxu.1
      have hex := hI.out.2.2.1
      have hz := exc_zero (k := k) (g := g) (us := us) (i := i) (by omega)
      have hm := exc_more (k := k) (g := g) (us := us) (i := i) (by omega)
      have hfh : fhi k (us[i]?.getD 0) = x / 2 ^ k := by rw [hx]; rfl
      rw [hfh] at hz hm
      rw [hx] at hcell
      have HH := Lib.hid (fun w => high_any x k hk w)
      obtain ⟨h, hh⟩ : ∃ h, x / 2 ^ k = h := ⟨_, rfl⟩
      rw [hh] at hz hm HH
      have HE := Lib.hid (And.intro hex (And.intro hz hm))
      clear hc e' hxu hx hex hz hm hfh hh hl
      by_cases h0 : h = 0
      · subst h0
        go_wp2_with fail
        refine (HH.out _).mono ?_
        rintro e w1 ⟨rfl, rfl⟩
        go_wp2_with fail
        go_roundg (n - (i + 1))
        case measure => omega
        case rel => exact ⟨i + 1, g + 1, pre, by go_num, by omega, rfl, by go_num, by omega, Lib.hid ⟨hI.out.1, hI.out.2.1, by rw [HE.out.1]; first | rw [HE.out.2.1 rfl] | rw [HE.out.2.1 trivial], hI.out.2.2.2⟩⟩
      · have hne : ((h : Int) == 0) = false := by simp [h0]
        have hli := HE.out.1
        rw [HE.out.2.2 h0] at hli
        obtain ⟨fn, tmps, assign, body, hy, hR⟩ := HY.out pre (g, h) wo ⟨_, by rw [hli, List.append_assoc]; rfl⟩ hI.out.2.2.2
        have hy' : (Instr.yield l #[.int .i64 g, .int .u64 h]).run Try.prog wo = .ok (.round l fn tmps assign body) wo := hy
        have HLI := Lib.hid hli
        have HRR := Lib.hid hR
        clear hli hy hR
        go_wp2_with fail
        refine (HH.out _).mono ?_
        rintro e w1 ⟨rfl, rfl⟩
        go_upto_region 6 with fail
        refine (wpIn_wide (n := 0)).1 ?_
        gi_wp2_with (refine ⟨trivial, rfl, ?_⟩; gi_at_call 116; refine (callsIn_wide.2 (HH.out _)).mono ?_; rintro e w1 ⟨rfl, rfl⟩)
        refine ⟨rfl, HRR.out.mono ?_⟩
        rintro e W3 ⟨rfl, hJ3, hk3⟩
        have hb3 := hI.out.1.keep hk3 (.inr (.inl rfl))
        have hr3 : Rd W3 .u64 (some ⟨ba, o, none⟩) n c us := hI.out.2.1.keep hk3.size fun j hj ⟨o', e⟩ => hk3.block j hj (.inr (.inr (by injection e with e; injection e with e; exact e.symm)))
        have HB3 := Lib.hid hb3
        have HR3 := Lib.hid hr3
        have HJ3 := Lib.hid hJ3
        clear hb3 hr3 hJ3 hk3
        gi_wp2
        go_wp2_with fail
        go_roundg (n - (i + 1))
        case measure => omega
        case rel => exact ⟨i + 1, 0, pre ++ [(g, h)], by go_num, by omega, rfl, rfl, by omega, Lib.hid ⟨HB3.out, HR3.out, by rw [HLI.out]; simp, HJ3.out⟩⟩
    · obtain rfl : i = n := by omega
      have hli := hI.out.2.2.1
      rw [List.drop_of_length_le (by omega), exc, List.append_nil] at hli
      have HLI := Lib.hid hli
      clear hli
      go_wp2
      go_end0
      exact ⟨⟨_, rfl⟩, by rw [HLI.out]; exact hI.out.2.2.2⟩
end Go.Proofs.Ytkbcmblgieoleaa

namespace Go.Cor
open Go Go.RowKit
theorem vget_shape {b : List Int} (hb : By b) (h : (vget 0 b).2.2 = 0) : ∃ v m : Nat, vget 0 b = ((v : Int), (m : Int), 0) ∧ 1 ≤ m ∧ m ≤ b.length ∧ (v : Int) ≤ 18446744073709551615 := by
  have hg := zrun_get hb h
  obtain ⟨g, hge⟩ : ∃ g, vget 0 b = g := ⟨_, rfl⟩
  rw [hge] at hg h ⊢
  obtain ⟨v, m, e⟩ := g
  dsimp only at hg h
  obtain ⟨v, rfl⟩ := Int.eq_ofNat_of_zero_le hg.2.2.2.1
  obtain ⟨m, rfl⟩ := Int.eq_ofNat_of_zero_le (show 0 ≤ m by have := hg.2.2.1; omega)
  subst h
  exact ⟨v, m, rfl, by simpa using hg.1, by simpa using hg.2.1, hg.2.2.2.2⟩
theorem Mod.put {T : Nat → Prop} {w0 w : World} (h : Mod T w0 w) {a : Addr} (ha : w0.heap.size ≤ a.block) (u : Value) : Mod T w0 (w.setCell a u) :=
  ⟨h.os, h.tape, h.output, Nat.le_trans h.size (by simp [World.setCell]), fun k hk ht => (Below.heap_setCell _ _ _ _ (by omega)).trans (h.block k hk ht)⟩
theorem dlift_bad {l : List Int} {a : Nat} {e : Int} (h : e ≠ 0) : dlift l a ([], 0, e) = ([], 0, e) := by unfold dlift; rw [if_pos h]
end Go.Cor
namespace Go.Proofs.Ytkbcmblgieoleaa
open Go.RowKit Go.Cor Go.Free

/-- what a reading of numbers comes to: a fresh row of the call's own, the cursor behind it; or an error -/
def RawO (p : Nat) (A : Option Addr) (n c : Nat) (xs : List Int) (at_ : Nat) (w : World) (r : List Int × Nat × Int) (e : Ending) (w' : World) : Prop :=
  Mod (· = p) w w' ∧ ((r.2.2 = 0 ∧ (∃ A' m c', e = .returned (.slice A' m c') ∧ Owns w' w.heap.size 32 .u64 A' m c' r.1) ∧ Cur w' p A n c xs (at_ + r.2.1)) ∨ (r.2.2 ≠ 0 ∧ e = Thr r.2.2))
theorem pn_ok {w : World} {p : Nat} {A : Option Addr} {n c : Nat} {xs : List Int} {at_ v m : Nat} (h : Cur w p A n c xs at_) (hv : vget 0 (xs.drop at_) = ((v : Int), (m : Int), 0)) :
    Calls Try.prog 109 #[.pointer (some ⟨p, 0, none⟩)] w fun e w' => e = .returned (.int .u64 v) ∧ Cur w' p A n c xs (at_ + m) ∧ Mod (· = p) w w' := by
  refine (pnext_any h).mono ?_
  rintro e w' ⟨hm, ⟨h1, h2, h3⟩ | ⟨h1, h2⟩⟩
  · rw [hv] at h2 h3
    exact ⟨h2, by simpa using h3, hm⟩
  · rw [hv] at h1; exact absurd rfl h1
theorem pn_err {w : World} {p : Nat} {A : Option Addr} {n c : Nat} {xs : List Int} {at_ : Nat} (h : Cur w p A n c xs at_) (hv : (vget 0 (xs.drop at_)).2.2 ≠ 0) :
    Calls Try.prog 109 #[.pointer (some ⟨p, 0, none⟩)] w fun e w' => e = Thr (vget 0 (xs.drop at_)).2.2 ∧ Mod (· = p) w w' := by
  refine (pnext_any h).mono ?_
  rintro e w' ⟨hm, ⟨h1, h2, h3⟩ | ⟨h1, h2⟩⟩
  · exact absurd h1 hv
  · exact ⟨h2, hm⟩

set_option maxRecDepth 100000 in
set_option maxHeartbeats 8000000 in
theorem highs_any {w : World} {p : Nat} {A : Option Addr} {n c : Nat} {xs : List Int} {at_ : Nat} (h : Cur w p A n c xs at_) (N k : Nat) (hN : N ≤ 1024) (hN0 : 0 < N) (hk : k ≤ 64) :
    Calls Try.prog 66 #[.pointer (some ⟨p, 0, none⟩), .int .i64 N, .int .i64 k] w (RawO p A n c xs at_ w (fhighs N k (xs.drop at_))) := by
  have hmk := run_make_row' (P := Try.prog) 51 32 (.int .u64 0) 8 Try.underlying51 (by kernel_rfl) rfl .i64 .i64 N (by omega) (by omega)
  have hst : Owns (w.alloc (.cells (madeCells #[.int .u64 0] N) 32)) w.heap.size 32 .u64 (some ⟨w.heap.size, 0, none⟩) N N (List.replicate N 0) := owns_made (Nat.le_refl _) (by simp [maxLen]; omega)
  have hcu1 := h.below ((Below.refl _ _).alloc (Nat.le_refl _) (.cells (madeCells #[.int .u64 0] N) 32))
  obtain ⟨W1, hW1⟩ : ∃ W1, w.alloc (.cells (madeCells #[.int .u64 0] N) 32) = W1 := ⟨_, rfl⟩
  have hb1 : Below w.heap.size w W1 := by rw [← hW1]; exact (Below.refl _ _).alloc (Nat.le_refl _) _
  have hm1 : Mod (· = p) w W1 := .of_below hb1
  rw [hW1] at hst hcu1
  have hby := h.bytes.drop at_
  have hpw := h.lt
  obtain ⟨X, hX⟩ : ∃ X, xs.drop at_ = X := ⟨_, rfl⟩
  have eN : IntKind.u64.wrap (N : Int) = (N : Int) := wrapu64_in _ (by omega) (by omega)
  obtain ⟨R, hR⟩ : ∃ R, fhighs N k X = R := ⟨_, rfl⟩
  have H := Lib.hid h
  by_cases he : (vget 0 X).2.2 = 0
  · obtain ⟨v, m, hv, hm1', hm2, hv64⟩ := vget_shape (by rw [← hX]; exact hby) he
    have hnx := pn_ok hcu1 (v := v) (m := m) (by rw [hX]; exact hv)
    have hrg := fhighs_get N k hv
    rw [hR] at hrg
    rw [hX] at hby ⊢
    rw [hR]
    have HNX := Lib.hid hnx
    have HST := Lib.hid hst
    have HM1 := Lib.hid hm1
    have HX := Lib.hid (And.intro hX hby)
    have HRG := Lib.hid hrg
    have HW := Lib.hid hW1
    have HB1 := Lib.hid hb1
    clear h hst hcu1 hb1 hm1 hby hX hR he hv hnx hrg hW1
    go_enter Try.func66, Try.ntmps66
    go_wp2_with fail
    rw [HW.out]
    refine HNX.out.mono ?_
    rintro e w2 ⟨rfl, hcu2, hm2'⟩
    have HC2 := Lib.hid hcu2
    have HM2 := Lib.hid (Mod.trans HM1.out hm2')
    have HO2 := Lib.hid (owns_keep HST.out hm2' fun g hg _ => by have h1 := (HST.out.lt g hg).1; show ¬ g = p; omega)
    clear hcu2 hm2'
    by_cases hvn : N < v
    · have hd : decide (v ≤ N) = false := by simp; omega
      go_wp2_with fail
      refine (check_false 7 _ (by decide)).mono ?_
      rintro e w3 ⟨rfl, rfl⟩
      exact ⟨rfl, HM2.out, .inr (by rw [HRG.out, if_pos hvn]; exact ⟨by decide, rfl⟩)⟩
    · have hd : decide (v ≤ N) = true := by simp; omega
      have hrg := HRG.out
      rw [if_neg hvn] at hrg
      have HRG2 := Lib.hid hrg
      clear hrg
      go_wp2_with fail
      refine (check_true 7 _).mono ?_
      rintro e w3 ⟨rfl, rfl⟩
      go_wp2_with fail
      go_loopg [9, 22] v (fun gg v9 v22 wr => ∃ (i a cc : Nat) (Hl : List Int), v22 = .int .u64 i ∧ i ≤ v ∧ gg = v - i ∧ v9 = .int .i64 a ∧ a ≤ N ∧ Hid (Owns wr w.heap.size 32 .u64 (some ⟨w.heap.size, 0, none⟩) N N Hl ∧ Cur wr p A n c xs (at_ + cc) ∧ Mod (· = p) w wr ∧ R = dlift [] cc (fexc N k (v - i) a Hl (X.drop cc))))
      case atStart => exact ⟨0, 0, m, _, rfl, by omega, by omega, rfl, by omega, Lib.hid ⟨HO2.out, HC2.out, HM2.out, HRG2.out⟩⟩
      case round =>
        obtain ⟨i, a, cc, Hl, rfl, hi, rfl, rfl, ha, hI⟩ := hrel
        obtain ⟨wo, rfl⟩ : ∃ wo, wo = wr := ⟨_, rfl⟩
        by_cases hlt : i < v
        · have hdi : decide (i < v) = true := by simp; omega
          have hR0 := hI.out.2.2.2
          rw [show v - i = (v - (i + 1)) + 1 by omega] at hR0
          have hbX := HX.out.2.drop cc
          have hxd : xs.drop (at_ + cc) = X.drop cc := by rw [← HX.out.1, List.drop_drop]
          by_cases he1 : (vget 0 (X.drop cc)).2.2 = 0
          · obtain ⟨g, m1, hg1, _, hg3, hg64⟩ := vget_shape hbX he1
            have hn1 := pn_ok hI.out.2.1 (v := g) (m := m1) (by rw [hxd]; exact hg1)
            have HN1 := Lib.hid hn1
            have HR0 := Lib.hid (And.intro hR0 (And.intro hg1 (And.intro hbX hxd)))
            clear hn1 hR0 hbX hxd he1 hg1
            go_wp2_with fail
            refine HN1.out.mono ?_
            rintro e w4 ⟨rfl, hcu4, hm4⟩
            have HC4 := Lib.hid hcu4
            have HM4 := Lib.hid (Mod.trans hI.out.2.2.1 hm4)
            have HO4 := Lib.hid (owns_keep hI.out.1 hm4 fun g hg _ => by have h1 := (hI.out.1.lt g hg).1; show ¬ g = p; omega)
            clear hcu4 hm4
            by_cases hga : N - a ≤ g
            · have hdg : decide ((g : Int) < (N : Int) - (a : Int)) = false := by simp; omega
              go_wp2_with fail
              refine (check_false 4 _ (by decide)).mono ?_
              rintro e w5 ⟨rfl, rfl⟩
              have hR := HR0.out.1
              rw [fexc_bad2 HR0.out.2.1 hga, dlift_bad (by decide)] at hR
              exact ⟨rfl, HM4.out, .inr (by rw [hR]; exact ⟨by decide, rfl⟩)⟩
            · have hdg : decide ((g : Int) < (N : Int) - (a : Int)) = true := by simp; omega
              have hxd2 : xs.drop (at_ + cc + m1) = (X.drop cc).drop m1 := by rw [← HX.out.1, List.drop_drop, List.drop_drop, Nat.add_assoc]
              by_cases he2 : (vget 0 ((X.drop cc).drop m1)).2.2 = 0
              · obtain ⟨x, m2, hx1, _, hx3, hx64⟩ := vget_shape (HR0.out.2.2.1.drop m1) he2
                have HN2 := Lib.hid (pn_ok HC4.out (v := x) (m := m2) (by rw [hxd2]; exact hx1))
                have HX1 := Lib.hid hx1
                clear hx1 he2 hxd2
                go_wp2_with fail
                refine (check_true 4 _).mono ?_
                rintro e w5 ⟨rfl, rfl⟩
                go_wp2_with fail
                refine HN2.out.mono ?_
                rintro e w5 ⟨rfl, hcu5, hm5⟩
                have HC5 := Lib.hid hcu5
                have HM5 := Lib.hid (Mod.trans HM4.out hm5)
                have ho5 := owns_keep HO4.out hm5 fun g hg _ => by have h1 := (HO4.out.lt g hg).1; show ¬ g = p; omega
                clear hcu5 hm5
                by_cases hx0 : x = 0
                · subst hx0
                  go_wp2_with fail
                  refine (check_false 4 _ (by decide)).mono ?_
                  rintro e w6 ⟨rfl, rfl⟩
                  have hR := HR0.out.1
                  rw [fexc_bad4 HR0.out.2.1 (by omega) HX1.out (.inl rfl), dlift_bad (by decide)] at hR
                  exact ⟨rfl, HM5.out, .inr (by rw [hR]; exact ⟨by decide, rfl⟩)⟩
                · have hd0 : decide (0 < x) = true := by simp; omega
                  have hof := fun w => of_any (x : Int) w (by omega) hx64
                  have hbd := bw_bound (x : Int) hx64
                  rw [show bw (x : Int) = (nbits x : Int) by simp [bw]] at hof hbd
                  obtain ⟨nb, hnb⟩ : ∃ nb, nbits x = nb := ⟨_, rfl⟩
                  rw [hnb] at hof hbd
                  have HOF := Lib.hid (And.intro hof hnb)
                  have HO5 := Lib.hid ho5
                  have hnb64 : nb ≤ 64 := by omega
                  clear hof hnb hbd ho5
                  by_cases hnk : 64 < nb + k
                  · have hd1 : decide ((nb : Int) ≤ 64 - (k : Int)) = false := by simp; omega
                    go_wp2_with fail
                    refine (HOF.out.1 _).mono ?_
                    rintro e w6 ⟨rfl, rfl⟩
                    go_wp2_with fail
                    refine (check_false 4 _ (by decide)).mono ?_
                    rintro e w6 ⟨rfl, rfl⟩
                    have hR := HR0.out.1
                    rw [fexc_bad4 HR0.out.2.1 (by omega) HX1.out (.inr (by rw [HOF.out.2]; exact hnk)), dlift_bad (by decide)] at hR
                    exact ⟨rfl, HM5.out, .inr (by rw [hR]; exact ⟨by decide, rfl⟩)⟩
                  · have hd1 : decide ((nb : Int) ≤ 64 - (k : Int)) = true := by simp; omega
                    obtain ⟨g', c', hv4, hBg, hgl, hcell, hfr, hset⟩ := owns_put (i := a + g) (y := (x : Int)) HO5.out (by omega)
                    injection hv4 with hA hk4 hc4
                    injection hA with hA
                    injection hA with hA
                    subst hA hc4
                    have hHl := row_len HO5.out
                    obtain ⟨y, hy⟩ : ∃ y, Hl[a + g]? = some y := ⟨_, List.getElem?_eq_getElem (by omega)⟩
                    rw [hy, Option.map_some] at hcell
                    clear hy
                    have HSET := Lib.hid hset
                    have HHL := Lib.hid hHl
                    clear hset hHl hk4
                    go_wp2_with fail
                    refine (HOF.out.1 _).mono ?_
                    rintro e w6 ⟨rfl, rfl⟩
                    go_wp2_with fail
                    refine (check_true 4 _).mono ?_
                    rintro e w6 ⟨rfl, rfl⟩
                    go_wp2_with fail
                    go_roundg (v - (i + 1))
                    case measure => omega
                    case rel =>
                      have hR := HR0.out.1
                      rw [fexc_step HR0.out.2.1 (by omega) HX1.out (by omega) (by rw [HOF.out.2]; omega), dlift_dlift, List.drop_drop] at hR
                      have hmp := Mod.put HM5.out (a := ⟨w.heap.size, a + g, none⟩) (Nat.le_refl _) (.int .u64 (x : Int))
                      refine ⟨i + 1, a + g + 1, cc + (m1 + m2), Hl.set (a + g) (x : Int), by go_num, by omega, rfl, by go_num, by omega, Lib.hid ⟨?_, ?_, ?_, by simpa using hR⟩⟩
                      · exact HSET.out
                      · have := H.out.of_mod hmp ((Below.heap_setCell _ _ _ _ (by show p ≠ w.heap.size; omega)).trans HC5.out.blk) HC5.out.le
                        rw [show at_ + (cc + (m1 + m2)) = at_ + cc + m1 + m2 by omega]; exact this
                      · exact hmp
              · have HN2 := Lib.hid (pn_err HC4.out (by rw [hxd2]; exact he2))
                have HE2 := Lib.hid (And.intro he2 hxd2)
                clear he2 hxd2
                go_wp2_with fail
                refine (check_true 4 _).mono ?_
                rintro e w5 ⟨rfl, rfl⟩
                go_wp2_with fail
                refine HN2.out.mono ?_
                rintro e w5 ⟨rfl, hm5⟩
                have hR := HR0.out.1
                rw [fexc_bad3 HR0.out.2.1 (by omega) HE2.out.1, dlift_bad HE2.out.1] at hR
                exact ⟨rfl, Mod.trans HM4.out hm5, .inr (by rw [hR, HE2.out.2]; exact ⟨HE2.out.1, rfl⟩)⟩
          · have hn1 := pn_err hI.out.2.1 (by rw [hxd]; exact he1)
            rw [fexc_bad1 he1, dlift_bad he1] at hR0
            rw [hxd] at hn1
            have HN1 := Lib.hid hn1
            have HR0 := Lib.hid (And.intro hR0 he1)
            clear hn1 hR0 hbX hxd he1
            go_wp2_with fail
            refine HN1.out.mono ?_
            rintro e w4 ⟨rfl, hm4⟩
            exact ⟨rfl, Mod.trans hI.out.2.2.1 hm4, .inr (by rw [HR0.out.1]; exact ⟨HR0.out.2, rfl⟩)⟩
        · obtain rfl : i = v := by omega
          have hdi : decide (i < i) = false := by simp
          have hR := hI.out.2.2.2
          rw [Nat.sub_self, fexc] at hR
          have HR := Lib.hid (show R = (Hl, cc, 0) by rw [hR]; simp [dlift])
          clear hR
          go_wp2
          go_ret
          exact ⟨hI.out.2.2.1, .inl (by rw [HR.out]; exact ⟨rfl, ⟨_, N, N, rfl, hI.out.1⟩, hI.out.2.1⟩)⟩
  · have hnx := pn_err hcu1 (by rw [hX]; exact he)
    rw [hX] at hnx ⊢
    have HNX := Lib.hid hnx
    have HM1 := Lib.hid hm1
    have HR := Lib.hid (show fhighs N k X = ([], 0, (vget 0 X).2.2) by unfold fhighs; rw [if_pos he])
    have HE := Lib.hid he
    have HW := Lib.hid hW1
    clear h hst hcu1 hb1 hm1 hby hX hR he hnx hW1
    go_enter Try.func66, Try.ntmps66
    go_wp2_with fail
    rw [HW.out]
    refine HNX.out.mono ?_
    rintro e w2 ⟨rfl, hm2⟩
    exact ⟨rfl, Mod.trans HM1.out hm2, .inr (by rw [HR.out]; exact ⟨HE.out, rfl⟩)⟩
end Go.Proofs.Ytkbcmblgieoleaa

namespace Go.Cor
open Go Go.RowKit
def U64x (e : List (Nat × Nat)) : Prop := ∀ x ∈ e, x.1 < 18446744073709551616 ∧ x.2 < 18446744073709551616
theorem exc_u64 {k : Nat} {us : List Int} (hu : In .u64 us) : ∀ g, g + us.length < 18446744073709551616 → U64x (exc k g us) := by
  induction us with
  | nil => intro g _ x hx; simp [exc] at hx
  | cons u r ih =>
    intro g hg x hx
    have hur := ih fun y hy => hu y (by simp [hy])
    simp only [List.length_cons] at hg
    rw [exc] at hx
    split at hx
    · exact hur _ (by omega) x hx
    · rcases List.mem_cons.1 hx with rfl | hx
      · have h1 := hu u (by simp)
        have h2 : fhi k u ≤ u.toNat := Nat.div_le_self _ _
        have h3 := h1.2
        exact ⟨by show g < _; omega, by show fhi k u < _; omega⟩
      · exact hur _ (by omega) x hx
theorem marks_len {e : List (Nat × Nat)} (h : U64x e) : (marks e).length ≤ 20 * e.length := by
  induction e with
  | nil => simp [marks]
  | cons x r ih =>
    obtain ⟨g, v⟩ := x
    have h1 := h (g, v) (by simp)
    have h2 := vput_len_u64 g h1.1
    have h3 := vput_len_u64 v h1.2
    have := ih fun y hy => h y (by simp [hy])
    rw [marks_cons, List.length_append, List.length_append, List.length_cons]; omega
theorem marks_mono {a b : List (Nat × Nat)} (h : a <+: b) : (marks a).length ≤ (marks b).length := by
  obtain ⟨r, rfl⟩ := h
  unfold marks; rw [List.map_append, List.flatten_append, List.length_append]; omega
theorem flen_le {us : List Int} (hu : In .u64 us) (hn : us.length ≤ 1024) {k : Nat} (hk : k ≤ 64) : flen us k ≤ 30000 := by
  have h1 := marks_len (exc_u64 (k := k) hu 0 (by omega))
  have h2 := exc_len_le k us 0
  have h3 := vput_len_u64 (exc k 0 us).length (by omega)
  have h4 : us.length * k ≤ us.length * 64 := Nat.mul_le_mul_left _ hk
  unfold flen octets; omega
theorem exc_in {k : Nat} {us : List Int} (hu : In .u64 us) (hn : us.length ≤ 1024) {pre : List (Nat × Nat)} {x : Nat × Nat} (h : (pre ++ [x]) <+: exc k 0 us) :
    (x.1 : Int) ≤ 18446744073709551615 ∧ (x.2 : Int) ≤ 18446744073709551615 ∧ pre.length < 1024 ∧ (marks pre).length ≤ 20480 ∧ x.1 ≤ 9223372036854775807 := by
  have h1 := exc_u64 (k := k) hu 0 (by omega) x (h.subset (by simp))
  have h2 := h.length_le
  have h3 := exc_len_le k us 0
  have h4 := marks_len (e := pre) (fun y hy => exc_u64 (k := k) hu 0 (by omega) y (h.subset (by simp [hy])))
  have h5 : ∀ (us : List Int) g, g + us.length ≤ 1024 → ∀ x ∈ exc k g us, x.1 ≤ 1024 := by
    intro us
    induction us with
    | nil => intro g _ x hx; simp [exc] at hx
    | cons u r ih =>
      intro g hg x hx
      simp only [List.length_cons] at hg
      rw [exc] at hx
      split at hx
      · exact ih _ (by omega) x hx
      · rcases List.mem_cons.1 hx with rfl | hx
        · show g ≤ _; omega
        · exact ih _ (by omega) x hx
  have h6 := h5 us 0 (by omega) x (h.subset (by simp))
  rw [List.length_append, List.length_singleton] at h2
  exact ⟨by omega, by omega, by omega, by omega, by omega⟩
end Go.Cor
namespace Go.Proofs.Ytkbcmblgieoleaa
open Go.RowKit Go.Cor Go.Free
attribute [local go_sem] Oper.semAt_some

set_option maxRecDepth 100000 in
set_option maxHeartbeats 2000000 in
theorem fsz_any (A : Option Addr) (n c : Nat) (us : List Int) (k : Nat) (w : World) (h : Rd w .u64 A n c us) (hu : In .u64 us) (hn : n ≤ 1024) (hn0 : 0 < n) (hk : k ≤ 64) :
    Calls Try.prog 84 #[.slice A n c, .int .i64 k] w fun e w' => e = .returned (.int .i64 (flen us k : Nat)) ∧ Below w.heap.size w w' := by
  have hl := h.len
  obtain ⟨ba, o, rfl, hba, _⟩ := h.get hn0
  have HN := Lib.hid (fun w => need_any n k hn hk w)
  have hfl := flen_le hu (by omega) hk
  have hfe : (flen us k : Int) = 9 + (octets (n * k) : Nat) + (marks (exc k 0 us)).length + (vput (exc k 0 us).length).length := by unfold flen; rw [hl]; omega
  have hex := fun pre x => exc_in (k := k) (pre := pre) (x := x) hu (by omega)
  have hml := marks_len (exc_u64 (k := k) hu 0 (by omega))
  have hel := exc_len_le k us 0
  have HEX := Lib.hid hex
  have hoc : octets (n * k) ≤ 8192 := by
    have : n * k ≤ n * 64 := Nat.mul_le_mul_left _ hk
    unfold octets; omega
  obtain ⟨oc, hoce⟩ : ∃ oc, octets (n * k) = oc := ⟨_, rfl⟩
  rw [hoce] at HN hoc hfe
  have HFE := Lib.hid hfe
  have H := Lib.hid h
  have HU := Lib.hid hu
  have HEL := Lib.hid (And.intro hel (And.intro hml hl))
  clear h hu hl hfl hfe hex hml hel hoce
  refine (callsIn_wide (n := 0)).1 (callsIn_of_wp_marks (F := Fence.wide) Try.func84 rfl trivial ?_ rfl)
  simp only [Try.ntmps84, List.size_toArray, List.length_cons, List.length_nil, Nat.reduceAdd, Nat.reduceSub, Array.replicate_succ, Array.replicate_zero, List.push_toArray, List.append_toArray, List.nil_append, List.cons_append]
  gi_wp2_with (first
    | (refine ⟨trivial, rfl, ?_⟩; gi_at_call 43; refine (callsIn_wide.2 (HN.out _)).mono ?_; rintro e w1 ⟨rfl, rfl⟩)
    | (refine ⟨trivial, rfl, ?_⟩; gi_at_call 73; refine (callsIn_wide.2 (exceptions_any _ _ _ _ _)).mono ?_; rintro e w3 ⟨rfl, rfl⟩))
  obtain ⟨p, hp⟩ : ∃ p, w.heap.size = p := ⟨_, rfl⟩
  obtain ⟨W0, hW0⟩ : ∃ W0, (((w.alloc (.cells #[.int .i64 (9 + (oc : Int))] 3)).alloc (.cells #[.int .i64 0] 3)).alloc (.cells #[.slice (some ⟨ba, o, none⟩) n c] 51)).alloc (.cells #[.int .i64 k] 3) = W0 := ⟨_, rfl⟩
  have hs0 : W0.heap.size = p + 4 := by rw [← hW0, ← hp]; simp
  have hb0 : Box W0 p 3 (.int .i64 (9 + (oc : Int))) := by rw [← hW0, ← hp]; exact (((Box.new _ _ _).alloc _).alloc _).alloc _
  have hb1 : Box W0 (p + 1) 3 (.int .i64 0) := by
    rw [← hW0, ← hp]; have h1 := ((Box.new (w.alloc (.cells #[.int .i64 (9 + (oc : Int))] 3)) 3 (.int .i64 0)).alloc (.cells #[.slice (some ⟨ba, o, none⟩) n c] 51)).alloc (.cells #[.int .i64 k] 3); rwa [World.size_alloc] at h1
  have hb2 : Box W0 (p + 2) 51 (.slice (some ⟨ba, o, none⟩) n c) := by
    rw [← hW0, ← hp]; have h1 := (Box.new ((w.alloc (.cells #[.int .i64 (9 + (oc : Int))] 3)).alloc (.cells #[.int .i64 0] 3)) 51 (.slice (some ⟨ba, o, none⟩) n c)).alloc (.cells #[.int .i64 k] 3); rwa [World.size_alloc, World.size_alloc] at h1
  have hb3 : Box W0 (p + 3) 3 (.int .i64 k) := by
    rw [← hW0, ← hp]; have h1 := Box.new (((w.alloc (.cells #[.int .i64 (9 + (oc : Int))] 3)).alloc (.cells #[.int .i64 0] 3)).alloc (.cells #[.slice (some ⟨ba, o, none⟩) n c] 51)) 3 (.int .i64 k); rwa [World.size_alloc, World.size_alloc, World.size_alloc] at h1
  have hbl : Below w.heap.size w W0 := by
    rw [← hW0]; exact ((((Below.refl _ _).alloc (Nat.le_refl _) _).alloc (by simp) _).alloc (by simp; omega) _).alloc (by simp; omega) _
  have hrd : Rd W0 .u64 (some ⟨ba, o, none⟩) n c us := H.out.below hbl
  rw [hp] at hba ⊢
  rw [show p + 1 + 1 = p + 2 from rfl, show p + 2 + 1 = p + 3 from rfl, hW0]
  have hit := exc_iter ba o c n k us (p + 2) (p + 3) W0 hrd HU.out hb2 hb3 hn hk
  clear hW0
  refine wpIn_range (w0 := W0) (encs := excE) rfl (enters_f Try.func115 (by kernel_rfl) rfl) hit (Keep.refl _ _) (fun k hk => by omega) (fun k hk => hk.elim) (fun _ => rfl)
    (fun pre W => Box W p 3 (.int .i64 (9 + (oc : Int) + (marks pre).length)) ∧ Box W (p + 1) 3 (.int .i64 (pre.length : Nat)) ∧ Below w.heap.size w W) ?stab ?start ?round ?done
  case stab =>
    rintro pre W W' ⟨h1, h2, h4⟩ hk
    exact ⟨h1.keep hk ⟨fun h => h, fun h => h1.cells h.2⟩, h2.keep hk ⟨fun h => h, fun h => h2.cells h.2⟩, h4.trans (below_keep hk (by have := h4.size; omega) (fun k hk => ⟨fun h => h, fun h => by omega⟩))⟩
  case start => exact ⟨by simpa [marks] using hb0, hb1, hbl⟩
  case round =>
    intro l pre x W hpre hI hsz
    obtain ⟨h1, h2, h3, h4, h5⟩ := HEX.out pre x hpre
    have hms := congrArg List.length (marks_snoc pre x)
    obtain ⟨g, v⟩ := x
    simp only at h1 h2 h5
    rw [List.length_append, List.length_append] at hms
    simp only at hms
    have HS1 := Lib.hid (fun w => size_any g w h1)
    have HS2 := Lib.hid (fun w => size_any v w h2)
    have hv1 := vput_len_u64 g (by omega)
    have hv2 := vput_len_u64 v (by omega)
    obtain ⟨q1, hq1⟩ : ∃ q, (vput g).length = q := ⟨_, rfl⟩
    obtain ⟨q2, hq2⟩ : ∃ q, (vput v).length = q := ⟨_, rfl⟩
    obtain ⟨m, hm⟩ : ∃ m, (marks pre).length = m := ⟨_, rfl⟩
    rw [hq1] at HS1 hv1 hms
    rw [hq2] at HS2 hv2 hms
    rw [hm] at hms h4
    have HMS := Lib.hid (And.intro hms hm)
    have HI := Lib.hid hI
    have HWs := Lib.hid (show p + 4 ≤ W.heap.size by omega)
    clear hpre hms hq1 hq2 hm hI hsz hit hrd hb3 hb2 hb1 hb0 hbl hs0
    unfold excE
    gi_wp2
    refine ⟨Keep.refl _ _, HI.out, ?_⟩
    rintro W2 ⟨b5, b6, bl⟩ hst
    rw [HMS.out.2] at b5
    have hsz2 : p + 4 ≤ W2.heap.size := by have := HWs.out; have := hst.size; omega
    have c5 := cell_of_one b5
    have c6 := cell_of_one b6
    have B5 := Lib.hid b5
    have B6 := Lib.hid b6
    have BL := Lib.hid bl
    clear b5 b6 bl hst HWs
    obtain ⟨S, hS⟩ : ∃ S : Int, 9 + (oc : Int) + (m : Int) = S := ⟨_, rfl⟩
    have hS0 : 0 ≤ S ∧ S ≤ 30000 := by omega
    obtain ⟨hS0, hS1⟩ := hS0
    rw [hS] at c5 B5
    have HSE := Lib.hid hS
    clear hS
    gi_wp2
    refine wpIn_region_free 8 (by kernel_rfl) (by kernel_rfl) (by kernel_rfl) ?_
    refine chain_val (.int .i64 S) (S := [5]) rfl ?_ ?_
    · intro ρ w' hE hB hs
      have h5 : ρ (.tmp 5) = .pointer (some ⟨p, 0, none⟩) := hs 5 (by decide)
      clear hs
      refine if_t (by rfl) ?_
      have hcl := (hB.cell (p := ⟨p, 0, none⟩) (show p < W2.heap.size by omega)).trans c5
      go_simp
    refine chain_val (.int .i64 g) (S := [7]) rfl ?_ ?_
    · intro ρ w' hE hB hs
      have h7 : ρ (.tmp 7) = .int .i64 g := hs 7 (by decide)
      clear hs
      refine if_t (by rfl) ?_
      (go_simp <;> exact wrapi64_in _ (by omega) (by omega))
    refine chain_val (.int .u64 (g : Int)) (S := [20]) rfl ?_ ?_
    · intro ρ w' hE hB hs
      have h20 : ρ (.tmp 20) = .int .i64 g := hs 20 (by decide)
      clear hs
      refine if_t (by rfl) ?_
      (go_simp <;> exact wrapu64_in _ (by omega) (by omega))
    refine chain_static (fun v__ _ => v__ = .int .i64 (q1 : Int)) (stable_eq _) (S := [21]) rfl (Go.Cor.enters_f Try.func37 (by kernel_rfl) rfl) rfl ?_ ?_
    · intro ρ w' hE hB hs
      have h21 : ρ (.tmp 21) = .int .u64 (g : Int) := hs 21 (by decide)
      clear hs
      refine ⟨(by rfl), ?_⟩
      simp only [List.map_toArray, List.map_cons, List.map_nil, h21]
      refine (HS1.out _).mono ?_
      rintro e w3 ⟨rfl, hb⟩
      exact ⟨_, rfl, hb, rfl⟩
    refine chain_val (.int .u64 v) (S := [8]) rfl ?_ ?_
    · intro ρ w' hE hB hs
      have h8 : ρ (.tmp 8) = .int .u64 v := hs 8 (by decide)
      clear hs
      refine if_t (by rfl) ?_
      (go_simp <;> exact wrapi64_in _ (by omega) (by omega))
    refine chain_static (fun v__ _ => v__ = .int .i64 (q2 : Int)) (stable_eq _) (S := [23]) rfl (Go.Cor.enters_f Try.func37 (by kernel_rfl) rfl) rfl ?_ ?_
    · intro ρ w' hE hB hs
      have h23 : ρ (.tmp 23) = .int .u64 v := hs 23 (by decide)
      clear hs
      refine ⟨(by rfl), ?_⟩
      simp only [List.map_toArray, List.map_cons, List.map_nil, h23]
      refine (HS2.out _).mono ?_
      rintro e w3 ⟨rfl, hb⟩
      exact ⟨_, rfl, hb, rfl⟩
    refine chain_val (.int .i64 ((q1 : Int) + (q2 : Int))) (S := [22, 24]) rfl ?_ ?_
    · intro ρ w' hE hB hs
      have h22 : ρ (.tmp 22) = .int .i64 (q1 : Int) := hs 22 (by decide)
      have h24 : ρ (.tmp 24) = .int .i64 (q2 : Int) := hs 24 (by decide)
      clear hs
      refine if_t (by rfl) ?_
      (go_simp <;> exact wrapi64_in _ (by omega) (by omega))
    refine chain_val (.int .i64 (S + ((q1 : Int) + (q2 : Int)))) (S := [19, 25]) rfl ?_ ?_
    · intro ρ w' hE hB hs
      have h19 : ρ (.tmp 19) = .int .i64 S := hs 19 (by decide)
      have h25 : ρ (.tmp 25) = .int .i64 ((q1 : Int) + (q2 : Int)) := hs 25 (by decide)
      clear hs
      refine if_t (by rfl) ?_
      (go_simp <;> exact wrapi64_in _ (by omega) (by omega))
    intro w1 hB1
    simp only [List.reverse_cons, List.reverse_nil, List.nil_append, List.cons_append, Go.Free.Ends, forall_eq, Act.put, List.setIfInBounds_toArray, List.set_cons_zero, List.set_cons_succ]
    have b5 := B5.out.below hB1 (show p < W2.heap.size by omega)
    have b6 := B6.out.below hB1 (show p + 1 < W2.heap.size by omega)
    have c5' := cell_of_one b5
    have f5' := free_of_one b5
    have c6' := cell_of_one b6
    have f6' := free_of_one b6
    have B5' := Lib.hid b5
    have B6' := Lib.hid b6
    have BL' := Lib.hid (BL.out.trans (hB1.mono BL.out.size))
    have HB1 := Lib.hid hB1
    have hn3' := h3
    clear b5 b6 hB1 c5 c6
    gi_wp2
    refine ⟨?_, ?_, ?_, ?_⟩
    · refine RoundKeep.trans (.of_below HB1.out) (RoundKeep.trans (.setCell _ ?_ _) (.setCell _ ?_ _))
      · rintro (h | h)
        · simp only at h; omega
        · exact B5'.out.cells h
      · rintro (h | h)
        · simp only at h; omega
        · exact (B6'.out.far (p := ⟨p, 0, none⟩) (by simp) _).cells h
    · have e1 := HMS.out.1
      have e2 := HSE.out
      have h1 := Box.far (one_setCell (u := .int .i64 (S + ((q1 : Int) + (q2 : Int)))) B5'.out) (p := ⟨p + 1, 0, none⟩) (by simp) (.int .i64 ((pre.length : Int) + 1))
      rw [show (9 : Int) + (oc : Int) + ((marks (pre ++ [(g, v)])).length : Int) = S + ((q1 : Int) + (q2 : Int)) by omega]
      exact h1
    · have h1 := one_setCell (u := .int .i64 ((pre.length : Int) + 1)) (B6'.out.far (p := ⟨p, 0, none⟩) (by simp) (.int .i64 (S + ((q1 : Int) + (q2 : Int)))))
      rw [List.length_append, List.length_singleton, show ((pre.length + 1 : Nat) : Int) = (pre.length : Int) + 1 by omega]
      exact h1
    · exact (BL'.out.setCell (p := ⟨p, 0, none⟩) (by simp only; omega) _).setCell (p := ⟨p + 1, 0, none⟩) (by simp only; omega) _
  case done =>
    rintro D W hD ⟨h1, h2, h4⟩ hK
    have c5 := cell_of_one h1
    have c6 := cell_of_one h2
    have hp5 := lt_of_block h1
    have hp6 := lt_of_block h2
    have hel := HEL.out.1
    obtain ⟨m, hm⟩ : ∃ m, (marks (exc k 0 us)).length = m := ⟨_, rfl⟩
    obtain ⟨e, he⟩ : ∃ e, (exc k 0 us).length = e := ⟨_, rfl⟩
    have hm2 := HEL.out.2.1
    have hl2 := HEL.out.2.2
    rw [hm, he] at hm2
    rw [he] at hel c6
    rw [hm] at c5
    have he4 : e ≤ 1024 := by omega
    have hv1 := vput_len_u64 e (by omega)
    have HSZ := Lib.hid (fun w => size_any e w (by omega))
    obtain ⟨q, hq⟩ : ∃ q, (vput e).length = q := ⟨_, rfl⟩
    rw [hq] at hv1 HSZ
    obtain ⟨S, hS⟩ : ∃ S : Int, 9 + (oc : Int) + (m : Int) = S := ⟨_, rfl⟩
    rw [hS] at c5
    have hS0 : 0 ≤ S := by omega
    have hS1 : S ≤ 40000 := by omega
    have HFE2 := Lib.hid (show (flen us k : Int) = S + (q : Int) by rw [HFE.out, hm, he, hq, hS])
    have H4 := Lib.hid h4
    have HK := Lib.hid hK
    clear hm he hq hS h1 h2 h4 hK hl2
    gi_wp2
    refine (wpIn_wide (n := 0)).2 ?_
    refine wp_region_free 5 (by kernel_rfl) (by kernel_rfl) ?_
    refine chain_val (.int .i64 S) (S := [5]) rfl ?_ ?_
    · intro ρ w' hE hB hs
      have h5 : ρ (.tmp 5) = .pointer (some ⟨p, 0, none⟩) := hs 5 (by decide)
      clear hs
      refine if_t (by rfl) ?_
      have hcl := (hB.cell (p := ⟨p, 0, none⟩) (show p < W.heap.size by omega)).trans c5
      go_simp
    refine chain_val (.int .i64 (e : Int)) (S := [6]) rfl ?_ ?_
    · intro ρ w' hE hB hs
      have h6 : ρ (.tmp 6) = .pointer (some ⟨p + 1, 0, none⟩) := hs 6 (by decide)
      clear hs
      refine if_t (by rfl) ?_
      have hcl := (hB.cell (p := ⟨p + 1, 0, none⟩) (show p + 1 < W.heap.size by omega)).trans c6
      go_simp
    refine chain_val (.int .u64 (e : Int)) (S := [30]) rfl ?_ ?_
    · intro ρ w' hE hB hs
      have h30 : ρ (.tmp 30) = .int .i64 (e : Int) := hs 30 (by decide)
      clear hs
      refine if_t (by rfl) ?_
      (go_simp <;> exact wrapu64_in _ (by omega) (by omega))
    refine chain_static (fun v__ _ => v__ = .int .i64 (q : Int)) (stable_eq _) (S := [31]) rfl (Go.Cor.enters_f Try.func37 (by kernel_rfl) rfl) rfl ?_ ?_
    · intro ρ w' hE hB hs
      have h31 : ρ (.tmp 31) = .int .u64 (e : Int) := hs 31 (by decide)
      clear hs
      refine ⟨(by rfl), ?_⟩
      simp only [List.map_toArray, List.map_cons, List.map_nil, h31]
      refine (HSZ.out _).mono ?_
      rintro e w3 ⟨rfl, hb⟩
      exact ⟨_, rfl, hb, rfl⟩
    refine chain_val (.int .i64 (S + (q : Int))) (S := [29, 32]) rfl ?_ ?_
    · intro ρ w' hE hB hs
      have h29 : ρ (.tmp 29) = .int .i64 S := hs 29 (by decide)
      have h32 : ρ (.tmp 32) = .int .i64 (q : Int) := hs 32 (by decide)
      clear hs
      refine if_t (by rfl) ?_
      (go_simp <;> exact wrapi64_in _ (by omega) (by omega))
    intro w1 hB1
    simp only [List.reverse_cons, List.reverse_nil, List.nil_append, List.cons_append, Go.Free.Ends, forall_eq, Act.put, List.setIfInBounds_toArray, List.set_cons_zero, List.set_cons_succ]
    have hK1 := (hB1.block D (lt_of_block HK.out)).trans HK.out
    have HK1 := Lib.hid hK1
    have HB1 := Lib.hid (H4.out.trans (hB1.mono H4.out.size))
    have HD1 := Lib.hid (show W.heap.size ≤ w1.heap.size from hB1.size)
    clear hK1 hB1 c5 c6
    go_wp2_with fail
    gi_wp2
    refine leaves_mark HK1.out (results_tmp rfl _ _ _) ⟨by rw [HFE2.out]; rfl, ?_⟩
    exact HB1.out.trans (below_keep (S := fun _ k => k < w.heap.size) (.putObj _ (by omega) _) (by have := HB1.out.size; omega) (fun k hk => hk))
end Go.Proofs.Ytkbcmblgieoleaa

namespace Go.Cor
open Go Go.RowKit
theorem offsets_in (f : Int) (xs : List Int) : In .u64 (offsets f xs) := by
  intro u hu
  obtain ⟨x, _, rfl⟩ := List.mem_map.1 hu
  exact wu64_bd _
end Go.Cor
namespace Go.Proofs.Ytkbcmblgieoleaa
open Go.RowKit Go.Cor Go.Free

set_option maxRecDepth 100000 in
set_option maxHeartbeats 2000000 in
theorem best_any (A : Option Addr) (n c : Nat) (us : List Int) (w : World) (h : Rd w .u64 A n c us) (hu : In .u64 us) (hn : n ≤ 1024) (hn0 : 0 < n) :
    Calls Try.prog 36 #[.slice A n c] w fun e w' => e = .returned (.tuple #[.int .i64 (fbest us : Nat), .int .i64 (flen us (fbest us) : Nat)]) ∧ Below w.heap.size w w' := by
  have hl := h.len
  have HS := Lib.hid (fun k w hk h => fsz_any A n c us k w h hu hn hn0 hk)
  have HLE := Lib.hid (fun k hk => flen_le (k := k) hu (by omega) hk)
  have H := Lib.hid h
  have HU := Lib.hid hu
  have hf0 := flen_le (k := 0) hu (by omega) (by omega)
  obtain ⟨f0, hf0e⟩ : ∃ f, flen us 0 = f := ⟨_, rfl⟩
  have hs0 := HS.out 0 w (by omega) h
  rw [hf0e] at hf0 hs0
  have HS0 := Lib.hid hs0
  have HF0 := Lib.hid hf0e
  clear h hu hl hs0 hf0e
  go_enter Try.func36, Try.ntmps36
  go_wp2_with fail
  refine HS0.out.mono ?_
  rintro e w1 ⟨rfl, hb1⟩
  have HB1 := Lib.hid hb1
  clear hb1
  go_wp2_with fail
  go_loopg [4, 5, 6] 64 (fun gg v4 v5 v6 wr => ∃ j b f : Nat, v6 = .int .i64 ((j : Int) + 1) ∧ j ≤ 64 ∧ gg = 64 - j ∧ v4 = .int .i64 b ∧ v5 = .int .i64 f ∧ f ≤ 30000 ∧ b ≤ 64 ∧ Hid (flen us b = f ∧ Best (flen us) 0 j b ∧ Below w.heap.size w wr))
  case atStart => exact ⟨0, 0, f0, rfl, by omega, rfl, rfl, rfl, by omega, by omega, Lib.hid ⟨HF0.out, best_one _ _, HB1.out⟩⟩
  case round =>
    obtain ⟨j, b, f, rfl, hj, rfl, rfl, rfl, hf, hb, hI⟩ := hrel
    by_cases hlt : j < 64
    · have hs := HS.out (j + 1) wr (by omega) (H.out.below hI.out.2.2)
      have hle := HLE.out (j + 1) (by omega)
      have hup := best_up hI.out.2.1
      rw [hI.out.1] at hup
      obtain ⟨f2, hf2⟩ : ∃ f, flen us (j + 1) = f := ⟨_, rfl⟩
      rw [hf2] at hs hle hup
      rw [show ((j + 1 : Nat) : Int) = (j : Int) + 1 by omega] at hs
      have HS2 := Lib.hid hs
      have HUP := Lib.hid (And.intro hup hf2)
      clear hs hup hf2
      go_wp2_with fail
      refine HS2.out.mono ?_
      rintro e w2 ⟨rfl, hb2⟩
      have HB2 := Lib.hid (hI.out.2.2.trans (hb2.mono hI.out.2.2.size))
      clear hb2
      by_cases hc : f2 < f
      · have hd : decide (f2 < f) = true := by simp; omega
        go_wp2_with fail
        go_roundg (64 - (j + 1))
        case measure => omega
        case rel => exact ⟨j + 1, j + 1, f2, by go_num, by omega, rfl, by go_num, rfl, by omega, by omega, Lib.hid ⟨HUP.out.2, by have := HUP.out.1; rwa [if_pos hc] at this, HB2.out⟩⟩
      · have hd : decide (f2 < f) = false := by simp; omega
        go_wp2_with fail
        go_roundg (64 - (j + 1))
        case measure => omega
        case rel => exact ⟨j + 1, b, f, by go_num, by omega, rfl, rfl, rfl, by omega, by omega, Lib.hid ⟨hI.out.1, by have := HUP.out.1; rwa [if_neg hc] at this, HB2.out⟩⟩
    · obtain rfl : j = 64 := by omega
      have hbe := best_eq hI.out.2.1 (fbest_best us)
      have HBE := Lib.hid hbe
      clear hbe
      go_wp2_with fail
      go_ret2
      refine ⟨?_, hI.out.2.2⟩
      rw [← HBE.out, hI.out.1]; rfl

/-- the least number and the offsets from it -/
def RetOff (B : Nat) (w : World) (xs : List Int) (e : Ending) (w' : World) : Prop :=
  ∃ A n c, e = .returned (.tuple #[.int .i64 (least xs), .slice A n c]) ∧ Owns w' B 32 .u64 A n c (offsets (least xs) xs) ∧ Below B w w'
theorem foffs_any (A : Option Addr) (n c : Nat) (xs : List Int) (w : World) (h : Rd w .i64 A n c xs) (hn : n ≤ 2000) :
    Calls Try.prog 35 #[.slice A n c] w (RetOff w.heap.size w xs) := by
  have HL := Lib.hid (least_any A n c xs w h hn)
  have HO := Lib.hid (fun f => offsets_any f A n c xs w h hn)
  obtain ⟨f, hf⟩ : ∃ f, least xs = f := ⟨_, rfl⟩
  unfold RetOff
  rw [hf] at HL ⊢
  clear h hf
  go_enter Try.func35, Try.ntmps35
  go_wp2_with fail
  refine HL.out.mono ?_
  rintro e w1 ⟨rfl, rfl⟩
  go_wp2_with fail
  refine (HO.out _).mono ?_
  rintro e w1 ⟨A1, n1, c1, rfl, ho, hb⟩
  have HO1 := Lib.hid ho
  have HB1 := Lib.hid hb
  clear ho hb
  go_wp2
  go_ret2
  exact ⟨A1, n1, c1, rfl, HO1.out, HB1.out⟩
theorem doffs_any (A : Option Addr) (n c : Nat) (xs : List Int) (w : World) (h : Rd w .i64 A n c xs) (hn : n ≤ 2000) :
    Calls Try.prog 41 #[.slice A n c] w (RetOff w.heap.size w xs) := by
  have HL := Lib.hid (least_any A n c xs w h hn)
  have HO := Lib.hid (fun f => offsets_any f A n c xs w h hn)
  obtain ⟨f, hf⟩ : ∃ f, least xs = f := ⟨_, rfl⟩
  unfold RetOff
  rw [hf] at HL ⊢
  clear h hf
  go_enter Try.func41, Try.ntmps41
  go_wp2_with fail
  refine HL.out.mono ?_
  rintro e w1 ⟨rfl, rfl⟩
  go_wp2_with fail
  refine (HO.out _).mono ?_
  rintro e w1 ⟨A1, n1, c1, rfl, ho, hb⟩
  have HO1 := Lib.hid ho
  have HB1 := Lib.hid hb
  clear ho hb
  go_wp2
  go_ret2
  exact ⟨A1, n1, c1, rfl, HO1.out, HB1.out⟩

theorem fTakes_any (A : Option Addr) (n c : Nat) (w : World) : Calls Try.prog 28 #[.agg #[], .slice A n c] w fun e w' => e = .returned (.bool (blk n)) ∧ Below w.heap.size w w' := by
  go_enter Try.func28, Try.ntmps28
  go_wp2_with fail
  refine (block_any n _).mono ?_
  rintro e w' ⟨rfl, rfl⟩
  go_wp2
  go_ret
  exact ⟨rfl, (Below.refl _ _).alloc (Nat.le_refl _) _⟩
theorem mf_takes (w : World) : (method 276 24 (.agg #[]) "Takes").run Try.prog w = .ok (28, .agg #[]) w := by kernel_rfl
theorem mf_encode (w : World) : (method 276 24 (.agg #[]) "Encode").run Try.prog w = .ok (27, .agg #[]) w := by kernel_rfl
theorem mf_size (w : World) : (method 276 24 (.agg #[]) "Size").run Try.prog w = .ok (13, .agg #[]) w := by kernel_rfl
theorem mf_decode (w : World) : (method 276 24 (.agg #[]) "Decode").run Try.prog w = .ok (25, .agg #[]) w := by kernel_rfl
theorem mf_ahead (w : World) : (nilAhead 276 24 (.agg #[]) "Decode").run Try.prog w = .ok (some false) w := by kernel_rfl
theorem pforT : Taker 24 28 tkAll :=
  ⟨mf_takes, enters_f Try.func28 (by kernel_rfl) rfl, fun w A n c xs h _ _ => by rw [tak_all, h.len]; exact fTakes_any A n c w⟩

set_option maxRecDepth 100000 in
set_option maxHeartbeats 1000000 in
theorem fSize_any (w : World) (A : Option Addr) (n c : Nat) (xs : List Int) (h : Rd w .i64 A n c xs) (hi : In .i64 xs) (hn : n ≤ 1100) :
    Calls Try.prog 13 #[.agg #[], .slice A n c] w fun e w' => e = .returned (.int .i64 (if tak tkAll xs then ((fform xs).length : Int) else 0)) ∧ Below w.heap.size w w' := by
  have hk : tak tkAll xs = blk n := by rw [tak_all, h.len]
  have ht := fTakes_any A n c
  rw [hk]
  obtain ⟨q, hq⟩ : ∃ q, blk n = q := ⟨_, rfl⟩
  rw [hq] at ht ⊢
  have HT := Lib.hid ht
  have H := Lib.hid h
  cases q with
  | false =>
    clear ht hq h hi hk
    go_enter Try.func13, Try.ntmps13
    go_wp2_with fail
    refine (HT.out _).mono ?_
    rintro e w1 ⟨rfl, hb⟩
    go_wp2
    go_ret
    exact ⟨rfl, ((Below.refl _ _).alloc (Nat.le_refl _) _).trans (hb.mono (by simp))⟩
  | true =>
    have hN := of_decide_eq_true hq
    have hlen := h.len
    have hn2 : n ≤ 1024 := by omega
    have hn0 : 0 < n := by omega
    have hfe := fform_eq (xs := xs) (by omega)
    have hfl : (fform xs).length = flen (offsets (least xs) xs) (fbest (offsets (least xs) xs)) := by rw [hfe, fcut_len]
    have HO := Lib.hid (fun w h => foffs_any A n c xs w h (by omega))
    unfold RetOff at HO
    have hin := offsets_in (least xs) xs
    have hul : (offsets (least xs) xs).length = n := by simp [offsets, hlen]
    obtain ⟨us, hus⟩ : ∃ us, offsets (least xs) xs = us := ⟨_, rfl⟩
    rw [hus] at HO hin hul hfl
    have HB := Lib.hid (fun A c w h => best_any A n c us w h hin hn2 hn0)
    rw [← hfl] at HB
    have HUL := Lib.hid hul
    clear ht hq h hi hk hN hlen hfe hfl hin hul hus
    go_enter Try.func13, Try.ntmps13
    go_wp2_with fail
    refine (HT.out _).mono ?_
    rintro e w1 ⟨rfl, hb⟩
    have HB1 := Lib.hid (((Below.refl w.heap.size w).alloc (Nat.le_refl _) _).trans (hb.mono (by simp)))
    clear hb
    go_wp2_with fail
    refine (HO.out _ (H.out.below HB1.out)).mono ?_
    rintro e w2 ⟨A2, n2, c2, rfl, ho2, hb2⟩
    obtain rfl : n2 = n := by have := row_len ho2; have := HUL.out; omega
    have HB2 := Lib.hid (HB1.out.trans (hb2.mono HB1.out.size))
    have HO2 := Lib.hid (Rd.own ho2)
    clear ho2 hb2
    go_wp2_with fail
    refine (HB.out _ _ _ HO2.out).mono ?_
    rintro e w3 ⟨rfl, hb3⟩
    have HB3 := Lib.hid (HB2.out.trans (hb3.mono HB2.out.size))
    clear hb3
    go_wp2
    go_ret
    exact ⟨rfl, HB3.out⟩
theorem pforS : Sizer 24 13 tkAll fform :=
  ⟨mf_size, enters_f Try.func13 (by kernel_rfl) rfl, fSize_any⟩
end Go.Proofs.Ytkbcmblgieoleaa
