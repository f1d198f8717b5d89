/-
  Chapter 11: the next short number; the high parts.
  Chapter 11: Decode's reading.
  Chapter 11: Decode.
  Chapter 11: Name; awake.
-/
import Derived.Test.YtkbcmblgieoleaaG12
import Derived.Test.YtkbcmblgieoleaaG14
import Derived.Test.YtkbcmblgieoleaaG17
import Derived.Test.YtkbcmblgieoleaaG20
import Derived.Test.YtkbcmblgieoleaaG23
import Derived.Test.YtkbcmblgieoleaaG24
import Derived.Test.YtkbcmblgieoleaaG26
namespace Go.Cor
open Go Go.RowKit
theorem vget_shape {b : List Int} (hb : By b) (h : (vget 0 b).2.2 = 0) : ∃ v m : Nat, vget 0 b = ((v : Int), (m : Int), 0) ∧ 1 ≤ m ∧ m ≤ b.length ∧ (v : Int) ≤ 18446744073709551615 := by
  have hg := zrun_get hb h
  obtain ⟨g, hge⟩ : ∃ g, vget 0 b = g := ⟨_, rfl⟩
  rw [hge] at hg h ⊢
  obtain ⟨v, m, e⟩ := g
  dsimp only at hg h
  obtain ⟨v, rfl⟩ := Int.eq_ofNat_of_zero_le hg.2.2.2.1
  obtain ⟨m, rfl⟩ := Int.eq_ofNat_of_zero_le (show 0 ≤ m by have := hg.2.2.1; omega)
  subst h
  exact ⟨v, m, rfl, by simpa using hg.1, by simpa using hg.2.1, hg.2.2.2.2⟩
theorem Mod.put {T : Nat → Prop} {w0 w : World} (h : Mod T w0 w) {a : Addr} (ha : w0.heap.size ≤ a.block) (u : Value) : Mod T w0 (w.setCell a u) :=
  ⟨h.os, h.tape, h.output, Nat.le_trans h.size (by simp [World.setCell]), fun k hk ht => (Below.heap_setCell _ _ _ _ (by omega)).trans (h.block k hk ht)⟩
theorem dlift_bad {l : List Int} {a : Nat} {e : Int} (h : e ≠ 0) : dlift l a ([], 0, e) = ([], 0, e) := by unfold dlift; rw [if_pos h]
end Go.Cor
namespace Go.Proofs.Ytkbcmblgieoleaa
open Go.RowKit Go.Cor Go.Free

/-- what a reading of numbers comes to: a fresh row of the call's own, the cursor behind it; or an error -/
def RawO (p : Nat) (A : Option Addr) (n c : Nat) (xs : List Int) (at_ : Nat) (w : World) (r : List Int × Nat × Int) (e : Ending) (w' : World) : Prop :=
  Mod (· = p) w w' ∧ ((r.2.2 = 0 ∧ (∃ A' m c', e = .returned (.slice A' m c') ∧ Owns w' w.heap.size 32 .u64 A' m c' r.1) ∧ Cur w' p A n c xs (at_ + r.2.1)) ∨ (r.2.2 ≠ 0 ∧ e = Thr r.2.2))
theorem pn_ok {w : World} {p : Nat} {A : Option Addr} {n c : Nat} {xs : List Int} {at_ v m : Nat} (h : Cur w p A n c xs at_) (hv : vget 0 (xs.drop at_) = ((v : Int), (m : Int), 0)) :
    Calls Try.prog 109 #[.pointer (some ⟨p, 0, none⟩)] w fun e w' => e = .returned (.int .u64 v) ∧ Cur w' p A n c xs (at_ + m) ∧ Mod (· = p) w w' := by
  refine (pnext_any h).mono ?_
  rintro e w' ⟨hm, ⟨h1, h2, h3⟩ | ⟨h1, h2⟩⟩
  · rw [hv] at h2 h3
    exact ⟨h2, by simpa using h3, hm⟩
  · rw [hv] at h1; exact absurd rfl h1
theorem pn_err {w : World} {p : Nat} {A : Option Addr} {n c : Nat} {xs : List Int} {at_ : Nat} (h : Cur w p A n c xs at_) (hv : (vget 0 (xs.drop at_)).2.2 ≠ 0) :
    Calls Try.prog 109 #[.pointer (some ⟨p, 0, none⟩)] w fun e w' => e = Thr (vget 0 (xs.drop at_)).2.2 ∧ Mod (· = p) w w' := by
  refine (pnext_any h).mono ?_
  rintro e w' ⟨hm, ⟨h1, h2, h3⟩ | ⟨h1, h2⟩⟩
  · exact absurd h1 hv
  · exact ⟨h2, hm⟩

set_option maxRecDepth 100000 in
set_option maxHeartbeats 8000000 in
theorem highs_any {w : World} {p : Nat} {A : Option Addr} {n c : Nat} {xs : List Int} {at_ : Nat} (h : Cur w p A n c xs at_) (N k : Nat) (hN : N ≤ 1024) (hN0 : 0 < N) (hk : k ≤ 64) :
    Calls Try.prog 66 #[.pointer (some ⟨p, 0, none⟩), .int .i64 N, .int .i64 k] w (RawO p A n c xs at_ w (fhighs N k (xs.drop at_))) := by
  have hmk := run_make_row' (P := Try.prog) 51 32 (.int .u64 0) 8 Try.underlying51 (by kernel_rfl) rfl .i64 .i64 N (by omega) (by omega)
  have hst : Owns (w.alloc (.cells (madeCells #[.int .u64 0] N) 32)) w.heap.size 32 .u64 (some ⟨w.heap.size, 0, none⟩) N N (List.replicate N 0) := owns_made (Nat.le_refl _) (by simp [maxLen]; omega)
  have hcu1 := h.below ((Below.refl _ _).alloc (Nat.le_refl _) (.cells (madeCells #[.int .u64 0] N) 32))
  obtain ⟨W1, hW1⟩ : ∃ W1, w.alloc (.cells (madeCells #[.int .u64 0] N) 32) = W1 := ⟨_, rfl⟩
  have hb1 : Below w.heap.size w W1 := by rw [← hW1]; exact (Below.refl _ _).alloc (Nat.le_refl _) _
  have hm1 : Mod (· = p) w W1 := .of_below hb1
  rw [hW1] at hst hcu1
  have hby := h.bytes.drop at_
  have hpw := h.lt
  obtain ⟨X, hX⟩ : ∃ X, xs.drop at_ = X := ⟨_, rfl⟩
  have eN : IntKind.u64.wrap (N : Int) = (N : Int) := wrapu64_in _ (by omega) (by omega)
  obtain ⟨R, hR⟩ : ∃ R, fhighs N k X = R := ⟨_, rfl⟩
  have H := Lib.hid h
  by_cases he : (vget 0 X).2.2 = 0
  · obtain ⟨v, m, hv, hm1', hm2, hv64⟩ := vget_shape (by rw [← hX]; exact hby) he
    have hnx := pn_ok hcu1 (v := v) (m := m) (by rw [hX]; exact hv)
    have hrg := fhighs_get N k hv
    rw [hR] at hrg
    rw [hX] at hby ⊢
    rw [hR]
    have HNX := Lib.hid hnx
    have HST := Lib.hid hst
    have HM1 := Lib.hid hm1
    have HX := Lib.hid (And.intro hX hby)
    have HRG := Lib.hid hrg
    have HW := Lib.hid hW1
    have HB1 := Lib.hid hb1
    clear h hst hcu1 hb1 hm1 hby hX hR he hv hnx hrg hW1
    go_enter Try.func66, Try.ntmps66
    go_wp2_with fail
    rw [HW.out]
    refine HNX.out.mono ?_
    rintro e w2 ⟨rfl, hcu2, hm2'⟩
    have HC2 := Lib.hid hcu2
    have HM2 := Lib.hid (Mod.trans HM1.out hm2')
    have HO2 := Lib.hid (owns_keep HST.out hm2' fun g hg _ => by have h1 := (HST.out.lt g hg).1; show ¬ g = p; omega)
    clear hcu2 hm2'
    by_cases hvn : N < v
    · have hd : decide (v ≤ N) = false := by simp; omega
      go_wp2_with fail
      refine (check_false 7 _ (by decide)).mono ?_
      rintro e w3 ⟨rfl, rfl⟩
      exact ⟨rfl, HM2.out, .inr (by rw [HRG.out, if_pos hvn]; exact ⟨by decide, rfl⟩)⟩
    · have hd : decide (v ≤ N) = true := by simp; omega
      have hrg := HRG.out
      rw [if_neg hvn] at hrg
      have HRG2 := Lib.hid hrg
      clear hrg
      go_wp2_with fail
      refine (check_true 7 _).mono ?_
      rintro e w3 ⟨rfl, rfl⟩
      go_wp2_with fail
      go_loopg [9, 22] v (fun gg v9 v22 wr => ∃ (i a cc : Nat) (Hl : List Int), v22 = .int .u64 i ∧ i ≤ v ∧ gg = v - i ∧ v9 = .int .i64 a ∧ a ≤ N ∧ Hid (Owns wr w.heap.size 32 .u64 (some ⟨w.heap.size, 0, none⟩) N N Hl ∧ Cur wr p A n c xs (at_ + cc) ∧ Mod (· = p) w wr ∧ R = dlift [] cc (fexc N k (v - i) a Hl (X.drop cc))))
      case atStart => exact ⟨0, 0, m, _, rfl, by omega, by omega, rfl, by omega, Lib.hid ⟨HO2.out, HC2.out, HM2.out, HRG2.out⟩⟩
      case round =>
        obtain ⟨i, a, cc, Hl, rfl, hi, rfl, rfl, ha, hI⟩ := hrel
        obtain ⟨wo, rfl⟩ : ∃ wo, wo = wr := ⟨_, rfl⟩
        by_cases hlt : i < v
        · have hdi : decide (i < v) = true := by simp; omega
          have hR0 := hI.out.2.2.2
          rw [show v - i = (v - (i + 1)) + 1 by omega] at hR0
          have hbX := HX.out.2.drop cc
          have hxd : xs.drop (at_ + cc) = X.drop cc := by rw [← HX.out.1, List.drop_drop]
          by_cases he1 : (vget 0 (X.drop cc)).2.2 = 0
          · obtain ⟨g, m1, hg1, _, hg3, hg64⟩ := vget_shape hbX he1
            have hn1 := pn_ok hI.out.2.1 (v := g) (m := m1) (by rw [hxd]; exact hg1)
            have HN1 := Lib.hid hn1
            have HR0 := Lib.hid (And.intro hR0 (And.intro hg1 (And.intro hbX hxd)))
            clear hn1 hR0 hbX hxd he1 hg1
            go_wp2_with fail
            refine HN1.out.mono ?_
            rintro e w4 ⟨rfl, hcu4, hm4⟩
            have HC4 := Lib.hid hcu4
            have HM4 := Lib.hid (Mod.trans hI.out.2.2.1 hm4)
            have HO4 := Lib.hid (owns_keep hI.out.1 hm4 fun g hg _ => by have h1 := (hI.out.1.lt g hg).1; show ¬ g = p; omega)
            clear hcu4 hm4
            by_cases hga : N - a ≤ g
            · have hdg : decide ((g : Int) < (N : Int) - (a : Int)) = false := by simp; omega
              go_wp2_with fail
              refine (check_false 4 _ (by decide)).mono ?_
              rintro e w5 ⟨rfl, rfl⟩
              have hR := HR0.out.1
              rw [fexc_bad2 HR0.out.2.1 hga, dlift_bad (by decide)] at hR
              exact ⟨rfl, HM4.out, .inr (by rw [hR]; exact ⟨by decide, rfl⟩)⟩
            · have hdg : decide ((g : Int) < (N : Int) - (a : Int)) = true := by simp; omega
              have hxd2 : xs.drop (at_ + cc + m1) = (X.drop cc).drop m1 := by rw [← HX.out.1, List.drop_drop, List.drop_drop, Nat.add_assoc]
              by_cases he2 : (vget 0 ((X.drop cc).drop m1)).2.2 = 0
              · obtain ⟨x, m2, hx1, _, hx3, hx64⟩ := vget_shape (HR0.out.2.2.1.drop m1) he2
                have HN2 := Lib.hid (pn_ok HC4.out (v := x) (m := m2) (by rw [hxd2]; exact hx1))
                have HX1 := Lib.hid hx1
                clear hx1 he2 hxd2
                go_wp2_with fail
                refine (check_true 4 _).mono ?_
                rintro e w5 ⟨rfl, rfl⟩
                go_wp2_with fail
                refine HN2.out.mono ?_
                rintro e w5 ⟨rfl, hcu5, hm5⟩
                have HC5 := Lib.hid hcu5
                have HM5 := Lib.hid (Mod.trans HM4.out hm5)
                have ho5 := owns_keep HO4.out hm5 fun g hg _ => by have h1 := (HO4.out.lt g hg).1; show ¬ g = p; omega
                clear hcu5 hm5
                by_cases hx0 : x = 0
                · subst hx0
                  go_wp2_with fail
                  refine (check_false 4 _ (by decide)).mono ?_
                  rintro e w6 ⟨rfl, rfl⟩
                  have hR := HR0.out.1
                  rw [fexc_bad4 HR0.out.2.1 (by omega) HX1.out (.inl rfl), dlift_bad (by decide)] at hR
                  exact ⟨rfl, HM5.out, .inr (by rw [hR]; exact ⟨by decide, rfl⟩)⟩
                · have hd0 : decide (0 < x) = true := by simp; omega
                  have hof := fun w => of_any (x : Int) w (by omega) hx64
                  have hbd := bw_bound (x : Int) hx64
                  rw [show bw (x : Int) = (nbits x : Int) by simp [bw]] at hof hbd
                  obtain ⟨nb, hnb⟩ : ∃ nb, nbits x = nb := ⟨_, rfl⟩
                  rw [hnb] at hof hbd
                  have HOF := Lib.hid (And.intro hof hnb)
                  have HO5 := Lib.hid ho5
                  have hnb64 : nb ≤ 64 := by omega
                  clear hof hnb hbd ho5
                  by_cases hnk : 64 < nb + k
                  · have hd1 : decide ((nb : Int) ≤ 64 - (k : Int)) = false := by simp; omega
                    go_wp2_with fail
                    refine (HOF.out.1 _).mono ?_
                    rintro e w6 ⟨rfl, rfl⟩
                    go_wp2_with fail
                    refine (check_false 4 _ (by decide)).mono ?_
                    rintro e w6 ⟨rfl, rfl⟩
                    have hR := HR0.out.1
                    rw [fexc_bad4 HR0.out.2.1 (by omega) HX1.out (.inr (by rw [HOF.out.2]; exact hnk)), dlift_bad (by decide)] at hR
                    exact ⟨rfl, HM5.out, .inr (by rw [hR]; exact ⟨by decide, rfl⟩)⟩
                  · have hd1 : decide ((nb : Int) ≤ 64 - (k : Int)) = true := by simp; omega
                    obtain ⟨g', c', hv4, hBg, hgl, hcell, hfr, hset⟩ := owns_put (i := a + g) (y := (x : Int)) HO5.out (by omega)
                    injection hv4 with hA hk4 hc4
                    injection hA with hA
                    injection hA with hA
                    subst hA hc4
                    have hHl := row_len HO5.out
                    obtain ⟨y, hy⟩ : ∃ y, Hl[a + g]? = some y := ⟨_, List.getElem?_eq_getElem (by omega)⟩
                    rw [hy, Option.map_some] at hcell
                    clear hy
                    have HSET := Lib.hid hset
                    have HHL := Lib.hid hHl
                    clear hset hHl hk4
                    go_wp2_with fail
                    refine (HOF.out.1 _).mono ?_
                    rintro e w6 ⟨rfl, rfl⟩
                    go_wp2_with fail
                    refine (check_true 4 _).mono ?_
                    rintro e w6 ⟨rfl, rfl⟩
                    go_wp2_with fail
                    go_roundg (v - (i + 1))
                    case measure => omega
                    case rel =>
                      have hR := HR0.out.1
                      rw [fexc_step HR0.out.2.1 (by omega) HX1.out (by omega) (by rw [HOF.out.2]; omega), dlift_dlift, List.drop_drop] at hR
                      have hmp := Mod.put HM5.out (a := ⟨w.heap.size, a + g, none⟩) (Nat.le_refl _) (.int .u64 (x : Int))
                      refine ⟨i + 1, a + g + 1, cc + (m1 + m2), Hl.set (a + g) (x : Int), by go_num, by omega, rfl, by go_num, by omega, Lib.hid ⟨?_, ?_, ?_, by simpa using hR⟩⟩
                      · exact HSET.out
                      · have := H.out.of_mod hmp ((Below.heap_setCell _ _ _ _ (by show p ≠ w.heap.size; omega)).trans HC5.out.blk) HC5.out.le
                        rw [show at_ + (cc + (m1 + m2)) = at_ + cc + m1 + m2 by omega]; exact this
                      · exact hmp
              · have HN2 := Lib.hid (pn_err HC4.out (by rw [hxd2]; exact he2))
                have HE2 := Lib.hid (And.intro he2 hxd2)
                clear he2 hxd2
                go_wp2_with fail
                refine (check_true 4 _).mono ?_
                rintro e w5 ⟨rfl, rfl⟩
                go_wp2_with fail
                refine HN2.out.mono ?_
                rintro e w5 ⟨rfl, hm5⟩
                have hR := HR0.out.1
                rw [fexc_bad3 HR0.out.2.1 (by omega) HE2.out.1, dlift_bad HE2.out.1] at hR
                exact ⟨rfl, Mod.trans HM4.out hm5, .inr (by rw [hR, HE2.out.2]; exact ⟨HE2.out.1, rfl⟩)⟩
          · have hn1 := pn_err hI.out.2.1 (by rw [hxd]; exact he1)
            rw [fexc_bad1 he1, dlift_bad he1] at hR0
            rw [hxd] at hn1
            have HN1 := Lib.hid hn1
            have HR0 := Lib.hid (And.intro hR0 he1)
            clear hn1 hR0 hbX hxd he1
            go_wp2_with fail
            refine HN1.out.mono ?_
            rintro e w4 ⟨rfl, hm4⟩
            exact ⟨rfl, Mod.trans hI.out.2.2.1 hm4, .inr (by rw [HR0.out.1]; exact ⟨HR0.out.2, rfl⟩)⟩
        · obtain rfl : i = v := by omega
          have hdi : decide (i < i) = false := by simp
          have hR := hI.out.2.2.2
          rw [Nat.sub_self, fexc] at hR
          have HR := Lib.hid (show R = (Hl, cc, 0) by rw [hR]; simp [dlift])
          clear hR
          go_wp2
          go_ret
          exact ⟨hI.out.2.2.1, .inl (by rw [HR.out]; exact ⟨rfl, ⟨_, N, N, rfl, hI.out.1⟩, hI.out.2.1⟩)⟩
  · have hnx := pn_err hcu1 (by rw [hX]; exact he)
    rw [hX] at hnx ⊢
    have HNX := Lib.hid hnx
    have HM1 := Lib.hid hm1
    have HR := Lib.hid (show fhighs N k X = ([], 0, (vget 0 X).2.2) by unfold fhighs; rw [if_pos he])
    have HE := Lib.hid he
    have HW := Lib.hid hW1
    clear h hst hcu1 hb1 hm1 hby hX hR he hnx hW1
    go_enter Try.func66, Try.ntmps66
    go_wp2_with fail
    rw [HW.out]
    refine HNX.out.mono ?_
    rintro e w2 ⟨rfl, hm2⟩
    exact ⟨rfl, Mod.trans HM1.out hm2, .inr (by rw [HR.out]; exact ⟨HE.out, rfl⟩)⟩
end Go.Proofs.Ytkbcmblgieoleaa

namespace Go.Cor
open Go Go.RowKit
/-- ahead of a drawn region: the cells of a kept block -/
theorem cell_mod {T : Nat → Prop} {w w' : World} (h : Mod T w w') {b : Nat} {v : Value} {t : TypeId} (hb : Box w b t v) (hT : ¬ T b) : w'.cell? ⟨b, 0, none⟩ = some v := cell_of_one (hb.keep h hT)
theorem or_high (h x k : Nat) (hx : x < 2 ^ k) (hh : h * 2 ^ k + x < 18446744073709551616) : bits .or .u64 ((h : Int) * 2 ^ k) (x : Int) = ((h * 2 ^ k + x : Nat) : Int) := by
  have e : ((h : Int) * (2 : Int) ^ k) = ((2 ^ k * h : Nat) : Int) := by rw [Nat.mul_comm]; simp
  rw [e, bits_u64 .or (2 ^ k * h) x (by rw [Nat.mul_comm]; omega) (by omega)]
  simp only []
  rw [← Nat.two_pow_add_eq_or_of_lt hx, Nat.mul_comm]
theorem backs_w64 (f : Int) (us : List Int) : backs (w64 f) us = backs f us := by
  unfold backs; refine List.map_congr_left fun x _ => ?_
  unfold w64; omega
/-- high parts that leave room for the low ones -/
def Roomy (k : Nat) (H : List Int) : Prop := ∀ x ∈ H, 0 ≤ x ∧ x.toNat < 2 ^ (64 - k)
theorem fexc_room (n k : Nat) : ∀ (e a : Nat) (H b : List Int), Roomy k H → (fexc n k e a H b).2.2 = 0 → Roomy k (fexc n k e a H b).1
  | 0, a, H, b, hr, h => by simpa [fexc] using hr
  | e + 1, a, H, b, hr, h => by
    rw [fexc] at h ⊢
    by_cases h1 : (vget 0 b).2.2 ≠ 0
    · rw [if_pos h1] at h; exact absurd h h1
    rw [if_neg h1] at h ⊢
    by_cases h2 : n - a ≤ (vget 0 b).1.toNat
    · rw [if_pos h2] at h; simp at h
    rw [if_neg h2] at h ⊢
    by_cases h3 : (vget 0 (b.drop (vget 0 b).2.1.toNat)).2.2 ≠ 0
    · rw [if_pos h3] at h; exact absurd h h3
    rw [if_neg h3] at h ⊢
    by_cases h4 : (vget 0 (b.drop (vget 0 b).2.1.toNat)).1.toNat = 0 ∨ 64 < nbits (vget 0 (b.drop (vget 0 b).2.1.toNat)).1.toNat + k
    · rw [if_pos h4] at h; simp at h
    rw [if_neg h4] at h ⊢
    unfold dlift at h ⊢
    split at h
    · rename_i h5; exact absurd h h5
    · rename_i h5
      rw [if_neg h5]
      refine fexc_room n k e _ _ _ ?_ (by simpa using h5)
      intro x hx
      rcases List.mem_or_eq_of_mem_set hx with hx | rfl
      · exact hr x hx
      · refine ⟨by omega, ?_⟩
        rw [Int.toNat_natCast]
        exact Nat.lt_of_lt_of_le (nbits_lt _) (pow_mono2 (by omega))
theorem fhighs_ok {n k : Nat} {b : List Int} (h : (fhighs n k b).2.2 = 0) : (fhighs n k b).1.length = n ∧ Roomy k (fhighs n k b).1 := by
  unfold fhighs at h ⊢
  by_cases h1 : (vget 0 b).2.2 ≠ 0
  · rw [if_pos h1] at h; exact absurd h h1
  rw [if_neg h1] at h ⊢
  by_cases h2 : n < (vget 0 b).1.toNat
  · rw [if_pos h2] at h; simp at h
  rw [if_neg h2] at h ⊢
  unfold dlift at h ⊢
  split at h
  · rename_i h5; exact absurd h h5
  · rename_i h5
    rw [if_neg h5]
    have h6 := fexc_len n k (vget 0 b).1.toNat 0 (List.replicate n 0) (b.drop (vget 0 b).2.1.toNat) (by simpa using h5)
    have h7 := fexc_room n k (vget 0 b).1.toNat 0 (List.replicate n 0) (b.drop (vget 0 b).2.1.toNat) (fun x hx => by rw [List.eq_of_mem_replicate hx]; exact ⟨by decide, pow_pos2 _⟩) (by simpa using h5)
    exact ⟨by simpa using h6, by simpa using h7⟩
theorem unpk_ok {k n : Nat} {b : List Int} (h : (unpk k n b).2 = 0) : (unpk k n b).1.length = n ∧ Fitl k (unpk k n b).1 := by
  unfold unpk at h ⊢
  repeat' split at h
  all_goals first | (simp at h; done) | skip
  rename_i h1 h2 h3
  rw [if_neg h1, if_neg h2, if_neg h3]
  exact ⟨unp_len _ _ _, unp_fit _ _ _⟩
theorem fjoin_len (k : Nat) (H L : List Int) : (fjoin k H L).length = L.length := by simp [fjoin]
theorem fjoin_get (k : Nat) (H L : List Int) {i : Nat} (hi : i < L.length) : (fjoin k H L)[i]?.getD 0 = H[i]?.getD 0 * 2 ^ k + L[i]?.getD 0 := by
  simp [fjoin, hi]
theorem or_room {g x k : Nat} (hk : k ≤ 64) (hg : g < 2 ^ (64 - k)) (hx : x < 2 ^ k) : g * 2 ^ k + x < 18446744073709551616 := by
  have e1 : 2 ^ (64 - k) * 2 ^ k = 18446744073709551616 := by rw [← Nat.pow_add, Nat.sub_add_cancel hk]
  have e2 : (g + 1) * 2 ^ k ≤ 2 ^ (64 - k) * 2 ^ k := Nat.mul_le_mul_right _ hg
  rw [Nat.add_mul] at e2; omega
theorem wrap_room {g x k : Nat} (h : g * 2 ^ k + x < 18446744073709551616) : IntKind.u64.wrap ((g : Int) * 2 ^ k) = (g : Int) * 2 ^ k := by
  have e : ((g : Int) * (2 : Int) ^ k) = ((g * 2 ^ k : Nat) : Int) := by simp
  rw [e]
  obtain ⟨y, hy⟩ : ∃ y, g * 2 ^ k = y := ⟨_, rfl⟩
  rw [hy] at h ⊢
  exact wrapu64_in _ (by omega) (by omega)
theorem room_cast (g x k : Nat) : ((g : Int) * (2 : Int) ^ k + (x : Int)) = ((g * 2 ^ k + x : Nat) : Int) := by simp
theorem mix_get {J H : List Int} {i : Nat} (hi : i < H.length) (hl : J.length = H.length) : (J.take i ++ H.drop i)[i]? = H[i]? := by
  have e : (J.take i).length = i := by simp; omega
  rw [List.getElem?_append_right (by omega), e, Nat.sub_self, List.getElem?_drop, Nat.add_zero]
theorem mix_set {J H : List Int} {i : Nat} (hi : i < H.length) (hl : J.length = H.length) {y : Int} (hy : J[i]?.getD 0 = y) : (J.take i ++ H.drop i).set i y = J.take (i + 1) ++ H.drop (i + 1) := by
  have e : (J.take i).length = i := by simp; omega
  have e2 : J.take (i + 1) = J.take i ++ [y] := by
    rw [List.take_add_one]; congr 1
    rw [List.getElem?_eq_getElem (by omega)] at hy ⊢
    simp at hy; simp [hy]
  rw [List.set_append_right _ _ (by omega), e, Nat.sub_self, drop_cons_getD H 0 hi, List.set_cons_zero, e2, List.append_assoc]; rfl
end Go.Cor
namespace Go.Proofs.Ytkbcmblgieoleaa
open Go.RowKit Go.Cor Go.Free

/-- a row and an error, as a value -/
def UnpF (B : Nat) (us : List Int) (er : Int) : Fact := fun v w => ∃ A m c, v = .tuple #[.slice A m c, .int .i64 er] ∧ Owns w B 32 .u64 A m c us
theorem UnpF.stable (B : Nat) (us : List Int) (er : Int) : Stable (UnpF B us er) := fun _ _ _ ⟨A, m, c, e, h⟩ hb => ⟨A, m, c, e, Owns.below h hb⟩
/-- bytes of the cursor, as a value; it stands behind them -/
def BytF (B p : Nat) (A : Option Addr) (n c : Nat) (xs : List Int) (at_ : Nat) (ys : List Int) : Fact := fun v w => OwF B 5 .u8 ys v w ∧ Cur w p A n c xs at_
theorem BytF.stable (B p : Nat) (A : Option Addr) (n c : Nat) (xs : List Int) (at_ : Nat) (ys : List Int) : Stable (BytF B p A n c xs at_ ys) := fun _ _ _ h hb => ⟨OwF.stable _ _ _ _ _ _ _ h.1 hb, h.2.below hb⟩
theorem pmust_ok (A : Option Addr) (n c : Nat) (w : World) : Calls Try.prog 67 #[.slice A n c, .int .i64 0] w fun e w' => e = .returned (.slice A n c) ∧ w = w' := by
  go_enter Try.func67, Try.ntmps67
  go_wp2_with fail
  refine (throw_ok w).mono ?_
  rintro e w' ⟨rfl, rfl⟩
  go_wp2
  go_ret
  exact ⟨rfl, rfl⟩
theorem pmust_err (A : Option Addr) (n c : Nat) (er : Int) (w : World) (h : er ≠ 0) : Calls Try.prog 67 #[.slice A n c, .int .i64 er] w fun e w' => e = Thr er ∧ w = w' := by
  go_enter Try.func67, Try.ntmps67
  go_wp2_with fail
  refine (throw_any er w h).mono ?_
  rintro e w' ⟨rfl, rfl⟩
  exact ⟨rfl, rfl, rfl⟩

set_option maxRecDepth 100000 in
set_option maxHeartbeats 8000000 in
theorem fdec1 {w : World} {p bN : Nat} {A : Option Addr} {n c : Nat} {xs : List Int} {N : Nat} (h : Cur w p A n c xs 0) (hb : Box w bN 3 (.int .i64 N)) (hbp : bN ≠ p) (hN : N ≤ 1024) (hN0 : 0 < N) :
    Calls Try.prog 61 #[.pointer (some ⟨p, 0, none⟩), .pointer (some ⟨bN, 0, none⟩)] w (Dec p A n c xs w (frun N xs).1 (frun N xs).2.1 (frun N xs).2.2) := by
  have hlen := h.rd.len
  have hby := h.bytes
  have HL := Lib.hid (left_any h)
  by_cases h9 : n < 9
  · have hd : decide ((9 : Int) ≤ (n : Int)) = false := by simp; omega
    have HR := Lib.hid (show frun N xs = ([], 0, 1) by unfold frun; rw [if_pos (by omega)])
    clear h hb hlen hby
    go_enter Try.func61, Try.ntmps61
    go_wp2_with fail
    refine HL.out.mono ?_
    rintro e w2 ⟨rfl, kd, rfl⟩
    rw [Nat.sub_zero]
    go_wp2_with fail
    refine (check_false 1 _ (by decide)).mono ?_
    rintro e w3 ⟨rfl, rfl⟩
    exact ⟨rfl, .of_below (below_drewN (Below.refl _ _) _), .inr (by rw [HR.out]; exact ⟨by decide, rfl⟩)⟩
  have hd : decide ((9 : Int) ≤ (n : Int)) = true := by simp; omega
  have hx8 := hby (xs[8]?.getD 0) (by rw [List.getElem?_eq_getElem (by omega)]; exact List.getElem_mem _)
  obtain ⟨k, hk⟩ := Int.eq_ofNat_of_zero_le hx8.1
  have hn8 : num ((xs.drop 8).take 1) = (k : Int) := by
    have e1 : (xs.drop 8).take 1 = [xs[8]?.getD 0] := by
      rw [drop_cons_getD xs 0 (by omega)]; rfl
    rw [e1, hk]; simp [num]
  have hnf := num_bd (hby.take 8)
  rw [List.length_take, Nat.min_eq_left (by omega)] at hnf
  have h256 : (256 : Int) ^ 8 = 18446744073709551616 := by decide
  rw [h256] at hnf
  obtain ⟨f, hf⟩ : ∃ f, num (xs.take 8) = f := ⟨_, rfl⟩
  have hR : frun N xs = if 64 < k then ([], 0, 6) else if (fhighs N k (xs.drop 9)).2.2 ≠ 0 then ([], 0, (fhighs N k (xs.drop 9)).2.2)
      else if (unpk k N (xs.drop (9 + (fhighs N k (xs.drop 9)).2.1))).2 ≠ 0 then ([], 0, (unpk k N (xs.drop (9 + (fhighs N k (xs.drop 9)).2.1))).2)
      else (backs f (fjoin k (fhighs N k (xs.drop 9)).1 (unpk k N (xs.drop (9 + (fhighs N k (xs.drop 9)).2.1))).1), n, 0) := by
    unfold frun; rw [if_neg (by omega), hk, Int.toNat_natCast, hf, hlen]
  rw [hf] at hnf
  have hu64 := fun w (h : Cur w p A n c xs 0) => U64_ok h (by omega)
  rw [List.drop_zero, hf] at hu64
  have hu8 := fun w (h : Cur w p A n c xs 8) => U8_ok h (by omega)
  rw [hn8] at hu8
  have HU64 := Lib.hid hu64
  have HU8 := Lib.hid hu8
  have H := Lib.hid h
  have HBX := Lib.hid hb
  have hk255 : k ≤ 255 := by omega
  obtain ⟨hf0, hf1⟩ := hnf
  have ef : IntKind.i64.wrap f = w64 f := by unfold w64; exact wrapi64 f
  obtain ⟨R, hRe⟩ : ∃ R, frun N xs = R := ⟨_, rfl⟩
  rw [hRe] at hR ⊢
  have HRR := Lib.hid hR
  clear h hb hlen hby hx8 hk hn8 h256 hf hu64 hu8 hR hRe
  go_enter Try.func61, Try.ntmps61
  go_wp2_with fail
  refine HL.out.mono ?_
  rintro e w2 ⟨rfl, kd, rfl⟩
  rw [Nat.sub_zero]
  obtain ⟨w2, hw2⟩ : ∃ w2, w.drewN kd = w2 := ⟨_, rfl⟩
  have hb2 : Below w.heap.size w w2 := by rw [← hw2]; exact below_drewN (Below.refl _ _) _
  rw [hw2]
  have HB2 := Lib.hid hb2
  clear hb2 hw2
  go_wp2_with fail
  refine (check_true 1 _).mono ?_
  rintro e w3 ⟨rfl, rfl⟩
  go_wp2_with fail
  refine (HU64.out _ (H.out.below HB2.out)).mono ?_
  rintro e w3 ⟨rfl, hcu3, hm3⟩
  have HC3 := Lib.hid hcu3
  have HM3 := Lib.hid (Mod.trans (.of_below HB2.out) hm3)
  clear hcu3 hm3
  go_wp2_with fail
  refine (HU8.out _ HC3.out).mono ?_
  rintro e w4 ⟨rfl, hcu4, hm4⟩
  have HC4 := Lib.hid hcu4
  have HM4 := Lib.hid (Mod.trans HM3.out hm4)
  clear hcu4 hm4
  by_cases hk64 : 64 < k
  · have hd4 : decide ((k : Int) ≤ 64) = false := by simp; omega
    have HR := Lib.hid (show R = ([], 0, 6) by rw [HRR.out, if_pos hk64])
    go_wp2_with fail
    refine (check_false 6 _ (by decide)).mono ?_
    rintro e w5 ⟨rfl, rfl⟩
    exact ⟨rfl, HM4.out, .inr (by rw [HR.out]; exact ⟨by decide, rfl⟩)⟩
  have hR := HRR.out
  rw [if_neg hk64] at hR
  have hk2 : k ≤ 64 := by omega
  have hd4 : decide ((k : Int) ≤ 64) = true := by simp; omega
  have hhi := highs_any HC4.out N k hN hN0 hk2
  obtain ⟨r, hr⟩ : ∃ r, fhighs N k (xs.drop 9) = r := ⟨_, rfl⟩
  rw [show 0 + 8 + 1 = 9 from rfl, hr] at hhi
  rw [hr] at hR
  have HHI := Lib.hid hhi
  have HR := Lib.hid hR
  have HRE := Lib.hid hr
  have hcb4 : w4.cell? ⟨bN, 0, none⟩ = some (.int .i64 (N : Int)) := cell_of_one (HBX.out.keep HM4.out hbp)
  clear hhi hR hr
  go_wp2_with fail
  refine (check_true 6 _).mono ?_
  rintro e w5 ⟨rfl, rfl⟩
  go_wp2_with fail
  refine HHI.out.mono ?_
  rintro e w6 ⟨hm6, ⟨h0, ⟨A6, m6, c6, rfl, ho6⟩, hcu6⟩ | ⟨h0, rfl⟩⟩
  · have HM6 := Lib.hid (Mod.trans HM4.out hm6)
    have HC6 := Lib.hid hcu6
    have HO6 := Lib.hid (owns_weak ho6 HM4.out.size)
    have hR := HR.out
    rw [if_neg (by simp [h0])] at hR
    have HR2 := Lib.hid hR
    obtain ⟨q, hq⟩ : ∃ q, r.2.1 = q := ⟨_, rfl⟩
    rw [hq] at HC6 HR2
    have HQ := Lib.hid (And.intro hq h0)
    have hbx6 := HBX.out.keep HM6.out hbp
    have HBX6 := Lib.hid hbx6
    have hqn := HC6.out.le
    have hpl6 := HC6.out.lt
    have HBY6 := Lib.hid (bytes_ok HC6.out (n - (9 + q)) (Nat.le_refl _))
    have hbl6 := lt_of_block hbx6
    clear hcu6 hm6 ho6 hR hq h0 hcb4 hbx6
    go_wp2_with fail
    have hup := fun w A m c h hm => unpack_any A m c (xs.drop (9 + q)) k N w h (HC6.out.bytes.drop (9 + q)) hm hN hk2
    obtain ⟨u, hu⟩ : ∃ u, unpk k N (xs.drop (9 + q)) = u := ⟨_, rfl⟩
    rw [hu] at hup HR2
    obtain ⟨us, er⟩ := u
    have HUP := Lib.hid hup
    have HU := Lib.hid hu
    clear hup hu
    refine Go.Free.M.wp_region_freeS (T := (fun j => j = p)) 9 3 (fun k => false) (by kernel_rfl) (by kernel_rfl) (by kernel_rfl) (by decide) rfl ?_
    refine Go.Free.M.chainS_hard (Go.Free.M.step_val (B := true) (.pointer (some ⟨p, 0, none⟩)) (S := [0]) rfl ?_) (by kernel_rfl) (by decide) rfl (Go.Free.M.hard_eq _ _ _) ?_
    · intro ρ w' hE hB hs
      have hB : Below _ _ _ := hB
      have h0 : ρ (.tmp 0) = .pointer (some ⟨p, 0, none⟩) := hs 0 (by decide)
      clear hs
      refine if_t (by rfl) ?_
      (go_simp <;> exact wrapi64_in _ (by omega) (by omega))
    refine Go.Free.M.chainS_hard (Go.Free.M.step_val (B := true) (.pointer (some ⟨p, 0, none⟩)) (S := [0]) rfl ?_) (by kernel_rfl) (by decide) rfl (Go.Free.M.hard_eq _ _ _) ?_
    · intro ρ w' hE hB hs
      have hB : Below _ _ _ := hB
      have h0 : ρ (.tmp 0) = .pointer (some ⟨p, 0, none⟩) := hs 0 (by decide)
      clear hs
      refine if_t (by rfl) ?_
      (go_simp <;> exact wrapi64_in _ (by omega) (by omega))
    refine Go.Free.M.chainS_hard (Go.Free.M.step_static (B := true) (fun v__ _ => v__ = .int .i64 ((n - (9 + q) : Nat) : Int)) (stable_eq _) (S := [28]) rfl (Go.Cor.enters_f Try.func63 (by kernel_rfl) rfl) rfl ?_) (by kernel_rfl) (by decide) rfl (Go.Free.M.hard_eq _ _ _) ?_
    · intro ρ w' hE hB hs
      have hB : Below _ _ _ := hB
      have h28 : ρ (.tmp 28) = .pointer (some ⟨p, 0, none⟩) := hs 28 (by decide)
      clear hs
      refine ⟨(by rfl), ?_⟩
      simp only [List.map_toArray, List.map_cons, List.map_nil, h28]
      refine (left_any (HC6.out.below hB)).mono ?_
      rintro e w3 ⟨rfl, kd, rfl⟩
      exact ⟨_, rfl, below_drewN (Below.refl _ _) _, rfl⟩
    refine Go.Free.M.chainS_sp (BytF w6.heap.size p A n c xs n (xs.drop (9 + q))) (BytF.stable _ _ _ _ _ _ _ _) (S := [27, 29]) rfl (Go.Cor.enters_f Try.func69 (by kernel_rfl) rfl) rfl rfl ?_ ?_
    · intro ρ w' hE hB hs
      have h27 : ρ (.tmp 27) = .pointer (some ⟨p, 0, none⟩) := hs 27 (by decide)
      have h29 : ρ (.tmp 29) = .int .i64 ((n - (9 + q) : Nat) : Int) := hs 29 (by decide)
      clear hs
      refine ⟨(by rfl), ?_⟩
      simp only [List.map_toArray, List.map_cons, List.map_nil, h27, h29]
      refine (bytes_ok (HC6.out.below hB) (n - (9 + q)) (Nat.le_refl _)).mono ?_
      rintro e w3 ⟨⟨A', c', rfl, ho⟩, hcu, hm⟩
      rw [List.take_of_length_le (by rw [List.length_drop, HC6.out.rd.len]; exact Nat.le_refl _)] at ho
      rw [show 9 + q + (n - (9 + q)) = n by omega] at hcu
      exact .inl ⟨_, rfl, hm, ⟨A', _, c', rfl, owns_weak ho hB.size⟩, hcu⟩
    refine Go.Free.M.chainS_hard (Go.Free.M.step_val (B := false) (.int .i64 k) (S := [5]) rfl ?_) (by kernel_rfl) (by decide) rfl (Go.Free.M.hard_eq _ _ _) ?_
    · intro ρ w' hE hB hs
      have hB : Go.Cor.Mod _ _ _ := hB
      have h5 : ρ (.tmp 5) = .int .i64 k := hs 5 (by decide)
      clear hs
      refine if_t (by rfl) ?_
      (go_simp <;> exact wrapi64_in _ (by omega) (by omega))
    refine Go.Free.M.chainS_hard (Go.Free.M.step_val (B := false) (.int .i64 (N : Int)) (S := [1]) rfl ?_) (by kernel_rfl) (by decide) rfl (Go.Free.M.hard_eq _ _ _) ?_
    · intro ρ w' hE hB hs
      have hB : Go.Cor.Mod _ _ _ := hB
      have h1 : ρ (.tmp 1) = .pointer (some ⟨bN, 0, none⟩) := hs 1 (by decide)
      clear hs
      refine if_t (by rfl) ?_
      have hcl := cell_of_one (HBX6.out.keep hB hbp)
      go_simp
    refine Go.Free.M.chainS_late (Go.Free.M.step_static (B := false) (UnpF w6.heap.size us er) (UnpF.stable _ _ _) (S := [30, 31, 32]) rfl (Go.Cor.enters_f Try.func68 (by kernel_rfl) rfl) rfl ?_) (by kernel_rfl) (by decide) rfl (by kernel_rfl) ?_
    · intro ρ w' hE hB hs
      have hB : Go.Cor.Mod _ _ _ := hB
      have h30 : (BytF w6.heap.size p A n c xs n (xs.drop (9 + q))) (ρ (.tmp 30)) w' := hs 30 (by decide)
      have h31 : ρ (.tmp 31) = .int .i64 k := hs 31 (by decide)
      have h32 : ρ (.tmp 32) = .int .i64 (N : Int) := hs 32 (by decide)
      clear hs
      refine ⟨(by rfl), ?_⟩
      simp only [List.map_toArray, List.map_cons, List.map_nil, h31, h32]
      obtain ⟨⟨A30, n30, c30, e30, r30⟩, hcu⟩ := h30
      rw [e30]
      refine (HUP.out _ _ _ _ (Rd.own r30) (by have hl := row_len r30; rw [List.length_drop, HC6.out.rd.len] at hl; have := HC6.out.small; omega)).mono ?_
      rintro e w3 ⟨A', n', c', rfl, ho, hb⟩
      exact ⟨_, rfl, hb, A', n', c', rfl, owns_weak ho hB.size⟩
    refine Go.Free.M.chainS_late (Go.Free.M.step_fact (B := false) (OwF w6.heap.size 32 .u64 us) (OwF.stable _ _ _ _) (S := [33]) rfl ?_) (by kernel_rfl) (by decide) rfl (by kernel_rfl) ?_
    · intro ρ w' hE hB hs
      have hB : Go.Cor.Mod _ _ _ := hB
      have h33 : (UnpF w6.heap.size us er) (ρ (.tmp 33)) w' := hs 33 (by decide)
      clear hs
      refine if_t (by rfl) ?_
      obtain ⟨A', m', c', e33, ho⟩ := h33
      exact ⟨.slice A' m' c', by go_simp, A', m', c', rfl, ho⟩
    refine Go.Free.M.chainS_hard (Go.Free.M.step_val (B := false) (.int .i64 er) (S := [33]) rfl ?_) (by kernel_rfl) (by decide) rfl (Go.Free.M.hard_eq _ _ _) ?_
    · intro ρ w' hE hB hs
      have hB : Go.Cor.Mod _ _ _ := hB
      have h33 : (UnpF w6.heap.size us er) (ρ (.tmp 33)) w' := hs 33 (by decide)
      clear hs
      refine if_t (by rfl) ?_
      obtain ⟨A', m', c', e33, ho⟩ := h33
      go_simp
    intro w1 hB1
    simp only [List.reverse_cons, List.reverse_nil, List.nil_append, List.cons_append, Go.Free.Ends, forall_eq, Act.put, List.setIfInBounds_toArray, List.set_cons_zero, List.set_cons_succ]
    rintro _ ⟨_, hcu⟩ _ _ _ ⟨A7, m7, c7, rfl, ho7⟩
    have HC7 := Lib.hid hcu
    have HM7 := Lib.hid (Mod.trans HM6.out hB1)
    have HO7 := Lib.hid ho7
    have HO6' := Lib.hid (owns_keep HO6.out hB1 fun g hg _ => by have h1 := (HO6.out.lt g hg).1; have h2 := H.out.lt; show ¬ g = p; omega)
    have HS7 := Lib.hid hB1.size
    clear hcu ho7 hB1
    by_cases he : er = 0
    · subst he
      have hfo := fhighs_ok (n := N) (k := k) (b := xs.drop 9) (by rw [HRE.out]; exact HQ.out.2)
      have huo := unpk_ok (k := k) (n := N) (b := xs.drop (9 + q)) (by rw [HU.out])
      rw [HRE.out] at hfo
      rw [HU.out] at huo
      obtain ⟨Hs, hHs⟩ : ∃ Hs, r.1 = Hs := ⟨_, rfl⟩
      have hR := HR2.out
      rw [if_neg (by simp)] at hR
      rw [hHs] at hfo hR
      have ho6 := HO6'.out
      rw [hHs] at ho6
      obtain rfl : m6 = N := by have q1 := row_len ho6; omega
      obtain rfl : m7 = m6 := by have q1 := row_len HO7.out; have := huo.1; simp only at this; omega
      have HR3 := Lib.hid hR
      have HOK := Lib.hid (And.intro hfo huo)
      have HO8 := Lib.hid ho6
      have hN7 := Lib.hid (show ∀ b o', A7 = some ⟨b, o', none⟩ → w6.heap.size ≤ b from fun b o' e => by subst e; exact (HO7.out.lt b rfl).1)
      clear hfo huo hR ho6 hHs
      go_wp2_with fail
      refine (pmust_ok _ _ _ _).mono ?_
      rintro e w8 ⟨rfl, rfl⟩
      go_wp2_with fail
      have hC7 := HC7.out
      have hM7 := HM7.out
      have hO8 := HO8.out
      have hO7 := HO7.out
      clear HC7 HM7 HO8 HO7 HO6' HS7 HUP HHI HU64 HU8 HL HRR HR HR2 HQ HBY6
      go_loopg [39] m7 (fun gg v39 wr => ∃ i : Nat, v39 = .int .i64 i ∧ i ≤ m7 ∧ gg = m7 - i ∧ Hid (Owns wr w.heap.size 32 .u64 A6 m7 c6 ((fjoin k Hs us).take i ++ Hs.drop i) ∧ Rd wr .u64 A7 m7 c7 us ∧ Cur wr p A n c xs n ∧ Mod (· = p) w wr))
      case atStart => exact ⟨0, rfl, by omega, by omega, Lib.hid ⟨by simpa using hO8, Rd.own hO7, hC7, hM7⟩⟩
      case round =>
        obtain ⟨i, rfl, hi, rfl, hI⟩ := hrel
        obtain ⟨wo, rfl⟩ : ∃ wo, wo = wr := ⟨_, rfl⟩
        by_cases hlt : i < m7
        · have hdi : decide (i < m7) = true := by simp; omega
          have hHs := HOK.out.1.1
          have hus := HOK.out.2.1
          have hJ := fjoin_len k Hs us
          obtain ⟨J, hJe⟩ : ∃ J, fjoin k Hs us = J := ⟨_, rfl⟩
          have hJg := fjoin_get k Hs us (i := i) (by omega)
          rw [hJe] at hJ hJg hI
          obtain ⟨g, hg⟩ := Int.eq_ofNat_of_zero_le ((HOK.out.1.2 (Hs[i]?.getD 0) (by rw [List.getElem?_eq_getElem (by omega)]; exact List.getElem_mem _)).1)
          obtain ⟨x, hx⟩ := Int.eq_ofNat_of_zero_le ((HOK.out.2.2 (us[i]?.getD 0) (by rw [List.getElem?_eq_getElem (by omega)]; exact List.getElem_mem _)).1)
          have hg2 := (HOK.out.1.2 (Hs[i]?.getD 0) (by rw [List.getElem?_eq_getElem (by omega)]; exact List.getElem_mem _)).2
          have hx2 := (HOK.out.2.2 (us[i]?.getD 0) (by rw [List.getElem?_eq_getElem (by omega)]; exact List.getElem_mem _)).2
          rw [hg, Int.toNat_natCast] at hg2
          rw [hx] at hx2
          have hx3 : x < 2 ^ k := by exact_mod_cast hx2
          have hgx := or_room hk2 hg2 hx3
          rw [hg, hx] at hJg
          obtain ⟨g', c', hv4, hBg, hgl, hcell, hfr, hset⟩ := owns_put (i := i) (y := ((g * 2 ^ k + x : Nat) : Int)) hI.out.1 hlt
          injection hv4 with hA hk4 hc4
          subst hc4
          rw [mix_get (by omega) (by omega), List.getElem?_eq_getElem (by omega)] at hcell
          rw [List.getElem?_eq_getElem (by omega)] at hg
          simp only [Option.getD_some] at hg
          rw [hg, Option.map_some] at hcell
          obtain ⟨b7, o7, e7, hbl7, hc7⟩ := hI.out.2.1.get (by omega)
          have hcell7 := hc7 i hlt
          rw [List.getD_eq_getElem?_getD, hx] at hcell7
          have hor := or_high g x k hx3 hgx
          have hwr := wrap_room hgx
          rw [room_cast] at hJg
          have HG := Lib.hid (And.intro hgx hJg)
          have HS := Lib.hid hset
          have HL := Lib.hid (And.intro hHs (And.intro hus hJ))
          have h7 := hN7.out b7 o7 e7
          have h6 := (HO6.out.lt g' (by rw [hA]; rfl)).2
          clear hg hx hHs hus hg2 hx2 hx3 hgx hset hk4 hc7 hN7 HO6
          subst hA e7
          go_wp2
          go_roundg (m7 - (i + 1))
          case measure => omega
          case rel =>
            have hmp := Mod.put hI.out.2.2.2 (a := ⟨g', i, none⟩) hBg (.int .u64 ((g * 2 ^ k + x : Nat) : Int))
            rw [← room_cast] at hmp
            have hs := HS.out
            rw [mix_set (by have := HL.out; omega) (by have := HL.out; omega) HG.out.2, ← room_cast, ← hJe] at hs
            have hgp : p ≠ g' := by have := H.out.lt; have := hBg; omega
            refine ⟨i + 1, by go_num, by omega, rfl, Lib.hid ⟨hs, hI.out.2.1.setCell (fun b o e => ?_) _, H.out.of_mod hmp ((Below.heap_setCell _ _ _ _ (by show p ≠ g'; exact hgp)).trans hI.out.2.2.1.blk) hI.out.2.2.1.le, hmp⟩⟩
            injection e with e
            injection e with e1 e2
            show b ≠ g'
            omega
        · obtain rfl : i = m7 := by omega
          have hdi : decide (i < i) = false := by simp
          have hrd := hI.out.1
          have hl := HOK.out.1.1
          have hl2 := HOK.out.2.1
          rw [List.drop_of_length_le (by omega), List.append_nil, List.take_of_length_le (by rw [fjoin_len]; omega)] at hrd
          have HRD := Lib.hid hrd
          clear hrd hl hl2
          go_wp2_with fail
          refine (back_any _ _ _ _ _ _ (Rd.own HRD.out) (by omega)).mono ?_
          rintro e w9 ⟨A9, n9, c9, rfl, ho9, hb9⟩
          go_wp2
          go_ret
          rw [HR3.out]
          refine ⟨hI.out.2.2.2.trans (.of_below hb9), .inl ⟨rfl, ⟨A9, n9, c9, rfl, ?_⟩, hI.out.2.2.1.below hb9⟩⟩
          rw [← backs_w64]
          exact owns_weak ho9 hI.out.2.2.2.size
    · have hR := HR2.out
      rw [if_pos (by simpa using he)] at hR
      have HR3 := Lib.hid hR
      have HE := Lib.hid he
      clear hR he
      go_wp2_with fail
      refine (pmust_err _ _ _ _ _ HE.out).mono ?_
      rintro e w8 ⟨rfl, rfl⟩
      exact ⟨rfl, HM7.out, .inr (by rw [HR3.out]; exact ⟨HE.out, rfl⟩)⟩
  · have hR := HR.out
    rw [if_pos h0] at hR
    exact ⟨rfl, Mod.trans HM4.out hm6, .inr (by rw [hR]; exact ⟨h0, rfl⟩)⟩
end Go.Proofs.Ytkbcmblgieoleaa

namespace Go.Proofs.Ytkbcmblgieoleaa
open Go.RowKit Go.Cor Go.Free

set_option maxRecDepth 100000 in
set_option maxHeartbeats 2000000 in
theorem fDecode_any (w : World) (A : Option Addr) (n c : Nat) (ys : List Int) (N : Int) (h : Rd w .u8 A n c ys) (hby : By ys) (hn : n ≤ 100000) :
    Calls Try.prog 25 #[.agg #[], .slice A n c, .int .i64 N] w (DecG w.heap.size w fdec ys N) := by
  have hmf : ∀ (fn : Fn) (first cap : Array Value) (w : World), (Instr.makeFunc fn first cap).run Try.prog w = .ok (.func fn first cap) w := fun _ _ _ _ => rfl
  obtain ⟨w2, hw2⟩ : ∃ w2, (w.alloc (.cells #[] 24)).alloc (.cells #[.int .i64 N] 3) = w2 := ⟨_, rfl⟩
  have hb2 : Below w.heap.size w w2 := by rw [← hw2]; exact ((Below.refl _ _).alloc (Nat.le_refl _) _).alloc (by simp) _
  have hbx : Box w2 (w.heap.size + 1) 3 (.int .i64 N) := by rw [← hw2]; have := Box.new (w.alloc (.cells #[] 24)) 3 (.int .i64 N); rwa [World.size_alloc] at this
  have hs2 : w2.heap.size = w.heap.size + 2 := by rw [← hw2]; simp
  have hcell := cell_of_one hbx
  have eg1 : ∀ args w, (callFunc 61 args).run Try.prog w = .ok (.enter 61 args) w := enters_f Try.func61 (by kernel_rfl) rfl
  have hrd := read_any w2 A n c ys (h.below hb2) hn hby N 61 #[.pointer (some ⟨w.heap.size + 1, 0, none⟩)] (frun N.toNat ys).1 (frun N.toNat ys).2.1 (frun N.toNat ys).2.2 eg1
    (fun hbk w4 p A1 c1 hb4 hcu hp => by
      have hN := of_decide_eq_true hbk
      obtain ⟨M, rfl⟩ := Int.eq_ofNat_of_zero_le (show 0 ≤ N by omega)
      exact fdec1 hcu (hbx.below hb4 (by omega)) (by omega) (by omega) (by omega))
  have HP := Lib.hid (show fdec ys N = (rlist N n (frun N.toNat ys).2.1 (frun N.toNat ys).2.2 (frun N.toNat ys).1, rerr N n (frun N.toNat ys).2.1 (frun N.toNat ys).2.2) by unfold fdec decOf; rw [h.len])
  have HR := Lib.hid hrd
  have HB2 := Lib.hid hb2
  clear h hby hn hb2 hbx hs2 eg1 hrd
  go_enter Try.func25, Try.ntmps25
  go_wp2_with fail
  refine HR.out.mono ?_
  rintro e w5 ⟨A', m, c', rfl, hown, hb5⟩
  have HO := Lib.hid (owns_weak hown HB2.out.size)
  have HB5 := Lib.hid (HB2.out.trans (hb5.mono HB2.out.size))
  clear hown hb5
  go_wp2
  go_ret2
  exact ⟨A', m, c', by rw [HP.out]; rfl, by rw [HP.out]; exact HO.out, HB5.out⟩
theorem pforD : Decer 24 25 fdec :=
  ⟨mf_decode, mf_ahead, enters_f Try.func25 (by kernel_rfl) rfl, fun w A n c ys N h hb hn => fDecode_any w A n c ys N h hb hn⟩
end Go.Proofs.Ytkbcmblgieoleaa

namespace Go.Proofs.Ytkbcmblgieoleaa
open Go.RowKit Go.Cor Go.Free

theorem fName_any (w : World) : Calls Try.prog 31 #[.agg #[]] w fun e w' => e = .returned (.string ⟨#[112, 102, 111, 114]⟩) ∧ Below w.heap.size w w' := by
  go_enter Try.func31, Try.ntmps31
  go_wp2
  go_ret
  exact ⟨rfl, (Below.refl _ _).alloc (Nat.le_refl _) _⟩

set_option maxRecDepth 100000 in
set_option maxHeartbeats 2000000 in
theorem awake11 (w : World) : Calls Try.prog 14 #[] w fun e w' => e = .returned (.bool true) ∧ Below w.heap.size w w' := by
  have he := pforE.c _ _ 3 3 [7, 7, 7] (Rd.lit w 2 .i64 [7, 7, 7]) (by intro x hx; simp at hx; subst hx; exact ⟨by decide, by decide⟩) (by decide)
  unfold EncG at he
  rw [show wrg tkAll [7, 7, 7] = 0 by decide +kernel, show tak tkAll [7, 7, 7] = true by decide +kernel, if_pos rfl] at he
  have HE := Lib.hid he
  have E1 := Lib.hid (show strOfNums (fform [7, 7, 7]) = ⟨#[7, 0, 0, 0, 0, 0, 0, 0, 0, 0]⟩ by decide +kernel)
  clear he
  go_enter Try.func14, Try.ntmps14
  go_wp2_with fail
  refine HE.out.mono ?_
  rintro e w1 ⟨A1, m1, c1, rfl, hown, hb1⟩
  have HO1 := Lib.hid (Rd.own hown)
  have HB1 := Lib.hid (((Below.refl w.heap.size w).alloc (Nat.le_refl _) _).trans (hb1.mono (by simp)))
  clear hown hb1
  have hcv1 := conv_bytes (HO1.out.alloc (.cells #[.int .u8 7, .int .u8 0, .int .u8 0, .int .u8 0, .int .u8 0, .int .u8 0, .int .u8 0, .int .u8 0, .int .u8 0, .int .u8 0] 5)) 30 5 9 Try.underlying30 Try.underlying5 Try.underlying9
  have hcv0 := conv_bytes HO1.out 30 5 9 Try.underlying30 Try.underlying5 Try.underlying9
  rw [E1.out] at hcv1 hcv0
  have hcv2 := conv_bytes (Rd.lit w1 5 .u8 [7, 0, 0, 0, 0, 0, 0, 0, 0, 0]) 30 5 9 Try.underlying30 Try.underlying5 Try.underlying9
  rw [show strOfNums [7, 0, 0, 0, 0, 0, 0, 0, 0, 0] = ⟨#[7, 0, 0, 0, 0, 0, 0, 0, 0, 0]⟩ by decide +kernel] at hcv2
  simp only [List.map_cons, List.map_nil, List.length_cons, List.length_nil] at hcv2
  go_wp2
  go_ret
  exact ⟨rfl, HB1.out.alloc HB1.out.size _⟩
end Go.Proofs.Ytkbcmblgieoleaa
