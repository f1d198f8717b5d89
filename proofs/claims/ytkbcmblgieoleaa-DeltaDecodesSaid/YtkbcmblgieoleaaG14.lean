/-
  The next number of short bytes.
  Chapter 12: the next short number.
-/
import Derived.Test.YtkbcmblgieoleaaG9
import Derived.Test.YtkbcmblgieoleaaG12
import Derived.Test.YtkbcmblgieoleaaG13
namespace Go.Cor
open Go
/-- what 'next' reads -/
def NextP (T : TypeId) (p : Nat) (A : Option Addr) (n c : Nat) (xs : List Int) (at_ : Nat) (w : World) (e : Ending) (w' : World) (Th : Int → Ending) : Prop :=
  Mod (· = p) w w' ∧ (((vget 0 (xs.drop at_)).2.2 = 0 ∧ e = .returned (.int .u64 (vget 0 (xs.drop at_)).1) ∧ Cu w' T p A n c xs (at_ + (vget 0 (xs.drop at_)).2.1.toNat)) ∨ ((vget 0 (xs.drop at_)).2.2 ≠ 0 ∧ e = Th (vget 0 (xs.drop at_)).2.2))
end Go.Cor
namespace Go.Proofs.Ytkbcmblgieoleaa
open Go.RowKit Go.Cor Go.Free

set_option maxRecDepth 100000 in
set_option maxHeartbeats 1000000 in
theorem pnext_any {w : World} {p : Nat} {A : Option Addr} {n c : Nat} {xs : List Int} {at_ : Nat} (h : Cur w p A n c xs at_) :
    Calls Try.prog 109 #[.pointer (some ⟨p, 0, none⟩)] w fun e w' => NextP 130 p A n c xs at_ w e w' Thr := by
  have hby := h.bytes.drop at_
  have hlen := h.rd.len
  have hle := h.le
  have HP := Lib.hid (peek_any h)
  have H := Lib.hid h
  obtain ⟨g, hg⟩ : ∃ g, vget 0 (xs.drop at_) = g := ⟨_, rfl⟩
  have hgb : g.2.2 = 0 → g.2.1.toNat ≤ n - at_ ∧ ((g.2.1.toNat : Nat) : Int) = g.2.1 := by
    intro h0
    have := zrun_get hby (by rw [hg]; exact h0)
    rw [hg, List.length_drop, hlen] at this
    exact ⟨this.2.1, this.2.2.1⟩
  have hget := fun w A n c h => get_any A n c (xs.drop at_) w h hby
  rw [hg] at hget
  have HG := Lib.hid hg
  have HGET := Lib.hid hget
  have HGB := Lib.hid hgb
  clear h hby hlen hle hget hg hgb
  obtain ⟨v, m, er⟩ := g
  by_cases he : er = 0
  · subst he
    obtain ⟨hm1, hm2⟩ := HGB.out rfl
    go_enter Try.func109, Try.ntmps109
    go_wp2_with fail
    refine HP.out.mono ?_
    rintro e w1 ⟨A1, n1, c1, rfl, hown, hb1⟩
    have HB1 := Lib.hid hb1
    have HO := Lib.hid (Rd.own hown)
    clear hown hb1
    go_wp2_with fail
    refine (HGET.out w1 A1 n1 c1 HO.out).mono ?_
    rintro e w' ⟨rfl, rfl⟩
    go_wp2_with fail
    refine (throw_ok w1).mono ?_
    rintro e w' ⟨rfl, rfl⟩
    have hbk := bytes_ok (H.out.below HB1.out) m.toNat hm1
    try simp only at hm2
    rw [hm2] at hbk
    have HBK := Lib.hid hbk
    clear hbk
    go_wp2_with fail
    refine HBK.out.mono ?_
    rintro e w2 ⟨⟨A2, c2, rfl, _⟩, hcu, hm⟩
    have HC := Lib.hid hcu
    have HM := Lib.hid (Mod.trans (.of_below HB1.out) hm)
    clear hcu hm
    go_wp2
    go_ret
    exact ⟨HM.out, .inl (by rw [HG.out]; exact ⟨rfl, rfl, HC.out⟩)⟩
  · go_enter Try.func109, Try.ntmps109
    go_wp2_with fail
    refine HP.out.mono ?_
    rintro e w1 ⟨A1, n1, c1, rfl, hown, hb1⟩
    have HB1 := Lib.hid hb1
    have HO := Lib.hid (Rd.own hown)
    clear hown hb1
    go_wp2_with fail
    refine (HGET.out w1 A1 n1 c1 HO.out).mono ?_
    rintro e w' ⟨rfl, rfl⟩
    go_wp2_with fail
    refine (throw_any er w1 he).mono ?_
    rintro e w' ⟨rfl, rfl⟩
    exact ⟨rfl, .of_below HB1.out, .inr (by rw [HG.out]; exact ⟨he, rfl⟩)⟩
end Go.Proofs.Ytkbcmblgieoleaa

namespace Go.Cor
open Go
/-- what 'short' reads -/
def NextZ (T : TypeId) (p : Nat) (A : Option Addr) (n c : Nat) (xs : List Int) (at_ : Nat) (w : World) (e : Ending) (w' : World) (Th : Int → Ending) : Prop :=
  Mod (· = p) w w' ∧ (((vget 0 (xs.drop at_)).2.2 = 0 ∧ e = .returned (.int .i64 (zag (vget 0 (xs.drop at_)).1)) ∧ Cu w' T p A n c xs (at_ + (vget 0 (xs.drop at_)).2.1.toNat)) ∨ ((vget 0 (xs.drop at_)).2.2 ≠ 0 ∧ e = Th (vget 0 (xs.drop at_)).2.2))
end Go.Cor
namespace Go.Proofs.Ytkbcmblgieoleaa
open Go.RowKit Go.Cor Go.Free

set_option maxRecDepth 100000 in
set_option maxHeartbeats 1000000 in
theorem dnext_any {w : World} {p : Nat} {A : Option Addr} {n c : Nat} {xs : List Int} {at_ : Nat} (h : Cur w p A n c xs at_) :
    Calls Try.prog 47 #[.pointer (some ⟨p, 0, none⟩)] w fun e w' => NextZ 130 p A n c xs at_ w e w' Thr := by
  have hby := h.bytes.drop at_
  have hlen := h.rd.len
  have hle := h.le
  have HP := Lib.hid (peek_any h)
  have H := Lib.hid h
  obtain ⟨g, hg⟩ : ∃ g, vget 0 (xs.drop at_) = g := ⟨_, rfl⟩
  have hgb : g.2.2 = 0 → (g.2.1.toNat ≤ n - at_ ∧ ((g.2.1.toNat : Nat) : Int) = g.2.1) ∧ 0 ≤ g.1 ∧ g.1 ≤ 18446744073709551615 := by
    intro h0
    have := zrun_get hby (by rw [hg]; exact h0)
    rw [hg, List.length_drop, hlen] at this
    exact ⟨⟨this.2.1, this.2.2.1⟩, this.2.2.2⟩
  have hget := fun w A n c h => get_any A n c (xs.drop at_) w h hby
  rw [hg] at hget
  have HG := Lib.hid hg
  have HGET := Lib.hid hget
  have HGB := Lib.hid hgb
  clear h hby hlen hle hget hg hgb
  obtain ⟨v, m, er⟩ := g
  by_cases he : er = 0
  · subst he
    obtain ⟨⟨hm1, hm2⟩, hv0, hv1⟩ := HGB.out rfl
    simp only at hv0 hv1
    go_enter Try.func47, Try.ntmps47
    go_wp2_with fail
    refine HP.out.mono ?_
    rintro e w1 ⟨A1, n1, c1, rfl, hown, hb1⟩
    have HB1 := Lib.hid hb1
    have HO := Lib.hid (Rd.own hown)
    clear hown hb1
    go_wp2_with fail
    refine (HGET.out w1 A1 n1 c1 HO.out).mono ?_
    rintro e w' ⟨rfl, rfl⟩
    go_wp2_with fail
    refine (throw_ok w1).mono ?_
    rintro e w' ⟨rfl, rfl⟩
    have hbk := bytes_ok (H.out.below HB1.out) m.toNat hm1
    try simp only at hm2
    rw [hm2] at hbk
    have HBK := Lib.hid hbk
    clear hbk
    go_wp2_with fail
    refine HBK.out.mono ?_
    rintro e w2 ⟨⟨A2, c2, rfl, _⟩, hcu, hm⟩
    have HC := Lib.hid hcu
    have HM := Lib.hid (Mod.trans (.of_below HB1.out) hm)
    have HZA := Lib.hid (fun w => zag_any v w hv0 hv1)
    clear hcu hm
    go_wp2_with fail
    refine (HZA.out _).mono ?_
    rintro e w3 ⟨rfl, rfl⟩
    go_wp2
    go_ret
    exact ⟨HM.out, .inl (by rw [HG.out]; exact ⟨rfl, rfl, HC.out⟩)⟩
  · go_enter Try.func47, Try.ntmps47
    go_wp2_with fail
    refine HP.out.mono ?_
    rintro e w1 ⟨A1, n1, c1, rfl, hown, hb1⟩
    have HB1 := Lib.hid hb1
    have HO := Lib.hid (Rd.own hown)
    clear hown hb1
    go_wp2_with fail
    refine (HGET.out w1 A1 n1 c1 HO.out).mono ?_
    rintro e w' ⟨rfl, rfl⟩
    go_wp2_with fail
    refine (throw_any er w1 he).mono ?_
    rintro e w' ⟨rfl, rfl⟩
    exact ⟨rfl, .of_below HB1.out, .inr (by rw [HG.out]; exact ⟨he, rfl⟩)⟩
end Go.Proofs.Ytkbcmblgieoleaa
