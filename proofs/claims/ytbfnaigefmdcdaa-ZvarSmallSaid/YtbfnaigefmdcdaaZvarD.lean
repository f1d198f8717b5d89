/-
  Chapter 8: decoding; the reference.
-/
import Derived.Test.YtbfnaigefmdcdaaZvar
import Derived.Test.YtbfnaigefmdcdaaVarR
import Derived.Test.YtbfnaigefmdcdaaPlainG
namespace Go.Cor
open Go
/-- what 'next' reads -/
def NextP (T : TypeId) (p : Nat) (A : Option Addr) (n c : Nat) (xs : List Int) (at_ : Nat) (w : World) (e : Ending) (w' : World) (Th : Int → Ending) : Prop :=
  Mod (· = p) w w' ∧ (((vget 0 (xs.drop at_)).2.2 = 0 ∧ e = .returned (.int .u64 (vget 0 (xs.drop at_)).1) ∧ Cu w' T p A n c xs (at_ + (vget 0 (xs.drop at_)).2.1.toNat)) ∨ ((vget 0 (xs.drop at_)).2.2 ≠ 0 ∧ e = Th (vget 0 (xs.drop at_)).2.2))
end Go.Cor
namespace Go.Proofs.Ytbfnaigefmdcdaa
open Go.RowKit Go.Cor Go.Free

set_option maxRecDepth 100000 in
set_option maxHeartbeats 1000000 in
theorem znext_any {w : World} {p : Nat} {A : Option Addr} {n c : Nat} {xs : List Int} {at_ : Nat} (h : Cur w p A n c xs at_) :
    Calls Try.prog 42 #[.pointer (some ⟨p, 0, none⟩)] w fun e w' => NextP 104 p A n c xs at_ w e w' Thr := by
  have hby := h.bytes.drop at_
  have hlen := h.rd.len
  have hle := h.le
  have HP := Lib.hid (peek_any h)
  have H := Lib.hid h
  obtain ⟨g, hg⟩ : ∃ g, vget 0 (xs.drop at_) = g := ⟨_, rfl⟩
  have hgb : g.2.2 = 0 → g.2.1.toNat ≤ n - at_ ∧ ((g.2.1.toNat : Nat) : Int) = g.2.1 := by
    intro h0
    have := zrun_get hby (by rw [hg]; exact h0)
    rw [hg, List.length_drop, hlen] at this
    exact ⟨this.2.1, this.2.2.1⟩
  have hget := fun w A n c h => get_any A n c (xs.drop at_) w h hby
  rw [hg] at hget
  have HG := Lib.hid hg
  have HGET := Lib.hid hget
  have HGB := Lib.hid hgb
  clear h hby hlen hle hget hg hgb
  obtain ⟨v, m, er⟩ := g
  by_cases he : er = 0
  · subst he
    obtain ⟨hm1, hm2⟩ := HGB.out rfl
    go_enter Try.func42, Try.ntmps42
    go_wp2_with fail
    refine HP.out.mono ?_
    rintro e w1 ⟨A1, n1, c1, rfl, hown, hb1⟩
    have HB1 := Lib.hid hb1
    have HO := Lib.hid (Rd.own hown)
    clear hown hb1
    go_wp2_with fail
    refine (HGET.out w1 A1 n1 c1 HO.out).mono ?_
    rintro e w' ⟨rfl, rfl⟩
    go_wp2_with fail
    refine (throw_ok w1).mono ?_
    rintro e w' ⟨rfl, rfl⟩
    have hbk := bytes_ok (H.out.below HB1.out) m.toNat hm1
    try simp only at hm2
    rw [hm2] at hbk
    have HBK := Lib.hid hbk
    clear hbk
    go_wp2_with fail
    refine HBK.out.mono ?_
    rintro e w2 ⟨⟨A2, c2, rfl, _⟩, hcu, hm⟩
    have HC := Lib.hid hcu
    have HM := Lib.hid (Mod.trans (.of_below HB1.out) hm)
    clear hcu hm
    go_wp2
    go_ret
    exact ⟨HM.out, .inl (by rw [HG.out]; exact ⟨rfl, rfl, HC.out⟩)⟩
  · go_enter Try.func42, Try.ntmps42
    go_wp2_with fail
    refine HP.out.mono ?_
    rintro e w1 ⟨A1, n1, c1, rfl, hown, hb1⟩
    have HB1 := Lib.hid hb1
    have HO := Lib.hid (Rd.own hown)
    clear hown hb1
    go_wp2_with fail
    refine (HGET.out w1 A1 n1 c1 HO.out).mono ?_
    rintro e w' ⟨rfl, rfl⟩
    go_wp2_with fail
    refine (throw_any er w1 he).mono ?_
    rintro e w' ⟨rfl, rfl⟩
    exact ⟨rfl, .of_below HB1.out, .inr (by rw [HG.out]; exact ⟨he, rfl⟩)⟩

set_option maxRecDepth 100000 in
set_option maxHeartbeats 4000000 in
theorem zdec1 {w : World} {p bN : Nat} {A : Option Addr} {n c : Nat} {xs : List Int} {N : Nat} (h : Cur w p A n c xs 0) (hb : Box w bN 3 (.int .i64 N)) (hN : N ≤ 1024) :
    Calls Try.prog 40 #[.pointer (some ⟨p, 0, none⟩), .pointer (some ⟨bN, 0, none⟩)] w (Dec p A n c xs w (zrun N xs).1 (zrun N xs).2.1 (zrun N xs).2.2) := by
  have hcb := cell_of_one hb
  have hlen := h.rd.len
  have hsm := h.small
  have hplt := h.lt
  have hst := zrun_start N xs
  have hby := h.bytes
  have H := Lib.hid h
  have HLEN := Lib.hid hlen
  have HBY := Lib.hid hby
  obtain ⟨R, hR⟩ : ∃ R, zrun N xs = R := ⟨_, rfl⟩
  have HST := Lib.hid (show R = zlift [] 0 (zrun (N - 0) (xs.drop 0)) by rw [Nat.sub_zero, List.drop_zero, ← hR]; exact hst)
  rw [hR]
  clear h hb hlen hst hby hR
  go_enter Try.func40, Try.ntmps40
  go_wp2
  go_loopw [4, 6, 7, 8, 9, 10, 11, 12, 13, 14] (fun v4 v6 _ _ _ _ _ _ _ _ wr => ∃ i : Nat, v6 = .int .i64 i ∧ i ≤ N ∧ ∃ A' c', v4 = .slice A' i c' ∧ ∃ l a, Hid (Owns wr w.heap.size 2 .i64 A' i c' l ∧ Cur wr p A n c xs a ∧ Mod (· = p) w wr ∧ R = zlift l a (zrun (N - i) (xs.drop a))))
    (fun _ v6 _ _ _ _ _ _ _ _ _ => N - (intOf v6).toNat)
  case atStart => exact ⟨0, rfl, by omega, none, 0, rfl, [], 0, Lib.hid ⟨owns_nil _ _ _ _, H.out, Keep.refl _ _, HST.out⟩⟩
  case round =>
    obtain ⟨i, rfl, hi, A', c', rfl, l, a, hI⟩ := hrel
    by_cases hlt : i < N
    · have hnx := znext_any hI.out.2.1
      have hbd := hI.out.2.2.2
      rw [show N - i = (N - (i + 1)) + 1 by omega] at hbd
      have HBD := Lib.hid hbd
      have HNX := Lib.hid hnx
      have HBA := Lib.hid (HBY.out.drop a)
      clear hbd hnx
      go_wp2_with fail
      refine HNX.out.mono ?_
      rintro e w2 ⟨hm, ⟨h0, rfl, hcu⟩ | ⟨h0, rfl⟩⟩
      · have hg := zrun_get HBA.out h0
        have hR' := HBD.out.trans (zlift_step l a (N - (i + 1)) (xs.drop a) h0)
        rw [List.drop_drop] at hR'
        have HC2 := Lib.hid hcu
        have HM2 := Lib.hid (Mod.trans hI.out.2.2.1 hm)
        have HO2 := Lib.hid (owns_keep hI.out.1 hm fun g hg _ => by have := (hI.out.1.lt g hg).1; omega)
        have HR := Lib.hid hR'
        obtain ⟨z, hz⟩ : ∃ z, (vget 0 (xs.drop a)).1 = z := ⟨_, rfl⟩
        rw [hz] at hg HR ⊢
        have HZ := Lib.hid (fun w => zag_any z w hg.2.2.2.1 hg.2.2.2.2)
        clear hcu hm hI HNX HBD hR' hg h0 HBA hz
        go_wp2_with fail
        refine (HZ.out _).mono ?_
        rintro e w' ⟨rfl, rfl⟩
        go_wp2_with (at_builtin; refine wpList_append_r rfl rfl elemI64 (HO2.out.alloc _) rfl (RdV.one (Box.new _ _ _)) rfl one_one (by omega) (by omega) (by have := HM2.out.size; simp; omega) ?_; intro A2 c2 w3 hown hg _)
        have hgr := Cu.grown H.out (Mod.trans HM2.out (.alloc _ _ _)) (HC2.out.alloc' _) (HO2.out.alloc _) (Nat.le_refl _) hg
        have HG := Lib.hid hgr
        have HO3 := Lib.hid (owns_snoc hown)
        clear hgr hown hg
        go_roundw
        case rel => exact ⟨i + 1, by go_num, by omega, A2, c2, rfl, _, _, Lib.hid ⟨HO3.out, HG.out.1, HG.out.2, HR.out⟩⟩
        case measure => simp [intOf] <;> omega
      · have hR' := HBD.out.trans (zlift_err l a (N - (i + 1)) (xs.drop a) h0)
        exact ⟨rfl, Mod.trans hI.out.2.2.1 hm, .inr (by rw [hR']; exact ⟨h0, rfl⟩)⟩
    · obtain rfl : i = N := by omega
      have hR' := hI.out.2.2.2
      rw [Nat.sub_self, zlift_end] at hR'
      have HR := Lib.hid hR'
      clear hR'
      go_wp2
      go_ret
      exact ⟨hI.out.2.2.1, .inl (by rw [HR.out]; exact ⟨rfl, ⟨A', i, c', rfl, hI.out.1⟩, hI.out.2.1⟩)⟩

set_option maxRecDepth 100000 in
set_option maxHeartbeats 2000000 in
theorem zDecode_any (w : World) (A : Option Addr) (n c : Nat) (ys : List Int) (N : Int) (h : Rd w .u8 A n c ys) (hby : By ys) (hn : n ≤ 100000) :
    Calls Try.prog 18 #[.agg #[], .slice A n c, .int .i64 N] w (DecG w.heap.size w zdec ys N) := by
  have hmf : ∀ (fn : Fn) (first cap : Array Value) (w : World), (Instr.makeFunc fn first cap).run Try.prog w = .ok (.func fn first cap) w := fun _ _ _ _ => rfl
  obtain ⟨w2, hw2⟩ : ∃ w2, (w.alloc (.cells #[] 24)).alloc (.cells #[.int .i64 N] 3) = w2 := ⟨_, rfl⟩
  have hb2 : Below w.heap.size w w2 := by rw [← hw2]; exact ((Below.refl _ _).alloc (Nat.le_refl _) _).alloc (by simp) _
  have hbx : Box w2 (w.heap.size + 1) 3 (.int .i64 N) := by rw [← hw2]; have := Box.new (w.alloc (.cells #[] 24)) 3 (.int .i64 N); rwa [World.size_alloc] at this
  have hs2 : w2.heap.size = w.heap.size + 2 := by rw [← hw2]; simp
  have hcell := cell_of_one hbx
  have eg1 : ∀ args w, (callFunc 40 args).run Try.prog w = .ok (.enter 40 args) w := enters_f Try.func40 (by kernel_rfl) rfl
  have hrd := read_any w2 A n c ys (h.below hb2) hn hby N 40 #[.pointer (some ⟨w.heap.size + 1, 0, none⟩)] (zrun N.toNat ys).1 (zrun N.toNat ys).2.1 (zrun N.toNat ys).2.2 eg1
    (fun hbk w4 p A1 c1 hb4 hcu hp => by
      have hN := of_decide_eq_true hbk
      obtain ⟨M, rfl⟩ := Int.eq_ofNat_of_zero_le (show 0 ≤ N by omega)
      exact zdec1 hcu (hbx.below hb4 (by omega)) (by omega))
  have HP := Lib.hid (show zdec ys N = (rlist N n (zrun N.toNat ys).2.1 (zrun N.toNat ys).2.2 (zrun N.toNat ys).1, rerr N n (zrun N.toNat ys).2.1 (zrun N.toNat ys).2.2) by unfold zdec; rw [h.len])
  have HR := Lib.hid hrd
  have HB2 := Lib.hid hb2
  clear h hby hn hb2 hbx hs2 eg1 hrd
  go_enter Try.func18, Try.ntmps18
  go_wp2_with fail
  refine HR.out.mono ?_
  rintro e w5 ⟨A', m, c', rfl, hown, hb5⟩
  have HO := Lib.hid (owns_weak hown HB2.out.size)
  have HB5 := Lib.hid (HB2.out.trans (hb5.mono HB2.out.size))
  clear hown hb5
  go_wp2
  go_ret2
  exact ⟨A', m, c', by rw [HP.out]; rfl, by rw [HP.out]; exact HO.out, HB5.out⟩
theorem zvarD : Decer 24 18 zdec :=
  ⟨mz_decode, mz_ahead, enters_f Try.func18 (by kernel_rfl) rfl, fun w A n c ys N h hb hn => zDecode_any w A n c ys N h hb hn⟩
end Go.Proofs.Ytbfnaigefmdcdaa
