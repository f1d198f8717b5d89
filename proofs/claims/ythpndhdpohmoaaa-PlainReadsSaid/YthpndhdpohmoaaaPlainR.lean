/-
  Chapter 7: what PlainReads reads: numbers of four bytes, an error thrown behind some.
-/
import Derived.Test.YthpndhdpohmoaaaPlainD
import Derived.Test.YthpndhdpohmoaaaCurN
import Derived.Deep.LoopGhost
namespace Go.Cor
open Go Go.RowKit
/-- the run behind i numbers, f rounds to come: the numbers, the error -/
def prun (y e : Int) (xs : List Int) : Nat → Nat → List Int → List Int × Int
  | 0, _, l => (l, 0)
  | f + 1, i, l => if (i : Int) = y ∧ e ≠ 0 then ([], e) else if xs.length < 4 * i + 4 then ([], 1) else prun y e xs f (i + 1) (l ++ [num ((xs.drop (4 * i)).take 4)])
variable {y e : Int} {xs : List Int} {f i : Nat} {l : List Int}
theorem prun_thrown (h : (i : Int) = y ∧ e ≠ 0) : prun y e xs (f + 1) i l = ([], e) := by rw [prun, if_pos h]
theorem prun_short (h : ¬ ((i : Int) = y ∧ e ≠ 0)) (h2 : xs.length < 4 * i + 4) : prun y e xs (f + 1) i l = ([], 1) := by rw [prun, if_neg h, if_pos h2]
theorem prun_step (h : ¬ ((i : Int) = y ∧ e ≠ 0)) (h2 : ¬ xs.length < 4 * i + 4) : prun y e xs (f + 1) i l = prun y e xs f (i + 1) (l ++ [num ((xs.drop (4 * i)).take 4)]) := by rw [prun, if_neg h, if_neg h2]
end Go.Cor
namespace Go.Proofs.Ythpndhdpohmoaaa
open Go.RowKit Go.Cor Go.Free

set_option maxRecDepth 100000 in
set_option maxHeartbeats 4000000 in
theorem pread1 {w : World} {p b1 b2 b3 : Nat} {A : Option Addr} {n c : Nat} {xs : List Int} {x y z : Int} (h : Cur w p A n c xs 0) (hx : Box w b1 3 (.int .i64 x)) (hy : Box w b2 3 (.int .i64 y)) (hz : Box w b3 3 (.int .i64 z))
    (n1 : b1 ≠ p) (n2 : b2 ≠ p) (n3 : b3 ≠ p) (hM : x ≤ 100) :
    Calls Try.prog 41 #[.pointer (some ⟨p, 0, none⟩), .pointer (some ⟨b1, 0, none⟩), .pointer (some ⟨b2, 0, none⟩), .pointer (some ⟨b3, 0, none⟩)] w (Dec p A n c xs w (prun y z xs x.toNat 0 []).1 (4 * x.toNat) (prun y z xs x.toNat 0 []).2) := by
  obtain ⟨R, hR⟩ : ∃ R, prun y z xs x.toNat 0 [] = R := ⟨_, rfl⟩
  rw [hR]
  obtain ⟨M, hMx⟩ : ∃ M, x.toNat = M := ⟨_, rfl⟩
  rw [hMx] at hR ⊢
  have hlen := h.rd.len
  have hsm := h.small
  have hplt := h.lt
  have H := Lib.hid h
  have HLEN := Lib.hid hlen
  have HB := Lib.hid (And.intro hx (And.intro hy hz))
  have HNE := Lib.hid (And.intro n1 (And.intro n2 n3))
  have HX := Lib.hid hMx
  have hc1 := cell_of_one hx
  have hM' : M ≤ 100 := by omega
  have H0 := Lib.hid hR
  clear h hx hy hz hlen n1 n2 n3 hR hMx
  go_enter Try.func41, Try.ntmps41
  go_wp2
  go_loopg [6, 7] M (fun g v6 v7 wr => ∃ i : Nat, v7 = .int .i64 i ∧ i ≤ M ∧ g = M - i ∧ ∃ A' c' l, v6 = .slice A' i c' ∧ Hid (Owns wr w.heap.size 2 .i64 A' i c' l ∧ Cur wr p A n c xs (4 * i) ∧ Mod (· = p) w wr ∧ prun y z xs (M - i) i l = R))
  case atStart => exact ⟨0, rfl, by omega, by omega, none, 0, [], rfl, Lib.hid ⟨owns_nil _ _ _ _, H.out, Keep.refl _ _, H0.out⟩⟩
  case round =>
    obtain ⟨i, rfl, hi, rfl, A', c', l, rfl, hI⟩ := hrel
    have k1 := cell_of_one (HB.out.1.keep hI.out.2.2.1 HNE.out.1)
    have k2 := cell_of_one (HB.out.2.1.keep hI.out.2.2.1 HNE.out.2.1)
    have k3 := cell_of_one (HB.out.2.2.keep hI.out.2.2.1 HNE.out.2.2)
    clear hc1
    by_cases hlt : i < M
    · have hxi : decide ((i : Int) < x) = true := by have := HX.out; simp; omega
      obtain ⟨f, hf⟩ : ∃ f, M - i = f + 1 := ⟨M - i - 1, by omega⟩
      have HF := Lib.hid hf
      have hP := hI.out.2.2.2
      rw [hf] at hP
      have HP := Lib.hid hP
      clear hP hf
      by_cases hthr : (i : Int) = y ∧ z ≠ 0
      · have HE := Lib.hid ((prun_thrown hthr).symm.trans HP.out)
        obtain ⟨rfl, hz⟩ := hthr
        go_wp2_with fail
        refine (throw_any z _ hz).mono ?_
        rintro e w2 ⟨rfl, rfl⟩
        rw [← HE.out]
        exact ⟨rfl, hI.out.2.2.1, .inr ⟨hz, rfl⟩⟩
      have hw : ∀ (Q : Prop), ((i : Int) = y → z = 0 → Q) → (¬ (i : Int) = y → Q) → Q := fun Q a b => by
        by_cases hy : (i : Int) = y
        · exact a hy (by by_cases hz : z = 0; exact hz; exact absurd ⟨hy, hz⟩ hthr)
        · exact b hy
      by_cases hsh : 4 * i + 4 ≤ n
      · have HU := Lib.hid (U32_ok hI.out.2.1 (by omega))
        have HQ := Lib.hid ((prun_step hthr (by have := HLEN.out; omega)).symm.trans HP.out)
        have hbd := num_bd ((H.out.bytes.drop (4 * i)).take 4)
        rw [List.length_take, List.length_drop, HLEN.out, Nat.min_eq_left (by omega)] at hbd
        obtain ⟨v, hv⟩ : ∃ v, num ((xs.drop (4 * i)).take 4) = v := ⟨_, rfl⟩
        rw [hv] at HU HQ hbd
        obtain ⟨hv0, hv1⟩ := hbd
        simp at hv1
        have e2 : IntKind.i64.wrap v = v := wrapi64_in _ (by omega) (by omega)
        clear hv
        refine hw _ ?_ ?_
        · intro hy hz0
          subst hy hz0
          go_wp2_with fail
          refine (throw_ok _).mono ?_
          rintro e w2 ⟨rfl, rfl⟩
          go_wp2_with fail
          refine HU.out.mono ?_
          rintro e w2 ⟨rfl, hcu, hm⟩
          have HC2 := Lib.hid hcu
          have HM2 := Lib.hid (Mod.trans hI.out.2.2.1 hm)
          have HO2 := Lib.hid (owns_keep hI.out.1 hm fun g hg _ => by have := (hI.out.1.lt g hg).1; omega)
          clear hcu hm hI HU k1 k2 k3
          go_wp2_with (at_builtin; refine wpList_append_r rfl rfl elemI64 (HO2.out.alloc _) rfl (RdV.one (Box.new _ _ _)) rfl one_one (by omega) (by omega) (by have := HM2.out.size; simp; omega) ?_; intro A2 c2 w3 hown hg _)
          have hgr := Cu.grown H.out (Mod.trans HM2.out (.alloc _ _ _)) (HC2.out.alloc' _) (HO2.out.alloc _) (Nat.le_refl _) hg
          have HG := Lib.hid hgr
          have HO3 := Lib.hid (owns_snoc hown)
          clear hgr hown hg
          go_roundg (M - (i + 1))
          case measure => omega
          case rel => exact ⟨i + 1, by go_num, by omega, rfl, A2, c2, _, rfl, Lib.hid ⟨HO3.out, HG.out.1, HG.out.2, by rw [show M - (i + 1) = f by have := HF.out; omega]; exact HQ.out⟩⟩
        · intro hy
          have hyb : ((i : Int) == y) = false := by simpa using hy
          go_wp2_with fail
          refine HU.out.mono ?_
          rintro e w2 ⟨rfl, hcu, hm⟩
          have HC2 := Lib.hid hcu
          have HM2 := Lib.hid (Mod.trans hI.out.2.2.1 hm)
          have HO2 := Lib.hid (owns_keep hI.out.1 hm fun g hg _ => by have := (hI.out.1.lt g hg).1; omega)
          clear hcu hm hI HU k1 k2 k3
          go_wp2_with (at_builtin; refine wpList_append_r rfl rfl elemI64 (HO2.out.alloc _) rfl (RdV.one (Box.new _ _ _)) rfl one_one (by omega) (by omega) (by have := HM2.out.size; simp; omega) ?_; intro A2 c2 w3 hown hg _)
          have hgr := Cu.grown H.out (Mod.trans HM2.out (.alloc _ _ _)) (HC2.out.alloc' _) (HO2.out.alloc _) (Nat.le_refl _) hg
          have HG := Lib.hid hgr
          have HO3 := Lib.hid (owns_snoc hown)
          clear hgr hown hg
          go_roundg (M - (i + 1))
          case measure => omega
          case rel => exact ⟨i + 1, by go_num, by omega, rfl, A2, c2, _, rfl, Lib.hid ⟨HO3.out, HG.out.1, HG.out.2, by rw [show M - (i + 1) = f by have := HF.out; omega]; exact HQ.out⟩⟩
      · have HU := Lib.hid (U32_short hI.out.2.1 (by omega))
        have HQ := Lib.hid ((prun_short hthr (by have := HLEN.out; omega)).symm.trans HP.out)
        refine hw _ ?_ ?_
        · intro hy hz0
          subst hy hz0
          go_wp2_with fail
          refine (throw_ok _).mono ?_
          rintro e w2 ⟨rfl, rfl⟩
          go_wp2_with fail
          refine HU.out.mono ?_
          rintro e w2 ⟨rfl, hb2⟩
          rw [← HQ.out]
          exact ⟨rfl, Mod.trans hI.out.2.2.1 (.of_below hb2), .inr ⟨by decide, rfl⟩⟩
        · intro hy
          have hyb : ((i : Int) == y) = false := by simpa using hy
          go_wp2_with fail
          refine HU.out.mono ?_
          rintro e w2 ⟨rfl, hb2⟩
          rw [← HQ.out]
          exact ⟨rfl, Mod.trans hI.out.2.2.1 (.of_below hb2), .inr ⟨by decide, rfl⟩⟩
    · obtain rfl : i = M := by omega
      have hxi : decide ((i : Int) < x) = false := by have := HX.out; simp; omega
      have HQ : Hid ((l, (0 : Int)) = R) := by have := hI.out.2.2.2; rw [Nat.sub_self] at this; exact this
      go_wp2
      go_ret
      rw [← HQ.out]
      exact ⟨hI.out.2.2.1, .inl ⟨rfl, ⟨A', i, c', rfl, hI.out.1⟩, hI.out.2.1⟩⟩
end Go.Proofs.Ythpndhdpohmoaaa
