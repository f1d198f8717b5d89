/-
  Chapter 6, the reference: numbers by their offsets.
-/
import Derived.Deep.LoopGhost
import Derived.ProofKit
import Derived.OpenShut
import Derived.Test.YtkbcmblgieoleaaG8
import Derived.Test.YtkbcmblgieoleaaG9
import Derived.Test.YtkbcmblgieoleaaG22
namespace Go.Proofs.Ytkbcmblgieoleaa
open Go.RowKit Go.Cor Go.Free

set_option maxHeartbeats 1000000 in
theorem refBack_any (f : Int) (A : Option Addr) (n c : Nat) (xs : List Int) (w : World) (h : Rd w .u64 A n c xs) (hn : n ≤ 2000) :
    Calls Try.prog 56 #[.int .i64 f, .slice A n c] w (RetRow w.heap.size 2 .i64 w (backs f xs)) := by
  have H := Lib.hid h
  clear h
  go_enter Try.func56, Try.ntmps56
  go_wp2_with fail
  go_loopg [5, 6] n (fun gg v5 v6 wr => ∃ i : Nat, v6 = .int .i64 i ∧ i ≤ n ∧ gg = n - i ∧ ∃ A' c', v5 = .slice A' i c' ∧ Hid (Owns wr w.heap.size 2 .i64 A' i c' (backs f (xs.take i)) ∧ Below w.heap.size w wr))
  case atStart => exact ⟨0, rfl, by omega, by omega, none, 0, rfl, Lib.hid ⟨owns_nil _ _ _ _, Below.refl _ _⟩⟩
  case round =>
    obtain ⟨i, rfl, hi, rfl, A', c', rfl, hI⟩ := hrel
    by_cases hlt : i < n
    · obtain ⟨b', o, rfl, hbl, hc⟩ := (H.out.below hI.out.2).get (by omega)
      have hcell := hc i hlt
      have hl := H.out.len
      have e1 := map_take_snoc (l := xs) (fun x => w64 (x + f)) (k := i) (by omega)
      rw [List.getD_eq_getElem?_getD] at hcell
      obtain ⟨x, hx⟩ : ∃ x, xs[i]?.getD 0 = x := ⟨_, rfl⟩
      rw [hx] at hcell e1
      have E1 := Lib.hid e1
      clear hc hl e1 hx
      go_wp2_with (at_builtin; refine wpList_append_r rfl rfl elemI64 (hI.out.1.alloc _) rfl (RdV.one (Box.new _ _ _)) rfl one_one (by omega) (by omega) (by have := hI.out.2.size; simp; omega) ?_; intro A2 c2 w2 hown hg _)
      go_roundg (n - (i + 1))
      case measure => omega
      case rel =>
        refine ⟨i + 1, by go_num, by omega, rfl, A2, c2, rfl, Lib.hid ⟨?_, below_grown (hI.out.2.alloc hI.out.2.size _) (hI.out.1.alloc _) hg (by have := hI.out.2.size; simp; omega)⟩⟩
        have := owns_snoc hown
        rw [← show backs f (xs.take i) ++ _ = backs f (xs.take (i + 1)) from E1.out]
        rw [show w64 (x + f) = wrap64 (IntKind.u64.wrap (x + IntKind.u64.wrap f)) from by unfold w64 wrap64; simp only [wrapu64]; omega]
        exact this
    · go_wp2
      go_ret
      obtain rfl : i = n := by omega
      refine ⟨A', i, c', rfl, ?_, hI.out.2⟩
      have := hI.out.1
      rwa [List.take_of_length_le (by have := H.out.len; omega)] at this
end Go.Proofs.Ytkbcmblgieoleaa
