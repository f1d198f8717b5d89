/-
  Chapter 6's functions that give rows: offsets, the numbers of offsets, deltas, sums.
-/
import Derived.Test.YtibfbomihopgaaaWid
import Derived.ProofKit
import Derived.OpenShut
namespace Go.Cor
open Go Go.RowKit Go.Free
theorem Owns.below {w w' : World} {B : Nat} {E : TypeId} {k : IntKind} {A : Option Addr} {n c : Nat} {xs : List Int} (h : Owns w B E k A n c xs) (hb : Below w.heap.size w w') : Owns w' B E k A n c xs :=
  owns_keep (S := fun _ _ => True) h (.of_below hb) (fun _ _ _ => trivial)
theorem owns_weak {w : World} {B B' : Nat} {E : TypeId} {size : Nat} {v : Value} {n : Nat} {xs : List Value} (h : w.ownsRow B E size v n xs) (hb : B' ≤ B) : w.ownsRow B' E size v n xs := by
  refine ⟨h.1, ?_⟩
  rcases h.2 with ⟨rfl, rfl⟩ | ⟨g, cap, cur, rfl, hB, hg, hnc, hcm, hcs, ht⟩
  · exact .inl ⟨rfl, rfl⟩
  · exact .inr ⟨g, cap, cur, rfl, Nat.le_trans hb hB, hg, hnc, hcm, hcs, ht⟩
theorem owns_lit1 {w : World} {B : Nat} {E : TypeId} {u : Value} (h : B ≤ w.heap.size) : (w.alloc (.cells #[u] E)).ownsRow B E 1 (.slice (some ⟨w.heap.size, 0, none⟩) 1 1) 1 [u] :=
  ⟨by simp, .inr ⟨w.heap.size, 1, #[u], rfl, h, heap_alloc_new w _, Nat.le_refl _, by simp [maxLen], by simp, by simp⟩⟩
end Go.Cor
namespace Go.Proofs.Ytibfbomihopgaaa
open Go.RowKit Go.Cor Go.Free

theorem back1_any (b : Nat) (f x : Int) (w : World) (hb : Box w b 2 (.int .i64 f)) :
    Calls Try.prog 44 #[.int .u64 x, .pointer (some ⟨b, 0, none⟩)] w fun e w' => e = .returned (.int .i64 (w64 (x + f))) ∧ w = w' := by
  have hc := cell_of_one hb
  clear hb
  go_enter Try.func44, Try.ntmps44
  go_wp2
  go_ret
  exact ⟨ret_i (by unfold w64; simp only [wrap64]; omega), rfl⟩
theorem offsets1_any (b : Nat) (f x : Int) (w : World) (hb : Box w b 2 (.int .i64 f)) :
    Calls Try.prog 46 #[.int .i64 x, .pointer (some ⟨b, 0, none⟩)] w fun e w' => e = .returned (.int .u64 (wu64 (x - f))) ∧ w = w' := by
  have hc := cell_of_one hb
  clear hb
  go_enter Try.func46, Try.ntmps46
  go_wp2
  go_ret
  exact ⟨ret_i (by unfold wu64; simp only [wrap64, wrapu64]; omega), rfl⟩

set_option maxHeartbeats 1000000 in
theorem eachBack_any (b : Nat) (f : Int) (A : Option Addr) (n c : Nat) (xs : List Int) (w : World) (h : Rd w .u64 A n c xs) (hn : n ≤ 1000) (hb : Box w b 2 (.int .i64 f)) :
    Calls Try.prog 43 #[.slice A n c, .func (.func 44) #[] #[.pointer (some ⟨b, 0, none⟩)]] w (RetRow w.heap.size 2 .i64 w (backs f xs)) := by
  have H := Lib.hid h
  have HB := Lib.hid hb
  clear h hb
  go_enter Try.func43, Try.ntmps43
  go_wp2
  go_loopw [5, 7, 10, 11, 12, 13, 14, 15, 16, 17, 18, 19, 20] (fun v5 _ v10 _ _ _ _ _ _ _ _ _ _ wr => ∃ i : Nat, v10 = .int .i64 i ∧ i ≤ n ∧ ∃ A' c', v5 = .slice A' i c' ∧ Hid (Owns wr w.heap.size 2 .i64 A' i c' (backs f (xs.take i)) ∧ Below w.heap.size w wr))
    (fun _ _ v10 _ _ _ _ _ _ _ _ _ _ _ => n - (intOf v10).toNat)
  case atStart => exact ⟨0, rfl, by omega, none, 0, rfl, Lib.hid ⟨owns_nil _ _ _ _, Below.refl _ _⟩⟩
  case round =>
    obtain ⟨i, rfl, hi, A', c', rfl, hI⟩ := hrel
    by_cases hlt : i < n
    · obtain ⟨b', o, rfl, hbl, hc⟩ := (H.out.below hI.out.2).get (by omega)
      have hcell := hc i hlt
      have hl := H.out.len
      have e1 := map_take_snoc (l := xs) (fun x => w64 (x + f)) (k := i) (by omega)
      rw [List.getD_eq_getElem?_getD] at hcell
      obtain ⟨x, hx⟩ : ∃ x, xs[i]?.getD 0 = x := ⟨_, rfl⟩
      rw [hx] at hcell e1
      have E1 := Lib.hid e1
      have HBb := Lib.hid (HB.out.keep (S := fun _ _ => True) (.of_below hI.out.2) trivial)
      clear hc hl e1 hx
      go_wp2_with fail
      refine (back1_any b f x wr HBb.out).mono ?_
      rintro e w' ⟨rfl, rfl⟩
      go_wp2_with (at_builtin; refine wpList_append_r rfl rfl elemI64 (hI.out.1.alloc _) rfl (RdV.one (Box.new _ _ _)) rfl one_one (by omega) (by omega) (by have := hI.out.2.size; simp; omega) ?_; intro A2 c2 w2 hown hg _)
      go_roundw
      case rel =>
        refine ⟨i + 1, by go_num, by omega, A2, c2, rfl, Lib.hid ⟨?_, below_grown (hI.out.2.alloc hI.out.2.size _) (hI.out.1.alloc _) hg (by have := hI.out.2.size; simp; omega)⟩⟩
        have := owns_snoc hown
        rw [show backs f (xs.take i) ++ _ = backs f (xs.take (i + 1)) from E1.out] at this
        exact this
      case measure => simp [intOf] <;> omega
    · go_wp2
      go_ret
      obtain rfl : i = n := by omega
      refine ⟨A', i, c', rfl, ?_, hI.out.2⟩
      have := hI.out.1
      rwa [List.take_of_length_le (by have := H.out.len; omega)] at this

set_option maxHeartbeats 1000000 in
theorem eachOffsets_any (b : Nat) (f : Int) (A : Option Addr) (n c : Nat) (xs : List Int) (w : World) (h : Rd w .i64 A n c xs) (hn : n ≤ 1000) (hb : Box w b 2 (.int .i64 f)) :
    Calls Try.prog 45 #[.slice A n c, .func (.func 46) #[] #[.pointer (some ⟨b, 0, none⟩)]] w (RetRow w.heap.size 23 .u64 w (offsets f xs)) := by
  have H := Lib.hid h
  have HB := Lib.hid hb
  clear h hb
  go_enter Try.func45, Try.ntmps45
  go_wp2
  go_loopw [5, 7, 10, 11, 12, 13, 14, 15, 16, 17, 18, 19, 20] (fun v5 _ v10 _ _ _ _ _ _ _ _ _ _ wr => ∃ i : Nat, v10 = .int .i64 i ∧ i ≤ n ∧ ∃ A' c', v5 = .slice A' i c' ∧ Hid (Owns wr w.heap.size 23 .u64 A' i c' (offsets f (xs.take i)) ∧ Below w.heap.size w wr))
    (fun _ _ v10 _ _ _ _ _ _ _ _ _ _ _ => n - (intOf v10).toNat)
  case atStart => exact ⟨0, rfl, by omega, none, 0, rfl, Lib.hid ⟨owns_nil _ _ _ _, Below.refl _ _⟩⟩
  case round =>
    obtain ⟨i, rfl, hi, A', c', rfl, hI⟩ := hrel
    by_cases hlt : i < n
    · obtain ⟨b', o, rfl, hbl, hc⟩ := (H.out.below hI.out.2).get (by omega)
      have hcell := hc i hlt
      have hl := H.out.len
      have e1 := map_take_snoc (l := xs) (fun x => wu64 (x - f)) (k := i) (by omega)
      rw [List.getD_eq_getElem?_getD] at hcell
      obtain ⟨x, hx⟩ : ∃ x, xs[i]?.getD 0 = x := ⟨_, rfl⟩
      rw [hx] at hcell e1
      have E1 := Lib.hid e1
      have HBb := Lib.hid (HB.out.keep (S := fun _ _ => True) (.of_below hI.out.2) trivial)
      clear hc hl e1 hx
      go_wp2_with fail
      refine (offsets1_any b f x wr HBb.out).mono ?_
      rintro e w' ⟨rfl, rfl⟩
      go_wp2_with (at_builtin; refine wpList_append_r rfl rfl elemU64 (hI.out.1.alloc _) rfl (RdV.one (Box.new _ _ _)) rfl one_one (by omega) (by omega) (by have := hI.out.2.size; simp; omega) ?_; intro A2 c2 w2 hown hg _)
      go_roundw
      case rel =>
        refine ⟨i + 1, by go_num, by omega, A2, c2, rfl, Lib.hid ⟨?_, below_grown (hI.out.2.alloc hI.out.2.size _) (hI.out.1.alloc _) hg (by have := hI.out.2.size; simp; omega)⟩⟩
        have := owns_snoc hown
        rw [show offsets f (xs.take i) ++ _ = offsets f (xs.take (i + 1)) from E1.out] at this
        exact this
      case measure => simp [intOf] <;> omega
    · go_wp2
      go_ret
      obtain rfl : i = n := by omega
      refine ⟨A', i, c', rfl, ?_, hI.out.2⟩
      have := hI.out.1
      rwa [List.take_of_length_le (by have := H.out.len; omega)] at this

theorem back_any (f : Int) (A : Option Addr) (n c : Nat) (xs : List Int) (w : World) (h : Rd w .u64 A n c xs) (hn : n ≤ 1000) :
    Calls Try.prog 24 #[.int .i64 f, .slice A n c] w (RetRow w.heap.size 2 .i64 w (backs f xs)) := by
  have H := Lib.hid h
  clear h
  go_enter Try.func24, Try.ntmps24
  go_wp2_with fail
  refine (eachBack_any _ f A n c xs _ (H.out.alloc _) hn (Box.new _ _ _)).mono ?_
  rintro e w1 ⟨A2, n2, c2, rfl, hown, hb⟩
  go_wp2
  go_ret
  exact ⟨A2, n2, c2, rfl, owns_weak hown (by simp), ((Below.refl _ _).alloc (Nat.le_refl _) _).trans (hb.mono (by simp))⟩
theorem offsets_any (f : Int) (A : Option Addr) (n c : Nat) (xs : List Int) (w : World) (h : Rd w .i64 A n c xs) (hn : n ≤ 1000) :
    Calls Try.prog 25 #[.int .i64 f, .slice A n c] w (RetRow w.heap.size 23 .u64 w (offsets f xs)) := by
  have H := Lib.hid h
  clear h
  go_enter Try.func25, Try.ntmps25
  go_wp2_with fail
  refine (eachOffsets_any _ f A n c xs _ (H.out.alloc _) hn (Box.new _ _ _)).mono ?_
  rintro e w1 ⟨A2, n2, c2, rfl, hown, hb⟩
  go_wp2
  go_ret
  exact ⟨A2, n2, c2, rfl, owns_weak hown (by simp), ((Below.refl _ _).alloc (Nat.le_refl _) _).trans (hb.mono (by simp))⟩
end Go.Proofs.Ytibfbomihopgaaa
