/-
  Are two rows of numbers alike? (Printed by wip/genwid.py.)
-/
import Derived.Test.YthpndhdpohmoaaaRows
import Derived.Test.YthpndhdpohmoaaaFreeA
import Derived.WalkKit
import Derived.WalkSpells
import Derived.WalkLawsBesides
import Derived.Test.YthpndhdpohmoaaaBits
import Derived.Test.YthpndhdpohmoaaaWidM
import Derived.ProofKit
import Derived.OpenShut
namespace Go.Proofs.Ythpndhdpohmoaaa
open Go.RowKit Go.Cor Go.Free


set_option maxHeartbeats 1000000 in
theorem sameI_any (A B : Option Addr) (n c m d : Nat) (xs ys : List Int) (w : World) (h1 : Rd w .i64 A n c xs) (h2 : Rd w .i64 B m d ys) :
    Calls Try.prog 45 #[.slice A n c, .slice B m d] w fun e w' => e = .returned (.bool (decide (xs = ys))) ∧ Below w.heap.size w w' := by
  have hn : n ≤ maxLen := Nat.le_trans h1.cap h1.max
  have hm : m ≤ maxLen := Nat.le_trans h2.cap h2.max
  unfold maxLen at hn hm
  have H1 := Lib.hid h1
  have H2 := Lib.hid h2
  clear h1 h2
  by_cases hnm : n = m
  · subst hnm
    go_enter Try.func45, Try.ntmps45
    go_wp2
    go_loopw [5, 11, 12, 13, 14, 15, 16, 17, 18, 19, 20, 21, 22, 23, 24, 25] (fun i5 _ _ _ _ _ _ _ _ _ _ _ _ _ _ _ wr => ∃ i : Nat, i5 = .int .i64 i ∧ i ≤ n ∧ Hid (xs.take i = ys.take i ∧ Below w.heap.size w wr)) (fun i _ _ _ _ _ _ _ _ _ _ _ _ _ _ _ _ => n - (intOf i).toNat)
    case atStart => exact ⟨0, rfl, by omega, Lib.hid ⟨by simp, Below.refl _ _⟩⟩
    case round =>
      obtain ⟨i, rfl, hi, hI⟩ := hrel
      by_cases hlt : i < n
      · obtain ⟨b, o, rfl, hbl, hc⟩ := (H1.out.below hI.out.2).get (by omega)
        have hc1 := hc i hlt
        obtain ⟨b', o', rfl, hbl', hc'⟩ := (H2.out.below hI.out.2).get (by omega)
        have hc2 := hc' i hlt
        clear hc hc'
        have hl1 := H1.out.len
        have hl2 := H2.out.len
        obtain ⟨x, hx⟩ : ∃ x, xs.getD i 0 = x := ⟨_, rfl⟩
        obtain ⟨y, hy⟩ : ∃ y, ys.getD i 0 = y := ⟨_, rfl⟩
        rw [hx] at hc1
        rw [hy] at hc2
        have e1 : xs.take (i + 1) = xs.take i ++ [x] := by rw [take_snoc (by omega), ← hx]; simp
        have e2 : ys.take (i + 1) = ys.take i ++ [y] := by rw [take_snoc (by omega), ← hy]; simp
        have E1 := Lib.hid e1
        have E2 := Lib.hid e2
        clear e1 e2 hx hy hl1 hl2
        by_cases hxy : x = y
        · subst hxy
          go_wp2_with fail
          refine wp_region_free 9 (by kernel_rfl) (by kernel_rfl) ?_
          refine chain_val (.slice (some ⟨b, o, none⟩) n c) (S := [0]) rfl ?_ ?_
          · intro ρ w' hE hB hs
            have h0 : ρ (.tmp 0) = .slice (some ⟨b, o, none⟩) n c := hs 0 (by decide)
            clear hs
            refine if_t (by rfl) ?_
            (go_simp <;> exact wrapi64_in _ (by omega) (by omega))
          refine chain_val (.int .i64 (i : Int)) (S := [5]) rfl ?_ ?_
          · intro ρ w' hE hB hs
            have h5 : ρ (.tmp 5) = .int .i64 (i : Int) := hs 5 (by decide)
            clear hs
            refine if_t (by rfl) ?_
            (go_simp <;> exact wrapi64_in _ (by omega) (by omega))
          refine chain_val (.pointer (some ⟨b, o + i, none⟩)) (S := [17, 18]) rfl ?_ ?_
          · intro ρ w' hE hB hs
            have h17 : ρ (.tmp 17) = .slice (some ⟨b, o, none⟩) n c := hs 17 (by decide)
            have h18 : ρ (.tmp 18) = .int .i64 (i : Int) := hs 18 (by decide)
            clear hs
            refine if_t (by rfl) ?_
            (go_simp <;> (intro hh; omega))
          refine chain_val (.int .i64 x) (S := [19]) rfl ?_ ?_
          · intro ρ w' hE hB hs
            have h19 : ρ (.tmp 19) = .pointer (some ⟨b, o + i, none⟩) := hs 19 (by decide)
            clear hs
            refine if_t (by rfl) ?_
            have hcl := (hB.cell (p := ⟨b, o + i, none⟩) hbl).trans hc1
            go_simp
          refine chain_val (.slice (some ⟨b', o', none⟩) n d) (S := [1]) rfl ?_ ?_
          · intro ρ w' hE hB hs
            have h1 : ρ (.tmp 1) = .slice (some ⟨b', o', none⟩) n d := hs 1 (by decide)
            clear hs
            refine if_t (by rfl) ?_
            (go_simp <;> exact wrapi64_in _ (by omega) (by omega))
          refine chain_val (.int .i64 (i : Int)) (S := [5]) rfl ?_ ?_
          · intro ρ w' hE hB hs
            have h5 : ρ (.tmp 5) = .int .i64 (i : Int) := hs 5 (by decide)
            clear hs
            refine if_t (by rfl) ?_
            (go_simp <;> exact wrapi64_in _ (by omega) (by omega))
          refine chain_val (.pointer (some ⟨b', o' + i, none⟩)) (S := [21, 22]) rfl ?_ ?_
          · intro ρ w' hE hB hs
            have h21 : ρ (.tmp 21) = .slice (some ⟨b', o', none⟩) n d := hs 21 (by decide)
            have h22 : ρ (.tmp 22) = .int .i64 (i : Int) := hs 22 (by decide)
            clear hs
            refine if_t (by rfl) ?_
            (go_simp <;> (intro hh; omega))
          refine chain_val (.int .i64 x) (S := [23]) rfl ?_ ?_
          · intro ρ w' hE hB hs
            have h23 : ρ (.tmp 23) = .pointer (some ⟨b', o' + i, none⟩) := hs 23 (by decide)
            clear hs
            refine if_t (by rfl) ?_
            have hcl := (hB.cell (p := ⟨b', o' + i, none⟩) hbl').trans hc2
            go_simp
          refine chain_val (.bool false) (S := [20, 24]) rfl ?_ ?_
          · intro ρ w' hE hB hs
            have h20 : ρ (.tmp 20) = .int .i64 x := hs 20 (by decide)
            have h24 : ρ (.tmp 24) = .int .i64 x := hs 24 (by decide)
            clear hs
            refine if_t (by rfl) ?_
            (go_simp <;> exact wrapi64_in _ (by omega) (by omega))
          intro w1 hB1
          simp only [List.reverse_cons, List.reverse_nil, List.nil_append, List.cons_append, Go.Free.Ends, forall_eq, Act.put, List.setIfInBounds_toArray, List.set_cons_zero, List.set_cons_succ]
          have HB2 := Lib.hid (hI.out.2.trans (hB1.mono hI.out.2.size))
          clear hB1
          go_wp2
          go_roundw
          case rel => exact ⟨i + 1, by go_num, by omega, Lib.hid ⟨by rw [E1.out, E2.out, hI.out.1], HB2.out⟩⟩
          case measure => simp [intOf] <;> omega
        · have hne : (x == y) = false := by simpa using hxy
          go_wp2_with fail
          refine wp_region_free 9 (by kernel_rfl) (by kernel_rfl) ?_
          refine chain_val (.slice (some ⟨b, o, none⟩) n c) (S := [0]) rfl ?_ ?_
          · intro ρ w' hE hB hs
            have h0 : ρ (.tmp 0) = .slice (some ⟨b, o, none⟩) n c := hs 0 (by decide)
            clear hs
            refine if_t (by rfl) ?_
            (go_simp <;> exact wrapi64_in _ (by omega) (by omega))
          refine chain_val (.int .i64 (i : Int)) (S := [5]) rfl ?_ ?_
          · intro ρ w' hE hB hs
            have h5 : ρ (.tmp 5) = .int .i64 (i : Int) := hs 5 (by decide)
            clear hs
            refine if_t (by rfl) ?_
            (go_simp <;> exact wrapi64_in _ (by omega) (by omega))
          refine chain_val (.pointer (some ⟨b, o + i, none⟩)) (S := [17, 18]) rfl ?_ ?_
          · intro ρ w' hE hB hs
            have h17 : ρ (.tmp 17) = .slice (some ⟨b, o, none⟩) n c := hs 17 (by decide)
            have h18 : ρ (.tmp 18) = .int .i64 (i : Int) := hs 18 (by decide)
            clear hs
            refine if_t (by rfl) ?_
            (go_simp <;> (intro hh; omega))
          refine chain_val (.int .i64 x) (S := [19]) rfl ?_ ?_
          · intro ρ w' hE hB hs
            have h19 : ρ (.tmp 19) = .pointer (some ⟨b, o + i, none⟩) := hs 19 (by decide)
            clear hs
            refine if_t (by rfl) ?_
            have hcl := (hB.cell (p := ⟨b, o + i, none⟩) hbl).trans hc1
            go_simp
          refine chain_val (.slice (some ⟨b', o', none⟩) n d) (S := [1]) rfl ?_ ?_
          · intro ρ w' hE hB hs
            have h1 : ρ (.tmp 1) = .slice (some ⟨b', o', none⟩) n d := hs 1 (by decide)
            clear hs
            refine if_t (by rfl) ?_
            (go_simp <;> exact wrapi64_in _ (by omega) (by omega))
          refine chain_val (.int .i64 (i : Int)) (S := [5]) rfl ?_ ?_
          · intro ρ w' hE hB hs
            have h5 : ρ (.tmp 5) = .int .i64 (i : Int) := hs 5 (by decide)
            clear hs
            refine if_t (by rfl) ?_
            (go_simp <;> exact wrapi64_in _ (by omega) (by omega))
          refine chain_val (.pointer (some ⟨b', o' + i, none⟩)) (S := [21, 22]) rfl ?_ ?_
          · intro ρ w' hE hB hs
            have h21 : ρ (.tmp 21) = .slice (some ⟨b', o', none⟩) n d := hs 21 (by decide)
            have h22 : ρ (.tmp 22) = .int .i64 (i : Int) := hs 22 (by decide)
            clear hs
            refine if_t (by rfl) ?_
            (go_simp <;> (intro hh; omega))
          refine chain_val (.int .i64 y) (S := [23]) rfl ?_ ?_
          · intro ρ w' hE hB hs
            have h23 : ρ (.tmp 23) = .pointer (some ⟨b', o' + i, none⟩) := hs 23 (by decide)
            clear hs
            refine if_t (by rfl) ?_
            have hcl := (hB.cell (p := ⟨b', o' + i, none⟩) hbl').trans hc2
            go_simp
          refine chain_val (.bool true) (S := [20, 24]) rfl ?_ ?_
          · intro ρ w' hE hB hs
            have h20 : ρ (.tmp 20) = .int .i64 x := hs 20 (by decide)
            have h24 : ρ (.tmp 24) = .int .i64 y := hs 24 (by decide)
            clear hs
            refine if_t (by rfl) ?_
            (go_simp <;> exact wrapi64_in _ (by omega) (by omega))
          intro w1 hB1
          simp only [List.reverse_cons, List.reverse_nil, List.nil_append, List.cons_append, Go.Free.Ends, forall_eq, Act.put, List.setIfInBounds_toArray, List.set_cons_zero, List.set_cons_succ]
          have HB2 := Lib.hid (hI.out.2.trans (hB1.mono hI.out.2.size))
          clear hB1
          go_wp2
          go_ret
          refine ⟨ret_b ?_, HB2.out⟩
          have : xs ≠ ys := by
            rintro rfl
            have := E1.out.symm.trans E2.out
            exact hxy (by simpa using this)
          simp [this]
      · go_wp2
        go_ret
        have : xs = ys := by
          have h := hI.out.1
          rwa [List.take_of_length_le (by have := H1.out.len; omega), List.take_of_length_le (by have := H2.out.len; omega)] at h
        exact ⟨ret_b (by simp [this]), hI.out.2⟩
  · have hne : xs ≠ ys := by
      rintro rfl
      exact hnm (H1.out.len.symm.trans H2.out.len)
    have hnb : ((n : Int) == (m : Int)) = false := by simp; omega
    have HNE := Lib.hid hne
    clear hne hnm
    go_enter Try.func45, Try.ntmps45
    go_wp2
    go_ret
    exact ⟨ret_b (by simp [HNE.out]), Below.refl _ _⟩


end Go.Proofs.Ythpndhdpohmoaaa
