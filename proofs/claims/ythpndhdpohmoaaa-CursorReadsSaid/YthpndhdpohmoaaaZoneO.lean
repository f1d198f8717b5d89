/-
  Chapter 25: Own (the document's zones as the program's): rows of structs.
-/
import Derived.Test.YthpndhdpohmoaaaZoneR
namespace Go.Cor
open Go Go.RowKit
def zcells (zs : List Zn) : List Value := (zs.map fun z => (zr z).toList).flatten
theorem zcells_len (zs : List Zn) : (zcells zs).length = zs.length * 4 := by
  induction zs with
  | nil => rfl
  | cons z r ih => unfold zcells at *; simp [zr] at *; omega
theorem zcells_snoc (l : List Zn) (z : Zn) : zcells (l ++ [z]) = zcells l ++ (zr z).toList := by unfold zcells; simp
theorem zcells_get : ∀ (zs : List Zn) (i k : Nat) (z : Zn), zs[i]? = some z → k < 4 → (zcells zs)[i * 4 + k]? = (zr z).toList[k]?
  | [], i, k, z, h, _ => by simp at h
  | y :: r, 0, k, z, h, hk => by
    simp at h; subst h
    unfold zcells
    simp only [List.map_cons, List.flatten_cons, Nat.zero_mul, Nat.zero_add]
    rw [List.getElem?_append_left (by simp [zr]; omega)]
  | y :: r, i + 1, k, z, h, hk => by
    have ih := zcells_get r i k z (by simpa using h) hk
    unfold zcells at *
    simp only [List.map_cons, List.flatten_cons]
    rw [List.getElem?_append_right (by simp [zr]; omega), ← ih]
    congr 1
    simp [zr]; omega
theorem zcells_one (zs : List Zn) : ∀ u ∈ zcells zs, u.oneCell' = true := by
  intro u hu
  unfold zcells at hu
  rw [List.mem_flatten] at hu
  obtain ⟨y, hy, hu⟩ := hu
  obtain ⟨z, _, rfl⟩ := List.mem_map.1 hy
  simp [zr] at hu
  rcases hu with rfl | rfl | rfl | rfl <;> rfl
/-- a row of zones, read -/
abbrev RdZ (w : World) (A : Option Addr) (n c : Nat) (zs : List Zn) : Prop := RdV w 4 A n c (zcells zs)
theorem RdZ.cell {w : World} {b o n c i k : Nat} {zs : List Zn} {z : Zn} (h : RdZ w (some ⟨b, o, none⟩) n c zs) (hz : zs[i]? = some z) (hk : k < 4) : w.cell? ⟨b, o + i * 4 + k, none⟩ = (zr z).toList[k]? := by
  have hl := h.len
  rw [zcells_len] at hl
  have hi : i < zs.length := (List.getElem?_eq_some_iff.1 hz).1
  obtain ⟨b', o', he, _, hc⟩ := h.get (by omega)
  injection he with he
  injection he with h1 h2
  subst h1 h2
  have e := zcells_get zs i k z hz hk
  cases hq : (zr z).toList[k]? with
  | none => simp [zr] at hq; omega
  | some u =>
    rw [hq] at e
    have := hc _ _ e
    rwa [← Nat.add_assoc] at this
theorem RdZ.lit (w : World) (E : TypeId) (z : Zn) : RdZ (w.alloc (.cells (zr z) E)) (some ⟨w.heap.size, 0, none⟩) 1 1 [z] :=
  ⟨rfl, Nat.le_refl _, by simp [maxLen], fun h => (by cases h), fun _ => ⟨w.heap.size, 0, rfl, by simp, fun j u hu => by
    rw [Nat.zero_add, cell_of_row _ w.heap.size j _ E _ (heap_alloc_new w _)]
    simpa [zcells, zr] using hu⟩⟩
end Go.Cor
namespace Go.Free
open Go Go.RowKit Go.Cor
def RdZF (zs : List Zn) : Fact := fun v w => ∃ A n c, v = .slice A n c ∧ RdZ w A n c zs
theorem RdZF.stable (zs : List Zn) : Stable (RdZF zs) := fun _ _ _ ⟨A, n, c, h1, h2⟩ hb => ⟨A, n, c, h1, h2.below hb⟩
end Go.Free
namespace Go.Proofs.Ythpndhdpohmoaaa
open Go.RowKit Go.Cor Go.Free

theorem elemZ : ElemT Try.prog 27 24 (.agg #[.int .i64 0, .int .i64 0, .int .i64 0, .int .i64 0]) 4 32 := ⟨Try.underlying27, by kernel_rfl, rfl, by decide⟩

set_option maxRecDepth 100000 in
set_option maxHeartbeats 4000000 in
theorem own_any (A : Option Addr) (n c : Nat) (zs : List Zn) (w : World) (h : RdZ w A n c zs) (hn : n ≤ 1000) :
    Calls Try.prog 14 #[.slice A n c] w fun e w' => ∃ A' c', e = .returned (.slice A' n c') ∧ w'.ownsRow w.heap.size 24 4 (.slice A' n c') n (zcells zs) ∧ Below w.heap.size w w' := by
  have H := Lib.hid h
  have hl : zs.length = n := by have := h.len; rw [zcells_len] at this; omega
  have HL := Lib.hid hl
  clear h hl
  go_enter Try.func14, Try.ntmps14
  go_wp2
  go_loopw [3, 4, 5, 6, 7, 8, 9, 10, 11, 12, 13, 14, 15, 16, 17, 18, 19, 20, 21, 22, 23, 24, 25, 26, 27, 28, 29, 30, 31, 32, 33, 34] (fun v3 v4 _ _ _ _ _ _ _ _ _ _ _ _ _ _ _ _ _ _ _ _ _ _ _ _ _ _ _ _ _ _ wr => ∃ i : Nat, v4 = .int .i64 i ∧ i ≤ n ∧ ∃ A' c', v3 = .slice A' i c' ∧ Hid (wr.ownsRow w.heap.size 24 4 (.slice A' i c') i (zcells (zs.take i)) ∧ Below w.heap.size w wr))
    (fun _ v4 _ _ _ _ _ _ _ _ _ _ _ _ _ _ _ _ _ _ _ _ _ _ _ _ _ _ _ _ _ _ _ => n - (intOf v4).toNat)
  case atStart => exact ⟨0, rfl, by omega, none, 0, rfl, Lib.hid ⟨World.ownsRow_nil w _ _ _, Below.refl _ _⟩⟩
  case round =>
    obtain ⟨i, rfl, hi, A', c', rfl, hI⟩ := hrel
    by_cases hlt : i < n
    · obtain ⟨b, o, rfl, hbl, _⟩ := (H.out.below hI.out.2).get (by omega)
      have hil : i < zs.length := by have := HL.out; omega
      have hz : zs[i]? = some zs[i] := List.getElem?_eq_getElem hil
      have e1 : zcells (zs.take i) ++ (zr zs[i]).toList = zcells (zs.take (i + 1)) := by rw [List.take_add_one, hz, ← zcells_snoc]; rfl
      have hc0 := RdZ.cell (H.out.below hI.out.2) hz (show 0 < 4 by decide)
      have hc1 := RdZ.cell (H.out.below hI.out.2) hz (show 1 < 4 by decide)
      have hc2 := RdZ.cell (H.out.below hI.out.2) hz (show 2 < 4 by decide)
      have hc3 := RdZ.cell (H.out.below hI.out.2) hz (show 3 < 4 by decide)
      obtain ⟨z, hzz⟩ : ∃ z, zs[i] = z := ⟨_, rfl⟩
      rw [hzz] at e1 hc0 hc1 hc2 hc3
      obtain ⟨z1, z2, z3, z4⟩ := z
      have E1 := Lib.hid e1
      have C0 := Lib.hid (show wr.cell? ⟨b, o + i * 4, none⟩ = some (.int .i64 z1) from hc0)
      have C1 := Lib.hid (show wr.cell? ⟨b, o + i * 4 + 1, none⟩ = some (.int .i64 z2) from hc1)
      have C2 := Lib.hid (show wr.cell? ⟨b, o + i * 4 + 2, none⟩ = some (.int .i64 z3) from hc2)
      have C3 := Lib.hid (show wr.cell? ⟨b, o + i * 4 + 3, none⟩ = some (.int .i64 z4) from hc3)
      clear hil hz e1 hc0 hc1 hc2 hc3 hzz
      go_wp2_with fail
      refine wp_region_free 23 (by kernel_rfl) (by kernel_rfl) ?_
      refine chain_val (.slice A' i c') (S := [3]) rfl ?_ ?_
      · intro ρ w' hE hB hs
        have h3 : ρ (.tmp 3) = .slice A' i c' := hs 3 (by decide)
        clear hs
        refine if_t (by rfl) ?_
        (go_simp <;> exact wrapi64_in _ (by omega) (by omega))
      refine chain_val (.slice (some ⟨b, o, none⟩) n c) (S := [0]) rfl ?_ ?_
      · intro ρ w' hE hB hs
        have h0 : ρ (.tmp 0) = .slice (some ⟨b, o, none⟩) n c := hs 0 (by decide)
        clear hs
        refine if_t (by rfl) ?_
        (go_simp <;> exact wrapi64_in _ (by omega) (by omega))
      refine chain_val (.int .i64 (i : Int)) (S := [4]) rfl ?_ ?_
      · intro ρ w' hE hB hs
        have h4 : ρ (.tmp 4) = .int .i64 (i : Int) := hs 4 (by decide)
        clear hs
        refine if_t (by rfl) ?_
        (go_simp <;> exact wrapi64_in _ (by omega) (by omega))
      refine chain_val (.pointer (some ⟨b, o + i * 4, none⟩)) (S := [12, 13]) rfl ?_ ?_
      · intro ρ w' hE hB hs
        have h12 : ρ (.tmp 12) = .slice (some ⟨b, o, none⟩) n c := hs 12 (by decide)
        have h13 : ρ (.tmp 13) = .int .i64 (i : Int) := hs 13 (by decide)
        clear hs
        refine if_t (by rfl) ?_
        (go_simp <;> (intro hh; omega))
      refine chain_val (.pointer (some ⟨b, o + i * 4, none⟩)) (S := [14]) rfl ?_ ?_
      · intro ρ w' hE hB hs
        have h14 : ρ (.tmp 14) = .pointer (some ⟨b, o + i * 4, none⟩) := hs 14 (by decide)
        clear hs
        refine if_t (by rfl) ?_
        (go_simp <;> exact wrapi64_in _ (by omega) (by omega))
      refine chain_val (.int .i64 z1) (S := [15]) rfl ?_ ?_
      · intro ρ w' hE hB hs
        have h15 : ρ (.tmp 15) = .pointer (some ⟨b, o + i * 4, none⟩) := hs 15 (by decide)
        clear hs
        refine if_t (by rfl) ?_
        have hcl := (hB.cell (p := ⟨b, o + i * 4, none⟩) hbl).trans C0.out
        go_simp
      refine chain_val (.slice (some ⟨b, o, none⟩) n c) (S := [0]) rfl ?_ ?_
      · intro ρ w' hE hB hs
        have h0 : ρ (.tmp 0) = .slice (some ⟨b, o, none⟩) n c := hs 0 (by decide)
        clear hs
        refine if_t (by rfl) ?_
        (go_simp <;> exact wrapi64_in _ (by omega) (by omega))
      refine chain_val (.int .i64 (i : Int)) (S := [4]) rfl ?_ ?_
      · intro ρ w' hE hB hs
        have h4 : ρ (.tmp 4) = .int .i64 (i : Int) := hs 4 (by decide)
        clear hs
        refine if_t (by rfl) ?_
        (go_simp <;> exact wrapi64_in _ (by omega) (by omega))
      refine chain_val (.pointer (some ⟨b, o + i * 4, none⟩)) (S := [17, 18]) rfl ?_ ?_
      · intro ρ w' hE hB hs
        have h17 : ρ (.tmp 17) = .slice (some ⟨b, o, none⟩) n c := hs 17 (by decide)
        have h18 : ρ (.tmp 18) = .int .i64 (i : Int) := hs 18 (by decide)
        clear hs
        refine if_t (by rfl) ?_
        (go_simp <;> (intro hh; omega))
      refine chain_val (.pointer (some ⟨b, o + i * 4 + 1, none⟩)) (S := [19]) rfl ?_ ?_
      · intro ρ w' hE hB hs
        have h19 : ρ (.tmp 19) = .pointer (some ⟨b, o + i * 4, none⟩) := hs 19 (by decide)
        clear hs
        refine if_t (by rfl) ?_
        (go_simp <;> exact wrapi64_in _ (by omega) (by omega))
      refine chain_val (.int .i64 z2) (S := [20]) rfl ?_ ?_
      · intro ρ w' hE hB hs
        have h20 : ρ (.tmp 20) = .pointer (some ⟨b, o + i * 4 + 1, none⟩) := hs 20 (by decide)
        clear hs
        refine if_t (by rfl) ?_
        have hcl := (hB.cell (p := ⟨b, o + i * 4 + 1, none⟩) hbl).trans C1.out
        go_simp
      refine chain_val (.slice (some ⟨b, o, none⟩) n c) (S := [0]) rfl ?_ ?_
      · intro ρ w' hE hB hs
        have h0 : ρ (.tmp 0) = .slice (some ⟨b, o, none⟩) n c := hs 0 (by decide)
        clear hs
        refine if_t (by rfl) ?_
        (go_simp <;> exact wrapi64_in _ (by omega) (by omega))
      refine chain_val (.int .i64 (i : Int)) (S := [4]) rfl ?_ ?_
      · intro ρ w' hE hB hs
        have h4 : ρ (.tmp 4) = .int .i64 (i : Int) := hs 4 (by decide)
        clear hs
        refine if_t (by rfl) ?_
        (go_simp <;> exact wrapi64_in _ (by omega) (by omega))
      refine chain_val (.pointer (some ⟨b, o + i * 4, none⟩)) (S := [22, 23]) rfl ?_ ?_
      · intro ρ w' hE hB hs
        have h22 : ρ (.tmp 22) = .slice (some ⟨b, o, none⟩) n c := hs 22 (by decide)
        have h23 : ρ (.tmp 23) = .int .i64 (i : Int) := hs 23 (by decide)
        clear hs
        refine if_t (by rfl) ?_
        (go_simp <;> (intro hh; omega))
      refine chain_val (.pointer (some ⟨b, o + i * 4 + 2, none⟩)) (S := [24]) rfl ?_ ?_
      · intro ρ w' hE hB hs
        have h24 : ρ (.tmp 24) = .pointer (some ⟨b, o + i * 4, none⟩) := hs 24 (by decide)
        clear hs
        refine if_t (by rfl) ?_
        (go_simp <;> exact wrapi64_in _ (by omega) (by omega))
      refine chain_val (.int .i64 z3) (S := [25]) rfl ?_ ?_
      · intro ρ w' hE hB hs
        have h25 : ρ (.tmp 25) = .pointer (some ⟨b, o + i * 4 + 2, none⟩) := hs 25 (by decide)
        clear hs
        refine if_t (by rfl) ?_
        have hcl := (hB.cell (p := ⟨b, o + i * 4 + 2, none⟩) hbl).trans C2.out
        go_simp
      refine chain_val (.slice (some ⟨b, o, none⟩) n c) (S := [0]) rfl ?_ ?_
      · intro ρ w' hE hB hs
        have h0 : ρ (.tmp 0) = .slice (some ⟨b, o, none⟩) n c := hs 0 (by decide)
        clear hs
        refine if_t (by rfl) ?_
        (go_simp <;> exact wrapi64_in _ (by omega) (by omega))
      refine chain_val (.int .i64 (i : Int)) (S := [4]) rfl ?_ ?_
      · intro ρ w' hE hB hs
        have h4 : ρ (.tmp 4) = .int .i64 (i : Int) := hs 4 (by decide)
        clear hs
        refine if_t (by rfl) ?_
        (go_simp <;> exact wrapi64_in _ (by omega) (by omega))
      refine chain_val (.pointer (some ⟨b, o + i * 4, none⟩)) (S := [27, 28]) rfl ?_ ?_
      · intro ρ w' hE hB hs
        have h27 : ρ (.tmp 27) = .slice (some ⟨b, o, none⟩) n c := hs 27 (by decide)
        have h28 : ρ (.tmp 28) = .int .i64 (i : Int) := hs 28 (by decide)
        clear hs
        refine if_t (by rfl) ?_
        (go_simp <;> (intro hh; omega))
      refine chain_val (.pointer (some ⟨b, o + i * 4 + 3, none⟩)) (S := [29]) rfl ?_ ?_
      · intro ρ w' hE hB hs
        have h29 : ρ (.tmp 29) = .pointer (some ⟨b, o + i * 4, none⟩) := hs 29 (by decide)
        clear hs
        refine if_t (by rfl) ?_
        (go_simp <;> exact wrapi64_in _ (by omega) (by omega))
      refine chain_val (.int .i64 z4) (S := [30]) rfl ?_ ?_
      · intro ρ w' hE hB hs
        have h30 : ρ (.tmp 30) = .pointer (some ⟨b, o + i * 4 + 3, none⟩) := hs 30 (by decide)
        clear hs
        refine if_t (by rfl) ?_
        have hcl := (hB.cell (p := ⟨b, o + i * 4 + 3, none⟩) hbl).trans C3.out
        go_simp
      refine chain_val (.agg #[.int .i64 z1, .int .i64 z2, .int .i64 z3, .int .i64 z4]) (S := [16, 21, 26, 31]) rfl ?_ ?_
      · intro ρ w' hE hB hs
        have h16 : ρ (.tmp 16) = .int .i64 z1 := hs 16 (by decide)
        have h21 : ρ (.tmp 21) = .int .i64 z2 := hs 21 (by decide)
        have h26 : ρ (.tmp 26) = .int .i64 z3 := hs 26 (by decide)
        have h31 : ρ (.tmp 31) = .int .i64 z4 := hs 31 (by decide)
        clear hs
        refine if_t (by rfl) ?_
        (go_simp <;> exact wrapi64_in _ (by omega) (by omega))
      refine chain_make (RdZF [⟨z1, z2, z3, z4⟩]) (RdZF.stable _) (S := [32]) rfl ?_ ?_
      · intro ρ w' hE hB hs
        have h32 : ρ (.tmp 32) = .agg #[.int .i64 z1, .int .i64 z2, .int .i64 z3, .int .i64 z4] := hs 32 (by decide)
        clear hs
        exact ⟨(by rfl), .slice (some ⟨w'.heap.size, 0, none⟩) 1 1, w'.alloc (.cells (#[.int .i64 z1, .int .i64 z2, .int .i64 z3, .int .i64 z4]) 24), (by go_simp), (Below.refl _ _).alloc (Nat.le_refl _) _, ⟨_, _, _, rfl, RdZ.lit w' 24 ⟨z1, z2, z3, z4⟩⟩⟩
      intro w1 hB1
      simp only [List.reverse_cons, List.reverse_nil, List.nil_append, List.cons_append, Go.Free.Ends, forall_eq, Act.put, List.setIfInBounds_toArray, List.set_cons_zero, List.set_cons_succ]
      rintro _ ⟨A9, n9, c9, rfl, hr9⟩
      obtain rfl : n9 = 1 := by have := hr9.len; rw [zcells_len] at this; simp at this; omega
      have H9 := Lib.hid hr9
      clear hr9
      have HO := Lib.hid (owns_keep (S := fun _ _ => True) hI.out.1 (.of_below hB1) (fun _ _ _ => trivial))
      have HBB := Lib.hid (hI.out.2.trans (hB1.mono hI.out.2.size))
      have hsz := HBB.out.size
      clear hB1
      go_wp2_with (at_builtin; refine wpList_append_r rfl rfl elemZ HO.out rfl H9.out rfl (zcells_one _) (by omega) (by omega) hsz ?_; intro A2 c2 w2 hown hg _)
      go_roundw
      case rel =>
        refine ⟨i + 1, by go_num, by omega, A2, c2, rfl, Lib.hid ⟨?_, below_grown HBB.out HO.out hg hsz⟩⟩
        rw [← E1.out]
        simpa [zcells, zr] using hown
      case measure => simp [intOf] <;> omega
    · go_wp2
      go_ret
      obtain rfl : i = n := by omega
      have e := hI.out.1
      rw [List.take_of_length_le (by have := HL.out; omega)] at e
      exact ⟨A', c', rfl, e, hI.out.2⟩
end Go.Proofs.Ythpndhdpohmoaaa
