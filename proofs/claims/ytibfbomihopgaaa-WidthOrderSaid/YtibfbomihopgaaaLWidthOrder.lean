/-
  WidthOrder: for every input the law returns true; each argument reads behind the call as it read before. No condition. (Printed by wip/genorder.py.)
-/
import Derived.Test.YtibfbomihopgaaaWidA
import Derived.Test.YtibfbomihopgaaaWidF
import Derived.Deep.LoopGhost
import Derived.ChangeOld
namespace Go.Cor
def seenM (m : Int) (l : List Int) (i : Nat) : Bool := (l.take i).any (· == m)
theorem seenM_succ {m : Int} {l : List Int} {i : Nat} (h : i < l.length) : seenM m l (i + 1) = (seenM m l i || (l[i]?.getD 0 == m)) := by
  unfold seenM; rw [take_snoc h, List.any_append]; simp
theorem seenM_all {l : List Int} : seenM (least l) l l.length = decide (0 < l.length) := by
  unfold seenM
  rw [List.take_length]
  by_cases h : l = []
  · subst h; rfl
  · have := least_mem h
    have hp : 0 < l.length := List.length_pos_iff.2 h
    rw [decide_eq_true hp, List.any_eq_true]
    exact ⟨_, this, by simp⟩
theorem offset_get {m : Int} {l : List Int} {i : Nat} (h : i < l.length) (h1 : m ≤ l[i]?.getD 0) (h2 : -9223372036854775808 ≤ m) (h3 : l[i]?.getD 0 ≤ 9223372036854775807) :
    (offsets m l)[i]?.getD 0 = l[i]?.getD 0 - m := by
  unfold offsets
  rw [List.getElem?_map]
  rw [List.getElem?_eq_getElem h] at *
  simp only [Option.map_some, Option.getD_some] at *
  unfold wu64; omega
end Go.Cor
namespace Go.Proofs.Ytibfbomihopgaaa
open Go.RowKit Go.Cor Go.Free

set_option maxRecDepth 100000 in
set_option maxHeartbeats 4000000 in
theorem WidthOrder_walk (W : World) (A : Option Addr) (n c : Nat) (xs : List Int) (h : Rd W .i64 A n c xs) (hi : In .i64 xs) :
    Calls Try.prog 9 #[.slice A n c] W fun e w' => e = .returned (.bool true) ∧ Below W.heap.size W w' := by
  by_cases hn : 200 < n
  · clear h hi
    go_enter Try.func9, Try.ntmps9
    go_wp2
    go_ret
    exact ⟨rfl, Below.refl _ _⟩
  have hn2 : n ≤ 200 := by omega
  clear hn
  have H := Lib.hid h
  have hl := h.len
  by_cases h0 : 0 < n
  · have hne : xs ≠ [] := by intro e; subst e; simp at hl; omega
    have hlm : -9223372036854775808 ≤ least xs := (hi _ (least_mem hne)).1
    have hget : ∀ i, i < n → least xs ≤ xs[i]?.getD 0 ∧ xs[i]?.getD 0 ≤ 9223372036854775807 ∧ (offsets (least xs) xs)[i]?.getD 0 = xs[i]?.getD 0 - least xs := by
      intro i hi'
      have hm : xs[i]?.getD 0 ∈ xs := by rw [List.getElem?_eq_getElem (by omega)]; exact List.getElem_mem _
      have q1 := least_le _ hm
      have q2 := (hi _ hm).2
      exact ⟨q1, q2, offset_get (by omega) q1 hlm q2⟩
    have hend : seenM (least xs) xs n = true := by have := seenM_all (l := xs); rw [hl] at this; rw [this]; simpa using h0
    have hoff := offsets_any (least xs) A n c xs W h (by omega)
    have hlen : (offsets (least xs) xs).length = n := by unfold offsets; simpa using hl
    have hleast := least_any A n c xs W h (by omega)
    rw [decide_eq_true h0] at hleast
    obtain ⟨m, hm⟩ : ∃ m, least xs = m := ⟨_, rfl⟩
    obtain ⟨os, hos⟩ : ∃ os, offsets (least xs) xs = os := ⟨_, rfl⟩
    rw [hos] at hget hoff hlen
    rw [hm] at hget hend hoff hleast
    have HG := Lib.hid hget
    have HE := Lib.hid hend
    have HO := Lib.hid hoff
    have HL := Lib.hid hleast
    have HN := Lib.hid hlen
    have HLL := Lib.hid hl
    clear hi hget hend hoff hleast hlen hl hos hm hne hlm h
    go_enter Try.func9, Try.ntmps9
    go_wp2_with fail
    refine HL.out.mono ?_
    rintro e w' ⟨rfl, rfl⟩
    go_wp2_with fail
    refine HO.out.mono ?_
    rintro e w1 ⟨A1, n1, c1, rfl, hown1, hb1⟩
    obtain rfl : n1 = n := by have := row_len hown1; have := HN.out; omega
    have H1 := Lib.hid (Rd.own hown1)
    have HB1 := Lib.hid hb1
    clear hown1 hb1
    go_wp2_with fail
    go_loopg [6, 7, 8, 32, 33, 34, 35, 36, 37, 38, 39, 40, 41, 42, 43, 44, 45, 46, 47, 48, 49, 50, 51, 52, 53, 54, 55, 56, 57, 58, 59, 60, 61, 62, 63, 64, 65, 66, 67, 68, 69, 70, 71, 72, 73] n1 (fun g v6 v7 _ _ _ _ _ _ _ _ _ _ _ _ _ _ _ _ _ _ _ _ _ _ _ _ _ _ _ _ _ _ _ _ _ _ _ _ _ _ _ _ _ _ _ wr => ∃ i : Nat, v7 = .int .i64 i ∧ i ≤ n1 ∧ g = n1 - i ∧ ∃ q : Bool, v6 = .bool q ∧ Hid (q = seenM m xs i ∧ Below w1.heap.size w1 wr))
    case atStart => exact ⟨0, rfl, by omega, by omega, false, rfl, Lib.hid ⟨rfl, Below.refl _ _⟩⟩
    case round =>
      obtain ⟨i, rfl, hi, rfl, q, rfl, hI⟩ := hrel
      by_cases hlt : i < n1
      · have hq : seenM m xs (i + 1) = (seenM m xs i || (xs[i]?.getD 0 == m)) := seenM_succ (by have := HLL.out; omega)
        rw [← hI.out.1] at hq
        obtain ⟨b, o, rfl, hbl, hc⟩ := (H.out.below (HB1.out.trans (hI.out.2.mono HB1.out.size))).get (by omega)
        obtain ⟨b', o', rfl, hbl', hc'⟩ := (H1.out.below hI.out.2).get (by omega)
        have hcx := hc i hlt
        have hcy := hc' i hlt
        rw [List.getD_eq_getElem?_getD] at hcx hcy
        obtain ⟨g1, g2, g3⟩ := HG.out i hlt
        rw [g3] at hcy
        obtain ⟨x, hx⟩ : ∃ x, xs[i]?.getD 0 = x := ⟨_, rfl⟩
        have HX := Lib.hid hx
        rw [hx] at hcx hcy hq g1 g2
        have HQ := Lib.hid hq
        have HCX := Lib.hid hcx
        have HCY := Lib.hid hcy
        clear hq hx g3 hc hc' hcx
        have key : ∀ q' : Bool, (q || (x == m)) = q' → Hid (seenM m xs (i + 1) = q') := fun q' e => Lib.hid (by rw [HQ.out, e])
        have KEY := Lib.hid key
        clear key
        have hxm : (x - m == 0) = (x == m) := by rw [Bool.eq_iff_iff]; simp only [beq_iff_eq]; omega
        have HXM := Lib.hid hxm
        clear hxm
        obtain ⟨q2, hq2⟩ : ∃ q2, (q || (x == m)) = q2 := ⟨_, rfl⟩
        have HQ2 := Lib.hid hq2
        have HS := KEY.out q2 hq2
        clear hq2
        have hbody : ∀ z : Int, z = x → True := fun _ _ => trivial
        clear hbody
        cases q with
        | true =>
          obtain rfl : q2 = true := by have := HQ2.out; simpa using this.symm
          go_wp2_with fail
          go_loopg [8, 46, 47, 48, 49, 50, 51, 52, 53, 54, 55, 56, 57, 58, 59, 60, 61, 62, 63, 64, 65, 66, 67, 68, 69, 70, 71, 72, 73] i (fun g v8 _ _ _ _ _ _ _ _ _ _ _ _ _ _ _ _ _ _ _ _ _ _ _ _ _ _ _ _ wi => ∃ k : Nat, v8 = .int .i64 k ∧ k ≤ i ∧ g = i - k ∧ Hid (Below w1.heap.size w1 wi))
          case atStart => exact ⟨0, rfl, by omega, by omega, Lib.hid hI.out.2⟩
          case round =>
            obtain ⟨k, rfl, hk, rfl, hJ⟩ := hrel
            by_cases hkl : k < i ∧ k < 40
            · obtain ⟨hk1, hk2⟩ := hkl
              obtain ⟨g1', g2', g3'⟩ := HG.out k (by omega)
              obtain ⟨b1, o1, hA1, hbl1, hc1⟩ := (H.out.below (HB1.out.trans (hJ.out.mono HB1.out.size))).get (by omega)
              obtain ⟨b2, o2, hA2, hbl2, hc2⟩ := (H1.out.below hJ.out).get (by omega)
              injection hA1 with hA1
              injection hA1 with hA11 hA12
              subst hA11 hA12
              injection hA2 with hA2
              injection hA2 with hA21 hA22
              subst hA21 hA22
              have c1x := hc1 k (by omega)
              have c1y := hc2 k (by omega)
              have c2x := hc1 i hlt
              have c2y := hc2 i hlt
              rw [List.getD_eq_getElem?_getD] at c1x c1y c2x c2y
              obtain ⟨_, _, g3''⟩ := HG.out i hlt
              rw [g3', ] at c1y
              rw [g3''] at c2y
              rw [HX.out] at c2x c2y
              obtain ⟨y, hy⟩ : ∃ y, xs[k]?.getD 0 = y := ⟨_, rfl⟩
              rw [hy] at c1x c1y g1' g2'
              have C1X := Lib.hid c1x
              have C1Y := Lib.hid c1y
              have C2X := Lib.hid c2x
              have C2Y := Lib.hid c2y
              clear hc1 hc2 c1x c1y c2x c2y g3' g3'' hy
              go_wp2_with fail
              refine wp_region_free 19 (by kernel_rfl) (by kernel_rfl) ?_
              refine chain_val (.slice (some ⟨b, o, none⟩) n1 c) (S := [0]) rfl ?_ ?_
              · intro ρ w' hE hB hs
                have h0 : ρ (.tmp 0) = .slice (some ⟨b, o, none⟩) n1 c := hs 0 (by decide)
                clear hs
                refine if_t (by rfl) ?_
                (go_simp <;> exact wrapi64_in _ (by omega) (by omega))
              refine chain_val (.int .i64 (k : Int)) (S := [8]) rfl ?_ ?_
              · intro ρ w' hE hB hs
                have h8 : ρ (.tmp 8) = .int .i64 (k : Int) := hs 8 (by decide)
                clear hs
                refine if_t (by rfl) ?_
                (go_simp <;> exact wrapi64_in _ (by omega) (by omega))
              refine chain_val (.pointer (some ⟨b, o + k, none⟩)) (S := [55, 56]) rfl ?_ ?_
              · intro ρ w' hE hB hs
                have h55 : ρ (.tmp 55) = .slice (some ⟨b, o, none⟩) n1 c := hs 55 (by decide)
                have h56 : ρ (.tmp 56) = .int .i64 (k : Int) := hs 56 (by decide)
                clear hs
                refine if_t (by rfl) ?_
                (go_simp <;> (intro hh; omega))
              refine chain_val (.int .i64 y) (S := [57]) rfl ?_ ?_
              · intro ρ w' hE hB hs
                have h57 : ρ (.tmp 57) = .pointer (some ⟨b, o + k, none⟩) := hs 57 (by decide)
                clear hs
                refine if_t (by rfl) ?_
                have hcl := (hB.cell (p := ⟨b, o + k, none⟩) hbl1).trans C1X.out
                go_simp
              refine chain_val (.slice (some ⟨b, o, none⟩) n1 c) (S := [0]) rfl ?_ ?_
              · intro ρ w' hE hB hs
                have h0 : ρ (.tmp 0) = .slice (some ⟨b, o, none⟩) n1 c := hs 0 (by decide)
                clear hs
                refine if_t (by rfl) ?_
                (go_simp <;> exact wrapi64_in _ (by omega) (by omega))
              refine chain_val (.int .i64 (i : Int)) (S := [7]) rfl ?_ ?_
              · intro ρ w' hE hB hs
                have h7 : ρ (.tmp 7) = .int .i64 (i : Int) := hs 7 (by decide)
                clear hs
                refine if_t (by rfl) ?_
                (go_simp <;> exact wrapi64_in _ (by omega) (by omega))
              refine chain_val (.pointer (some ⟨b, o + i, none⟩)) (S := [59, 60]) rfl ?_ ?_
              · intro ρ w' hE hB hs
                have h59 : ρ (.tmp 59) = .slice (some ⟨b, o, none⟩) n1 c := hs 59 (by decide)
                have h60 : ρ (.tmp 60) = .int .i64 (i : Int) := hs 60 (by decide)
                clear hs
                refine if_t (by rfl) ?_
                (go_simp <;> (intro hh; omega))
              refine chain_val (.int .i64 x) (S := [61]) rfl ?_ ?_
              · intro ρ w' hE hB hs
                have h61 : ρ (.tmp 61) = .pointer (some ⟨b, o + i, none⟩) := hs 61 (by decide)
                clear hs
                refine if_t (by rfl) ?_
                have hcl := (hB.cell (p := ⟨b, o + i, none⟩) hbl1).trans C2X.out
                go_simp
              refine chain_val (.bool (decide (y < x))) (S := [58, 62]) rfl ?_ ?_
              · intro ρ w' hE hB hs
                have h58 : ρ (.tmp 58) = .int .i64 y := hs 58 (by decide)
                have h62 : ρ (.tmp 62) = .int .i64 x := hs 62 (by decide)
                clear hs
                refine if_t (by rfl) ?_
                (go_simp <;> exact wrapi64_in _ (by omega) (by omega))
              refine chain_val (.slice (some ⟨b', o', none⟩) n1 c1) (S := [5]) rfl ?_ ?_
              · intro ρ w' hE hB hs
                have h5 : ρ (.tmp 5) = .slice (some ⟨b', o', none⟩) n1 c1 := hs 5 (by decide)
                clear hs
                refine if_t (by rfl) ?_
                (go_simp <;> exact wrapi64_in _ (by omega) (by omega))
              refine chain_val (.int .i64 (k : Int)) (S := [8]) rfl ?_ ?_
              · intro ρ w' hE hB hs
                have h8 : ρ (.tmp 8) = .int .i64 (k : Int) := hs 8 (by decide)
                clear hs
                refine if_t (by rfl) ?_
                (go_simp <;> exact wrapi64_in _ (by omega) (by omega))
              refine chain_val (.pointer (some ⟨b', o' + k, none⟩)) (S := [64, 65]) rfl ?_ ?_
              · intro ρ w' hE hB hs
                have h64 : ρ (.tmp 64) = .slice (some ⟨b', o', none⟩) n1 c1 := hs 64 (by decide)
                have h65 : ρ (.tmp 65) = .int .i64 (k : Int) := hs 65 (by decide)
                clear hs
                refine if_t (by rfl) ?_
                (go_simp <;> (intro hh; omega))
              refine chain_val (.int .u64 (y - m)) (S := [66]) rfl ?_ ?_
              · intro ρ w' hE hB hs
                have h66 : ρ (.tmp 66) = .pointer (some ⟨b', o' + k, none⟩) := hs 66 (by decide)
                clear hs
                refine if_t (by rfl) ?_
                have hcl := (hB.cell (p := ⟨b', o' + k, none⟩) hbl2).trans C1Y.out
                go_simp
              refine chain_val (.slice (some ⟨b', o', none⟩) n1 c1) (S := [5]) rfl ?_ ?_
              · intro ρ w' hE hB hs
                have h5 : ρ (.tmp 5) = .slice (some ⟨b', o', none⟩) n1 c1 := hs 5 (by decide)
                clear hs
                refine if_t (by rfl) ?_
                (go_simp <;> exact wrapi64_in _ (by omega) (by omega))
              refine chain_val (.int .i64 (i : Int)) (S := [7]) rfl ?_ ?_
              · intro ρ w' hE hB hs
                have h7 : ρ (.tmp 7) = .int .i64 (i : Int) := hs 7 (by decide)
                clear hs
                refine if_t (by rfl) ?_
                (go_simp <;> exact wrapi64_in _ (by omega) (by omega))
              refine chain_val (.pointer (some ⟨b', o' + i, none⟩)) (S := [68, 69]) rfl ?_ ?_
              · intro ρ w' hE hB hs
                have h68 : ρ (.tmp 68) = .slice (some ⟨b', o', none⟩) n1 c1 := hs 68 (by decide)
                have h69 : ρ (.tmp 69) = .int .i64 (i : Int) := hs 69 (by decide)
                clear hs
                refine if_t (by rfl) ?_
                (go_simp <;> (intro hh; omega))
              refine chain_val (.int .u64 (x - m)) (S := [70]) rfl ?_ ?_
              · intro ρ w' hE hB hs
                have h70 : ρ (.tmp 70) = .pointer (some ⟨b', o' + i, none⟩) := hs 70 (by decide)
                clear hs
                refine if_t (by rfl) ?_
                have hcl := (hB.cell (p := ⟨b', o' + i, none⟩) hbl2).trans C2Y.out
                go_simp
              refine chain_val (.bool (decide (y < x))) (S := [67, 71]) rfl ?_ ?_
              · intro ρ w' hE hB hs
                have h67 : ρ (.tmp 67) = .int .u64 (y - m) := hs 67 (by decide)
                have h71 : ρ (.tmp 71) = .int .u64 (x - m) := hs 71 (by decide)
                clear hs
                refine if_t (by rfl) ?_
                have e : (y - m < x - m) = (y < x) := by rw [eq_iff_iff]; omega
                go_simp
              refine chain_val (.bool false) (S := [63, 72]) rfl ?_ ?_
              · intro ρ w' hE hB hs
                have h63 : ρ (.tmp 63) = .bool (decide (y < x)) := hs 63 (by decide)
                have h72 : ρ (.tmp 72) = .bool (decide (y < x)) := hs 72 (by decide)
                clear hs
                refine if_t (by rfl) ?_
                (go_simp <;> exact wrapi64_in _ (by omega) (by omega))
              intro w1 hB1
              simp only [List.reverse_cons, List.reverse_nil, List.nil_append, List.cons_append, Go.Free.Ends, forall_eq, Act.put, List.setIfInBounds_toArray, List.set_cons_zero, List.set_cons_succ]
              have HB2 := Lib.hid (hJ.out.trans (hB1.mono hJ.out.size))
              clear hB1
              go_wp2
              go_roundg (i - (k + 1))
              case measure => omega
              case rel => exact ⟨k + 1, by go_num, by omega, rfl, HB2⟩
            · have hfin : i ≤ k ∨ 40 ≤ k := by omega
              rcases hfin with hfin | hfin
              · go_wp2
                go_roundg (n1 - (i + 1))
                case measure => omega
                case rel => exact ⟨i + 1, by go_num, by omega, rfl, _, rfl, Lib.hid ⟨HS.out.symm, hJ.out⟩⟩
              · go_wp2
                all_goals (go_roundg (n1 - (i + 1)))
                all_goals first | omega | exact ⟨i + 1, by go_num, by omega, rfl, _, rfl, Lib.hid ⟨HS.out.symm, hJ.out⟩⟩
        | false =>
          by_cases hxm : x = m
          · have e : (x == m) = true := by simpa using hxm
            obtain rfl : q2 = true := by have := HQ2.out; rw [e] at this; exact this.symm
            have hz : x - m = 0 := by omega
            rw [hz] at hcy
            have HXE := Lib.hid hxm
            clear hz e hxm
            go_wp2_with fail
            go_loopg [8, 46, 47, 48, 49, 50, 51, 52, 53, 54, 55, 56, 57, 58, 59, 60, 61, 62, 63, 64, 65, 66, 67, 68, 69, 70, 71, 72, 73] i (fun g v8 _ _ _ _ _ _ _ _ _ _ _ _ _ _ _ _ _ _ _ _ _ _ _ _ _ _ _ _ wi => ∃ k : Nat, v8 = .int .i64 k ∧ k ≤ i ∧ g = i - k ∧ Hid (Below w1.heap.size w1 wi))
            case atStart => exact ⟨0, rfl, by omega, by omega, Lib.hid hI.out.2⟩
            case round =>
              obtain ⟨k, rfl, hk, rfl, hJ⟩ := hrel
              by_cases hkl : k < i ∧ k < 40
              · obtain ⟨hk1, hk2⟩ := hkl
                obtain ⟨g1', g2', g3'⟩ := HG.out k (by omega)
                obtain ⟨b1, o1, hA1, hbl1, hc1⟩ := (H.out.below (HB1.out.trans (hJ.out.mono HB1.out.size))).get (by omega)
                obtain ⟨b2, o2, hA2, hbl2, hc2⟩ := (H1.out.below hJ.out).get (by omega)
                injection hA1 with hA1
                injection hA1 with hA11 hA12
                subst hA11 hA12
                injection hA2 with hA2
                injection hA2 with hA21 hA22
                subst hA21 hA22
                have c1x := hc1 k (by omega)
                have c1y := hc2 k (by omega)
                have c2x := hc1 i hlt
                have c2y := hc2 i hlt
                rw [List.getD_eq_getElem?_getD] at c1x c1y c2x c2y
                obtain ⟨_, _, g3''⟩ := HG.out i hlt
                rw [g3', ] at c1y
                rw [g3''] at c2y
                rw [HX.out] at c2x c2y
                obtain ⟨y, hy⟩ : ∃ y, xs[k]?.getD 0 = y := ⟨_, rfl⟩
                rw [hy] at c1x c1y g1' g2'
                have C1X := Lib.hid c1x
                have C1Y := Lib.hid c1y
                have C2X := Lib.hid c2x
                have C2Y := Lib.hid c2y
                clear hc1 hc2 c1x c1y c2x c2y g3' g3'' hy
                go_wp2_with fail
                refine wp_region_free 19 (by kernel_rfl) (by kernel_rfl) ?_
                refine chain_val (.slice (some ⟨b, o, none⟩) n1 c) (S := [0]) rfl ?_ ?_
                · intro ρ w' hE hB hs
                  have h0 : ρ (.tmp 0) = .slice (some ⟨b, o, none⟩) n1 c := hs 0 (by decide)
                  clear hs
                  refine if_t (by rfl) ?_
                  (go_simp <;> exact wrapi64_in _ (by omega) (by omega))
                refine chain_val (.int .i64 (k : Int)) (S := [8]) rfl ?_ ?_
                · intro ρ w' hE hB hs
                  have h8 : ρ (.tmp 8) = .int .i64 (k : Int) := hs 8 (by decide)
                  clear hs
                  refine if_t (by rfl) ?_
                  (go_simp <;> exact wrapi64_in _ (by omega) (by omega))
                refine chain_val (.pointer (some ⟨b, o + k, none⟩)) (S := [55, 56]) rfl ?_ ?_
                · intro ρ w' hE hB hs
                  have h55 : ρ (.tmp 55) = .slice (some ⟨b, o, none⟩) n1 c := hs 55 (by decide)
                  have h56 : ρ (.tmp 56) = .int .i64 (k : Int) := hs 56 (by decide)
                  clear hs
                  refine if_t (by rfl) ?_
                  (go_simp <;> (intro hh; omega))
                refine chain_val (.int .i64 y) (S := [57]) rfl ?_ ?_
                · intro ρ w' hE hB hs
                  have h57 : ρ (.tmp 57) = .pointer (some ⟨b, o + k, none⟩) := hs 57 (by decide)
                  clear hs
                  refine if_t (by rfl) ?_
                  have hcl := (hB.cell (p := ⟨b, o + k, none⟩) hbl1).trans C1X.out
                  go_simp
                refine chain_val (.slice (some ⟨b, o, none⟩) n1 c) (S := [0]) rfl ?_ ?_
                · intro ρ w' hE hB hs
                  have h0 : ρ (.tmp 0) = .slice (some ⟨b, o, none⟩) n1 c := hs 0 (by decide)
                  clear hs
                  refine if_t (by rfl) ?_
                  (go_simp <;> exact wrapi64_in _ (by omega) (by omega))
                refine chain_val (.int .i64 (i : Int)) (S := [7]) rfl ?_ ?_
                · intro ρ w' hE hB hs
                  have h7 : ρ (.tmp 7) = .int .i64 (i : Int) := hs 7 (by decide)
                  clear hs
                  refine if_t (by rfl) ?_
                  (go_simp <;> exact wrapi64_in _ (by omega) (by omega))
                refine chain_val (.pointer (some ⟨b, o + i, none⟩)) (S := [59, 60]) rfl ?_ ?_
                · intro ρ w' hE hB hs
                  have h59 : ρ (.tmp 59) = .slice (some ⟨b, o, none⟩) n1 c := hs 59 (by decide)
                  have h60 : ρ (.tmp 60) = .int .i64 (i : Int) := hs 60 (by decide)
                  clear hs
                  refine if_t (by rfl) ?_
                  (go_simp <;> (intro hh; omega))
                refine chain_val (.int .i64 x) (S := [61]) rfl ?_ ?_
                · intro ρ w' hE hB hs
                  have h61 : ρ (.tmp 61) = .pointer (some ⟨b, o + i, none⟩) := hs 61 (by decide)
                  clear hs
                  refine if_t (by rfl) ?_
                  have hcl := (hB.cell (p := ⟨b, o + i, none⟩) hbl1).trans C2X.out
                  go_simp
                refine chain_val (.bool (decide (y < x))) (S := [58, 62]) rfl ?_ ?_
                · intro ρ w' hE hB hs
                  have h58 : ρ (.tmp 58) = .int .i64 y := hs 58 (by decide)
                  have h62 : ρ (.tmp 62) = .int .i64 x := hs 62 (by decide)
                  clear hs
                  refine if_t (by rfl) ?_
                  (go_simp <;> exact wrapi64_in _ (by omega) (by omega))
                refine chain_val (.slice (some ⟨b', o', none⟩) n1 c1) (S := [5]) rfl ?_ ?_
                · intro ρ w' hE hB hs
                  have h5 : ρ (.tmp 5) = .slice (some ⟨b', o', none⟩) n1 c1 := hs 5 (by decide)
                  clear hs
                  refine if_t (by rfl) ?_
                  (go_simp <;> exact wrapi64_in _ (by omega) (by omega))
                refine chain_val (.int .i64 (k : Int)) (S := [8]) rfl ?_ ?_
                · intro ρ w' hE hB hs
                  have h8 : ρ (.tmp 8) = .int .i64 (k : Int) := hs 8 (by decide)
                  clear hs
                  refine if_t (by rfl) ?_
                  (go_simp <;> exact wrapi64_in _ (by omega) (by omega))
                refine chain_val (.pointer (some ⟨b', o' + k, none⟩)) (S := [64, 65]) rfl ?_ ?_
                · intro ρ w' hE hB hs
                  have h64 : ρ (.tmp 64) = .slice (some ⟨b', o', none⟩) n1 c1 := hs 64 (by decide)
                  have h65 : ρ (.tmp 65) = .int .i64 (k : Int) := hs 65 (by decide)
                  clear hs
                  refine if_t (by rfl) ?_
                  (go_simp <;> (intro hh; omega))
                refine chain_val (.int .u64 (y - m)) (S := [66]) rfl ?_ ?_
                · intro ρ w' hE hB hs
                  have h66 : ρ (.tmp 66) = .pointer (some ⟨b', o' + k, none⟩) := hs 66 (by decide)
                  clear hs
                  refine if_t (by rfl) ?_
                  have hcl := (hB.cell (p := ⟨b', o' + k, none⟩) hbl2).trans C1Y.out
                  go_simp
                refine chain_val (.slice (some ⟨b', o', none⟩) n1 c1) (S := [5]) rfl ?_ ?_
                · intro ρ w' hE hB hs
                  have h5 : ρ (.tmp 5) = .slice (some ⟨b', o', none⟩) n1 c1 := hs 5 (by decide)
                  clear hs
                  refine if_t (by rfl) ?_
                  (go_simp <;> exact wrapi64_in _ (by omega) (by omega))
                refine chain_val (.int .i64 (i : Int)) (S := [7]) rfl ?_ ?_
                · intro ρ w' hE hB hs
                  have h7 : ρ (.tmp 7) = .int .i64 (i : Int) := hs 7 (by decide)
                  clear hs
                  refine if_t (by rfl) ?_
                  (go_simp <;> exact wrapi64_in _ (by omega) (by omega))
                refine chain_val (.pointer (some ⟨b', o' + i, none⟩)) (S := [68, 69]) rfl ?_ ?_
                · intro ρ w' hE hB hs
                  have h68 : ρ (.tmp 68) = .slice (some ⟨b', o', none⟩) n1 c1 := hs 68 (by decide)
                  have h69 : ρ (.tmp 69) = .int .i64 (i : Int) := hs 69 (by decide)
                  clear hs
                  refine if_t (by rfl) ?_
                  (go_simp <;> (intro hh; omega))
                refine chain_val (.int .u64 (x - m)) (S := [70]) rfl ?_ ?_
                · intro ρ w' hE hB hs
                  have h70 : ρ (.tmp 70) = .pointer (some ⟨b', o' + i, none⟩) := hs 70 (by decide)
                  clear hs
                  refine if_t (by rfl) ?_
                  have hcl := (hB.cell (p := ⟨b', o' + i, none⟩) hbl2).trans C2Y.out
                  go_simp
                refine chain_val (.bool (decide (y < x))) (S := [67, 71]) rfl ?_ ?_
                · intro ρ w' hE hB hs
                  have h67 : ρ (.tmp 67) = .int .u64 (y - m) := hs 67 (by decide)
                  have h71 : ρ (.tmp 71) = .int .u64 (x - m) := hs 71 (by decide)
                  clear hs
                  refine if_t (by rfl) ?_
                  have e : (y - m < x - m) = (y < x) := by rw [eq_iff_iff]; omega
                  go_simp
                refine chain_val (.bool false) (S := [63, 72]) rfl ?_ ?_
                · intro ρ w' hE hB hs
                  have h63 : ρ (.tmp 63) = .bool (decide (y < x)) := hs 63 (by decide)
                  have h72 : ρ (.tmp 72) = .bool (decide (y < x)) := hs 72 (by decide)
                  clear hs
                  refine if_t (by rfl) ?_
                  (go_simp <;> exact wrapi64_in _ (by omega) (by omega))
                intro w1 hB1
                simp only [List.reverse_cons, List.reverse_nil, List.nil_append, List.cons_append, Go.Free.Ends, forall_eq, Act.put, List.setIfInBounds_toArray, List.set_cons_zero, List.set_cons_succ]
                have HB2 := Lib.hid (hJ.out.trans (hB1.mono hJ.out.size))
                clear hB1
                go_wp2
                go_roundg (i - (k + 1))
                case measure => omega
                case rel => exact ⟨k + 1, by go_num, by omega, rfl, HB2⟩
              · have hfin : i ≤ k ∨ 40 ≤ k := by omega
                rcases hfin with hfin | hfin
                · go_wp2
                  go_roundg (n1 - (i + 1))
                  case measure => omega
                  case rel => exact ⟨i + 1, by go_num, by omega, rfl, _, rfl, Lib.hid ⟨HS.out.symm, hJ.out⟩⟩
                · go_wp2
                  all_goals (go_roundg (n1 - (i + 1)))
                  all_goals first | omega | exact ⟨i + 1, by go_num, by omega, rfl, _, rfl, Lib.hid ⟨HS.out.symm, hJ.out⟩⟩
          · have e : (x == m) = false := by simpa using hxm
            obtain rfl : q2 = false := by have := HQ2.out; rw [e] at this; exact this.symm
            clear e
            have hz : (x - m == 0) = false := by simp; omega
            have HXE := Lib.hid hxm
            clear hxm
            go_wp2_with fail
            go_loopg [8, 46, 47, 48, 49, 50, 51, 52, 53, 54, 55, 56, 57, 58, 59, 60, 61, 62, 63, 64, 65, 66, 67, 68, 69, 70, 71, 72, 73] i (fun g v8 _ _ _ _ _ _ _ _ _ _ _ _ _ _ _ _ _ _ _ _ _ _ _ _ _ _ _ _ wi => ∃ k : Nat, v8 = .int .i64 k ∧ k ≤ i ∧ g = i - k ∧ Hid (Below w1.heap.size w1 wi))
            case atStart => exact ⟨0, rfl, by omega, by omega, Lib.hid hI.out.2⟩
            case round =>
              obtain ⟨k, rfl, hk, rfl, hJ⟩ := hrel
              by_cases hkl : k < i ∧ k < 40
              · obtain ⟨hk1, hk2⟩ := hkl
                obtain ⟨g1', g2', g3'⟩ := HG.out k (by omega)
                obtain ⟨b1, o1, hA1, hbl1, hc1⟩ := (H.out.below (HB1.out.trans (hJ.out.mono HB1.out.size))).get (by omega)
                obtain ⟨b2, o2, hA2, hbl2, hc2⟩ := (H1.out.below hJ.out).get (by omega)
                injection hA1 with hA1
                injection hA1 with hA11 hA12
                subst hA11 hA12
                injection hA2 with hA2
                injection hA2 with hA21 hA22
                subst hA21 hA22
                have c1x := hc1 k (by omega)
                have c1y := hc2 k (by omega)
                have c2x := hc1 i hlt
                have c2y := hc2 i hlt
                rw [List.getD_eq_getElem?_getD] at c1x c1y c2x c2y
                obtain ⟨_, _, g3''⟩ := HG.out i hlt
                rw [g3', ] at c1y
                rw [g3''] at c2y
                rw [HX.out] at c2x c2y
                obtain ⟨y, hy⟩ : ∃ y, xs[k]?.getD 0 = y := ⟨_, rfl⟩
                rw [hy] at c1x c1y g1' g2'
                have C1X := Lib.hid c1x
                have C1Y := Lib.hid c1y
                have C2X := Lib.hid c2x
                have C2Y := Lib.hid c2y
                clear hc1 hc2 c1x c1y c2x c2y g3' g3'' hy
                go_wp2_with fail
                refine wp_region_free 19 (by kernel_rfl) (by kernel_rfl) ?_
                refine chain_val (.slice (some ⟨b, o, none⟩) n1 c) (S := [0]) rfl ?_ ?_
                · intro ρ w' hE hB hs
                  have h0 : ρ (.tmp 0) = .slice (some ⟨b, o, none⟩) n1 c := hs 0 (by decide)
                  clear hs
                  refine if_t (by rfl) ?_
                  (go_simp <;> exact wrapi64_in _ (by omega) (by omega))
                refine chain_val (.int .i64 (k : Int)) (S := [8]) rfl ?_ ?_
                · intro ρ w' hE hB hs
                  have h8 : ρ (.tmp 8) = .int .i64 (k : Int) := hs 8 (by decide)
                  clear hs
                  refine if_t (by rfl) ?_
                  (go_simp <;> exact wrapi64_in _ (by omega) (by omega))
                refine chain_val (.pointer (some ⟨b, o + k, none⟩)) (S := [55, 56]) rfl ?_ ?_
                · intro ρ w' hE hB hs
                  have h55 : ρ (.tmp 55) = .slice (some ⟨b, o, none⟩) n1 c := hs 55 (by decide)
                  have h56 : ρ (.tmp 56) = .int .i64 (k : Int) := hs 56 (by decide)
                  clear hs
                  refine if_t (by rfl) ?_
                  (go_simp <;> (intro hh; omega))
                refine chain_val (.int .i64 y) (S := [57]) rfl ?_ ?_
                · intro ρ w' hE hB hs
                  have h57 : ρ (.tmp 57) = .pointer (some ⟨b, o + k, none⟩) := hs 57 (by decide)
                  clear hs
                  refine if_t (by rfl) ?_
                  have hcl := (hB.cell (p := ⟨b, o + k, none⟩) hbl1).trans C1X.out
                  go_simp
                refine chain_val (.slice (some ⟨b, o, none⟩) n1 c) (S := [0]) rfl ?_ ?_
                · intro ρ w' hE hB hs
                  have h0 : ρ (.tmp 0) = .slice (some ⟨b, o, none⟩) n1 c := hs 0 (by decide)
                  clear hs
                  refine if_t (by rfl) ?_
                  (go_simp <;> exact wrapi64_in _ (by omega) (by omega))
                refine chain_val (.int .i64 (i : Int)) (S := [7]) rfl ?_ ?_
                · intro ρ w' hE hB hs
                  have h7 : ρ (.tmp 7) = .int .i64 (i : Int) := hs 7 (by decide)
                  clear hs
                  refine if_t (by rfl) ?_
                  (go_simp <;> exact wrapi64_in _ (by omega) (by omega))
                refine chain_val (.pointer (some ⟨b, o + i, none⟩)) (S := [59, 60]) rfl ?_ ?_
                · intro ρ w' hE hB hs
                  have h59 : ρ (.tmp 59) = .slice (some ⟨b, o, none⟩) n1 c := hs 59 (by decide)
                  have h60 : ρ (.tmp 60) = .int .i64 (i : Int) := hs 60 (by decide)
                  clear hs
                  refine if_t (by rfl) ?_
                  (go_simp <;> (intro hh; omega))
                refine chain_val (.int .i64 x) (S := [61]) rfl ?_ ?_
                · intro ρ w' hE hB hs
                  have h61 : ρ (.tmp 61) = .pointer (some ⟨b, o + i, none⟩) := hs 61 (by decide)
                  clear hs
                  refine if_t (by rfl) ?_
                  have hcl := (hB.cell (p := ⟨b, o + i, none⟩) hbl1).trans C2X.out
                  go_simp
                refine chain_val (.bool (decide (y < x))) (S := [58, 62]) rfl ?_ ?_
                · intro ρ w' hE hB hs
                  have h58 : ρ (.tmp 58) = .int .i64 y := hs 58 (by decide)
                  have h62 : ρ (.tmp 62) = .int .i64 x := hs 62 (by decide)
                  clear hs
                  refine if_t (by rfl) ?_
                  (go_simp <;> exact wrapi64_in _ (by omega) (by omega))
                refine chain_val (.slice (some ⟨b', o', none⟩) n1 c1) (S := [5]) rfl ?_ ?_
                · intro ρ w' hE hB hs
                  have h5 : ρ (.tmp 5) = .slice (some ⟨b', o', none⟩) n1 c1 := hs 5 (by decide)
                  clear hs
                  refine if_t (by rfl) ?_
                  (go_simp <;> exact wrapi64_in _ (by omega) (by omega))
                refine chain_val (.int .i64 (k : Int)) (S := [8]) rfl ?_ ?_
                · intro ρ w' hE hB hs
                  have h8 : ρ (.tmp 8) = .int .i64 (k : Int) := hs 8 (by decide)
                  clear hs
                  refine if_t (by rfl) ?_
                  (go_simp <;> exact wrapi64_in _ (by omega) (by omega))
                refine chain_val (.pointer (some ⟨b', o' + k, none⟩)) (S := [64, 65]) rfl ?_ ?_
                · intro ρ w' hE hB hs
                  have h64 : ρ (.tmp 64) = .slice (some ⟨b', o', none⟩) n1 c1 := hs 64 (by decide)
                  have h65 : ρ (.tmp 65) = .int .i64 (k : Int) := hs 65 (by decide)
                  clear hs
                  refine if_t (by rfl) ?_
                  (go_simp <;> (intro hh; omega))
                refine chain_val (.int .u64 (y - m)) (S := [66]) rfl ?_ ?_
                · intro ρ w' hE hB hs
                  have h66 : ρ (.tmp 66) = .pointer (some ⟨b', o' + k, none⟩) := hs 66 (by decide)
                  clear hs
                  refine if_t (by rfl) ?_
                  have hcl := (hB.cell (p := ⟨b', o' + k, none⟩) hbl2).trans C1Y.out
                  go_simp
                refine chain_val (.slice (some ⟨b', o', none⟩) n1 c1) (S := [5]) rfl ?_ ?_
                · intro ρ w' hE hB hs
                  have h5 : ρ (.tmp 5) = .slice (some ⟨b', o', none⟩) n1 c1 := hs 5 (by decide)
                  clear hs
                  refine if_t (by rfl) ?_
                  (go_simp <;> exact wrapi64_in _ (by omega) (by omega))
                refine chain_val (.int .i64 (i : Int)) (S := [7]) rfl ?_ ?_
                · intro ρ w' hE hB hs
                  have h7 : ρ (.tmp 7) = .int .i64 (i : Int) := hs 7 (by decide)
                  clear hs
                  refine if_t (by rfl) ?_
                  (go_simp <;> exact wrapi64_in _ (by omega) (by omega))
                refine chain_val (.pointer (some ⟨b', o' + i, none⟩)) (S := [68, 69]) rfl ?_ ?_
                · intro ρ w' hE hB hs
                  have h68 : ρ (.tmp 68) = .slice (some ⟨b', o', none⟩) n1 c1 := hs 68 (by decide)
                  have h69 : ρ (.tmp 69) = .int .i64 (i : Int) := hs 69 (by decide)
                  clear hs
                  refine if_t (by rfl) ?_
                  (go_simp <;> (intro hh; omega))
                refine chain_val (.int .u64 (x - m)) (S := [70]) rfl ?_ ?_
                · intro ρ w' hE hB hs
                  have h70 : ρ (.tmp 70) = .pointer (some ⟨b', o' + i, none⟩) := hs 70 (by decide)
                  clear hs
                  refine if_t (by rfl) ?_
                  have hcl := (hB.cell (p := ⟨b', o' + i, none⟩) hbl2).trans C2Y.out
                  go_simp
                refine chain_val (.bool (decide (y < x))) (S := [67, 71]) rfl ?_ ?_
                · intro ρ w' hE hB hs
                  have h67 : ρ (.tmp 67) = .int .u64 (y - m) := hs 67 (by decide)
                  have h71 : ρ (.tmp 71) = .int .u64 (x - m) := hs 71 (by decide)
                  clear hs
                  refine if_t (by rfl) ?_
                  have e : (y - m < x - m) = (y < x) := by rw [eq_iff_iff]; omega
                  go_simp
                refine chain_val (.bool false) (S := [63, 72]) rfl ?_ ?_
                · intro ρ w' hE hB hs
                  have h63 : ρ (.tmp 63) = .bool (decide (y < x)) := hs 63 (by decide)
                  have h72 : ρ (.tmp 72) = .bool (decide (y < x)) := hs 72 (by decide)
                  clear hs
                  refine if_t (by rfl) ?_
                  (go_simp <;> exact wrapi64_in _ (by omega) (by omega))
                intro w1 hB1
                simp only [List.reverse_cons, List.reverse_nil, List.nil_append, List.cons_append, Go.Free.Ends, forall_eq, Act.put, List.setIfInBounds_toArray, List.set_cons_zero, List.set_cons_succ]
                have HB2 := Lib.hid (hJ.out.trans (hB1.mono hJ.out.size))
                clear hB1
                go_wp2
                go_roundg (i - (k + 1))
                case measure => omega
                case rel => exact ⟨k + 1, by go_num, by omega, rfl, HB2⟩
              · have hfin : i ≤ k ∨ 40 ≤ k := by omega
                rcases hfin with hfin | hfin
                · go_wp2
                  go_roundg (n1 - (i + 1))
                  case measure => omega
                  case rel => exact ⟨i + 1, by go_num, by omega, rfl, _, rfl, Lib.hid ⟨HS.out.symm, hJ.out⟩⟩
                · go_wp2
                  all_goals (go_roundg (n1 - (i + 1)))
                  all_goals first | omega | exact ⟨i + 1, by go_num, by omega, rfl, _, rfl, Lib.hid ⟨HS.out.symm, hJ.out⟩⟩
      · obtain rfl : i = n1 := by omega
        obtain rfl : q = true := by rw [hI.out.1, HE.out]
        go_wp2_with fail
        refine (awake06 wr).mono ?_
        rintro e w7 ⟨rfl, hb7⟩
        have hbb := HB1.out.trans (hI.out.2.mono HB1.out.size)
        have HBB := Lib.hid (hbb.trans (hb7.mono hbb.size))
        clear hbb hb7
        go_wp2
        go_ret
        exact ⟨rfl, HBB.out⟩
  · obtain rfl : n = 0 := by omega
    obtain rfl : xs = [] := List.eq_nil_of_length_eq_zero h.len
    have hleast := least_any A 0 c [] W h (by omega)
    have hoff := offsets_any (least []) A 0 c [] W h (by omega)
    obtain ⟨m, hm⟩ : ∃ m, least [] = m := ⟨_, rfl⟩
    rw [hm] at hleast hoff
    rw [show decide (0 < 0) = false from rfl] at hleast
    have HO := Lib.hid hoff
    have HL := Lib.hid hleast
    clear hi hoff hleast hm h hl h0 H
    go_enter Try.func9, Try.ntmps9
    go_wp2_with fail
    refine HL.out.mono ?_
    rintro e w' ⟨rfl, rfl⟩
    go_wp2_with fail
    refine HO.out.mono ?_
    rintro e w1 ⟨A1, n1, c1, rfl, hown1, hb1⟩
    obtain rfl : n1 = 0 := (row_len hown1).symm
    have HB1 := Lib.hid hb1
    clear hown1 hb1
    go_wp2_with fail
    go_loopg [6, 7, 8, 32, 33, 34, 35, 36, 37, 38, 39, 40, 41, 42, 43, 44, 45, 46, 47, 48, 49, 50, 51, 52, 53, 54, 55, 56, 57, 58, 59, 60, 61, 62, 63, 64, 65, 66, 67, 68, 69, 70, 71, 72, 73] 0 (fun g v6 v7 _ _ _ _ _ _ _ _ _ _ _ _ _ _ _ _ _ _ _ _ _ _ _ _ _ _ _ _ _ _ _ _ _ _ _ _ _ _ _ _ _ _ _ wr => v7 = .int .i64 0 ∧ v6 = .bool false ∧ w1 = wr)
    case atStart => exact ⟨rfl, rfl, rfl⟩
    case round =>
      obtain ⟨rfl, rfl, rfl⟩ := hrel
      go_wp2_with fail
      refine (awake06 w1).mono ?_
      rintro e w7 ⟨rfl, hb7⟩
      have HBB := Lib.hid (HB1.out.trans (hb7.mono HB1.out.size))
      clear hb7
      go_wp2
      go_ret
      exact ⟨rfl, HBB.out⟩

namespace widthOrder
open Go.ChangeShapes Go.WideShapes Go.ChangeAt Go.RowKit Go.Cor
set_option linter.unusedVariables false

set_option maxRecDepth 100000 in
theorem lifted (os : Os) (started : os.Started) (H : Type) (enc : TypeId × Value → H) :
    ReturnsInHanded {} Try.checked os 9 .any (Rows.widthOrderSpec.pre6 enc Try.prog Try.f9 Rows.widthOrderRow.domain false) (Rows.widthOrderSpec.post enc Try.prog Try.f9 false true false false) := by
  refine returnsInHanded_of_change (C := Try.checked) (by kernel_rfl : ownKnob Try.prog.godebug = none) started (by kernel_rfl) Try.func9
    (ChangeSpec.witness6 (enc := enc) (C := Try.checked) false ⟨#[], #[.slice none 0 0], []⟩ 8 (by kernel_rfl) (by kernel_rfl) (by kernel_rfl) (by kernel_rfl)) ?_
  intro W base args ds gs before hval0 hW hcnd _
  have hval : ∀ (j : Nat) t v, Try.f9.params[j]? = some t → args[j]? = some v → Value.okWide Try.prog W .any base t v := hval0
  have hW' := hW
  obtain ⟨p, q, hA0, hV, rfl, hfz, hnd⟩ := hW
  have hA : DataW.TrodAll enc Try.prog W 0 (fun _ => true) true Try.f9.params.toList args.toList ds p := hA0
  rw [Try.params9] at hA hval
  obtain ⟨v0, vs0, d0, ds0, p0, q0, hargs, rfl, rfl, h0, r0⟩ := trodAll_cons hA
  obtain ⟨rfl, rfl, rfl⟩ := trodAll_nil r0
  obtain rfl : args = #[v0] := by cases args; simp_all
  obtain ⟨rfl, rfl⟩ := trodVars_none hV
  obtain ⟨a0, len0, cap0, rfl⟩ := okWide_slice Try.underlying37 (hval 0 37 v0 rfl rfl)
  have k0 := h0
  have lt0 : ∀ x ∈ p0, x.block < W.heap.size := by obtain ⟨m, hm⟩ := k0; exact DataW.trod_lt m _ _ _ hm
  obtain ⟨x0, g0, b0⟩ : ∃ xs, Rd W .i64 a0 len0 cap0 xs ∧ In .i64 xs := by
    obtain ⟨fuel, hf⟩ := h0
    rcases open_ints Try.underlying37 Try.underlying2 (by kernel_rfl) hf with ⟨hcs, _⟩ | ⟨x, l, c, zs, hcs, _, hl, hm, hz, _, hcell, hwz⟩
    · simp [Value.cells] at hcs
      obtain ⟨rfl, rfl, rfl⟩ := hcs
      exact ⟨[], Rd.nilv _ _, fun _ h => by cases h⟩
    · simp [Value.cells] at hcs
      obtain ⟨rfl, rfl, rfl⟩ := hcs
      exact Rd.of_row hl hm hz hcell hwz
  clear hA0 hval0
  refine (WidthOrder_walk W a0 len0 cap0 x0 g0 b0).mono fun e W' ⟨he, bel⟩ => ?_
  subst he
  exact ⟨_, rfl, _, _, _, [], _, [], hW', trodAll_mk1 (shut_bool Try.underlying4 _), (trodAll_cons_mk (Below.trod (by kernel_rfl : laidOutB Try.prog = true) (by kernel_rfl) (of_decide_eq_true (by kernel_rfl)) k0 bel lt0) trodAll_mk0), rfl, bel.frame _, fun h => by cases h⟩

theorem proved : Rows.WidthOrderSaid :=
  OpenClaim.holds_of_wide 9 Try.f9 rfl rfl rfl rfl rfl rfl rfl ⟨rfl, rfl, rfl, rfl, rfl⟩ rfl rfl rfl rfl rfl (by kernel_rfl) Try.func9 (by kernel_rfl)
    (of_decide_eq_true (by kernel_rfl)) (by unfold Func.isWrapper; first | (rw [if_pos (by decide +kernel)]; kernel_rfl) | (rw [if_neg (by decide +kernel)]; exact ⟨rfl, rfl⟩))
    (fun os started H enc _ => lifted os started H enc)
#print axioms proved
end widthOrder
end Go.Proofs.Ytibfbomihopgaaa
