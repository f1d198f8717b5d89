/-
  Chapter 25: are zones alike?
-/
import Derived.Test.YthpndhdpohmoaaaZoneQ
import Derived.Test.YthpndhdpohmoaaaZoneA
namespace Go.Cor
theorem zl_count {f : Nat} : ∀ {b : List Int}, (zl f b).1.length * 26 ≤ b.length := by
  induction f with
  | zero => intro b; simp [zl]
  | succ f ih =>
    intro b
    rw [zl]
    split
    · simp
    · split
      · simp
      · split
        · simp
        · have := ih (b := b.drop 26)
          rw [List.length_drop] at this
          simp only [List.length_cons]; omega
theorem zload_count (ys : List Int) : (zload ys).1.length * 26 ≤ ys.length := by
  unfold zload
  split
  · simp
  · split
    · simp
    · split
      · simp
      · have := zl_count (f := (num (ys.take 4)).toNat) (b := ys.drop 4)
        rw [List.length_drop] at this
        simp only; omega
theorem zl_fit {f : Nat} : ∀ {b : List Int}, (∀ x ∈ b, 0 ≤ x ∧ x ≤ 255) → ∀ z ∈ (zl f b).1, ZFit z ∧ zright z = true := by
  induction f with
  | zero => intro b _ z hz; simp [zl] at hz
  | succ f ih =>
    intro b hb z hz
    rw [zl] at hz
    split at hz
    · simp at hz
    · split at hz
      · simp at hz
      · rename_i h1 h2
        split at hz
        · simp at hz
        · rcases List.mem_cons.1 hz with rfl | hz
          · have hr : zright (zparse b) = true := by simpa using h2
            refine ⟨⟨?_, w64_bd _, w64_bd _, w64_bd _⟩, hr⟩
            unfold zright at hr; simp at hr; unfold I64'; omega
          · exact ih (fun x hx => hb x (List.mem_of_mem_drop hx)) z hz
end Go.Cor
namespace Go.Proofs.Ythpndhdpohmoaaa
open Go.RowKit Go.Cor Go.Free

set_option maxRecDepth 100000 in
set_option maxHeartbeats 4000000 in
theorem same25_any (A B : Option Addr) (n c d : Nat) (zs : List Zn) (w : World) (h : RdZ w A n c zs) (h' : RdZ w B n d zs) (hn : n ≤ 1000) :
    Calls Try.prog 53 #[.slice A n c, .slice B n d] w fun e w' => e = .returned (.bool true) ∧ Below w.heap.size w w' := by
  have hl := rdZ_len h
  have HO := Lib.hid (own_any B n d zs w h' hn)
  have H := Lib.hid h
  have HL := Lib.hid hl
  clear h h' hl
  go_enter Try.func53, Try.ntmps53
  go_wp2_with fail
  refine HO.out.mono ?_
  rintro e w1 ⟨B1, d1, rfl, ho1, hb1⟩
  have H2 := Lib.hid (show RdZ w1 B1 n d1 zs from RdV.own ho1)
  have H1 := Lib.hid (show RdZ w1 A n c zs from H.out.below hb1)
  have HB1 := Lib.hid hb1
  clear ho1 hb1
  go_wp2
  go_loopw [6, 14, 15, 16, 17, 18, 19, 20, 21, 22, 23, 24, 25, 26, 27, 28] (fun v6 _ _ _ _ _ _ _ _ _ _ _ _ _ _ _ wr => ∃ i : Nat, v6 = .int .i64 i ∧ i ≤ n ∧ Hid (Below w1.heap.size w1 wr))
    (fun v6 _ _ _ _ _ _ _ _ _ _ _ _ _ _ _ _ => n - (intOf v6).toNat)
  case atStart => exact ⟨0, rfl, by omega, Lib.hid (Below.refl _ _)⟩
  case round =>
    obtain ⟨i, rfl, hi, hI⟩ := hrel
    by_cases hlt : i < n
    · obtain ⟨b, o, rfl, hbl, _⟩ := (H1.out.below hI.out).get (by omega)
      obtain ⟨b', o', rfl, hbl', _⟩ := (H2.out.below hI.out).get (by omega)
      obtain ⟨z1, z2, z3, z4, hz, k0, k1, k2, k3⟩ := rdZ_at (i := i) (H1.out.below hI.out) (by have := HL.out; omega)
      obtain ⟨y1, y2, y3, y4, hz', l0, l1, l2, l3⟩ := rdZ_at (i := i) (H2.out.below hI.out) (by have := HL.out; omega)
      rw [hz] at hz'
      injection hz' with hz'
      injection hz' with e1 e2 e3 e4
      subst e1 e2 e3 e4
      have K := Lib.hid (And.intro k0 (And.intro k1 (And.intro k2 k3)))
      have L := Lib.hid (And.intro l0 (And.intro l1 (And.intro l2 l3)))
      clear hz k0 k1 k2 k3 l0 l1 l2 l3
      go_wp2_with fail
      refine wp_region_free 9 (by kernel_rfl) (by kernel_rfl) ?_
      refine chain_val (.slice (some ⟨b, o, none⟩) n c) (S := [0]) rfl ?_ ?_
      · intro ρ w' hE hB hs
        have h0 : ρ (.tmp 0) = .slice (some ⟨b, o, none⟩) n c := hs 0 (by decide)
        clear hs
        refine if_t (by rfl) ?_
        (go_simp <;> exact wrapi64_in _ (by omega) (by omega))
      refine chain_val (.int .i64 (i : Int)) (S := [6]) rfl ?_ ?_
      · intro ρ w' hE hB hs
        have h6 : ρ (.tmp 6) = .int .i64 (i : Int) := hs 6 (by decide)
        clear hs
        refine if_t (by rfl) ?_
        (go_simp <;> exact wrapi64_in _ (by omega) (by omega))
      refine chain_val (.pointer (some ⟨b, o + i * 4, none⟩)) (S := [20, 21]) rfl ?_ ?_
      · intro ρ w' hE hB hs
        have h20 : ρ (.tmp 20) = .slice (some ⟨b, o, none⟩) n c := hs 20 (by decide)
        have h21 : ρ (.tmp 21) = .int .i64 (i : Int) := hs 21 (by decide)
        clear hs
        refine if_t (by rfl) ?_
        (go_simp <;> (intro hh; omega))
      refine chain_val (.agg #[.int .i64 z1, .int .i64 z2, .int .i64 z3, .int .i64 z4]) (S := [22]) rfl ?_ ?_
      · intro ρ w' hE hB hs
        have h22 : ρ (.tmp 22) = .pointer (some ⟨b, o + i * 4, none⟩) := hs 22 (by decide)
        clear hs
        refine if_t (by rfl) ?_
        have c0 := (hB.cell (p := ⟨b, o + i * 4, none⟩) hbl).trans K.out.1
        have c1 := (hB.cell (p := ⟨b, o + i * 4 + 1, none⟩) hbl).trans K.out.2.1
        have c2 := (hB.cell (p := ⟨b, o + i * 4 + 2, none⟩) hbl).trans K.out.2.2.1
        have c3 := (hB.cell (p := ⟨b, o + i * 4 + 3, none⟩) hbl).trans K.out.2.2.2
        go_simp
      refine chain_val (.slice (some ⟨b', o', none⟩) n d1) (S := [5]) rfl ?_ ?_
      · intro ρ w' hE hB hs
        have h5 : ρ (.tmp 5) = .slice (some ⟨b', o', none⟩) n d1 := hs 5 (by decide)
        clear hs
        refine if_t (by rfl) ?_
        (go_simp <;> exact wrapi64_in _ (by omega) (by omega))
      refine chain_val (.int .i64 (i : Int)) (S := [6]) rfl ?_ ?_
      · intro ρ w' hE hB hs
        have h6 : ρ (.tmp 6) = .int .i64 (i : Int) := hs 6 (by decide)
        clear hs
        refine if_t (by rfl) ?_
        (go_simp <;> exact wrapi64_in _ (by omega) (by omega))
      refine chain_val (.pointer (some ⟨b', o' + i * 4, none⟩)) (S := [24, 25]) rfl ?_ ?_
      · intro ρ w' hE hB hs
        have h24 : ρ (.tmp 24) = .slice (some ⟨b', o', none⟩) n d1 := hs 24 (by decide)
        have h25 : ρ (.tmp 25) = .int .i64 (i : Int) := hs 25 (by decide)
        clear hs
        refine if_t (by rfl) ?_
        (go_simp <;> (intro hh; omega))
      refine chain_val (.agg #[.int .i64 z1, .int .i64 z2, .int .i64 z3, .int .i64 z4]) (S := [26]) rfl ?_ ?_
      · intro ρ w' hE hB hs
        have h26 : ρ (.tmp 26) = .pointer (some ⟨b', o' + i * 4, none⟩) := hs 26 (by decide)
        clear hs
        refine if_t (by rfl) ?_
        have c0 := (hB.cell (p := ⟨b', o' + i * 4, none⟩) hbl').trans L.out.1
        have c1 := (hB.cell (p := ⟨b', o' + i * 4 + 1, none⟩) hbl').trans L.out.2.1
        have c2 := (hB.cell (p := ⟨b', o' + i * 4 + 2, none⟩) hbl').trans L.out.2.2.1
        have c3 := (hB.cell (p := ⟨b', o' + i * 4 + 3, none⟩) hbl').trans L.out.2.2.2
        go_simp
      refine chain_val (.bool false) (S := [23, 27]) rfl ?_ ?_
      · intro ρ w' hE hB hs
        have h23 : ρ (.tmp 23) = .agg #[.int .i64 z1, .int .i64 z2, .int .i64 z3, .int .i64 z4] := hs 23 (by decide)
        have h27 : ρ (.tmp 27) = .agg #[.int .i64 z1, .int .i64 z2, .int .i64 z3, .int .i64 z4] := hs 27 (by decide)
        clear hs
        refine if_t (by rfl) ?_
        go_simp
      intro w1 hB1
      simp only [List.reverse_cons, List.reverse_nil, List.nil_append, List.cons_append, Go.Free.Ends, forall_eq, Act.put, List.setIfInBounds_toArray, List.set_cons_zero, List.set_cons_succ]
      have HB2 := Lib.hid (hI.out.trans (hB1.mono hI.out.size))
      clear hB1
      go_wp2
      go_roundw
      case rel => exact ⟨i + 1, by go_num, by omega, HB2⟩
      case measure => simp [intOf] <;> omega
    · go_wp2
      go_ret
      exact ⟨rfl, HB1.out.trans (hI.out.mono HB1.out.size)⟩
end Go.Proofs.Ythpndhdpohmoaaa
