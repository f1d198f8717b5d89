/-
  Chapter 25: Join, Of, the reference's Of.
-/
import Derived.Test.YthpndhdpohmoaaaClo
import Derived.Test.YthpndhdpohmoaaaZoneM
import Derived.Laws.Rows
import Derived.Laws.Tables
import Derived.Laws.CopyOwn
namespace Go.Cor
open Go Go.RowKit
def zr (z : Zn) : Array Value := #[.int .i64 z.n, .int .i64 z.lo, .int .i64 z.hi, .int .i64 z.s]
theorem zr_one (z : Zn) : (zr z).all (·.oneCell') = true := by simp [zr, Value.oneCell']
theorem heap_new3 (w : World) (a b c : Obj) : (((w.alloc a).alloc b).alloc c).heap[w.heap.size + 1 + 1]? = some c := by
  have := heap_alloc_new ((w.alloc a).alloc b) c
  rwa [World.size_alloc, World.size_alloc] at this
theorem heap_new2 (w : World) (a b : Obj) : ((w.alloc a).alloc b).heap[w.heap.size + 1]? = some b := by
  have := heap_alloc_new (w.alloc a) b
  rwa [World.size_alloc] at this
theorem agg4 {a b c d a' b' c' d' : Int} (h1 : a = a') (h2 : b = b') (h3 : c = c') (h4 : d = d') : Ending.returned (.agg #[.int .i64 a, .int .i64 b, .int .i64 c, .int .i64 d]) = .returned (.agg #[.int .i64 a', .int .i64 b', .int .i64 c', .int .i64 d']) := by rw [h1, h2, h3, h4]
end Go.Cor
namespace Go.Free
open Go Go.RowKit Go.Cor
def BoxF (B : Nat) (E : TypeId) (cs : Array Value) : Fact := fun v w => ∃ g, v = .pointer (some ⟨g, 0, none⟩) ∧ B ≤ g ∧ w.heap[g]? = some (.cells cs E (0, 0))
theorem BoxF.stable (B : Nat) (E : TypeId) (cs : Array Value) : Stable (BoxF B E cs) := fun _ _ _ ⟨g, h1, h2, h3⟩ hb => ⟨g, h1, h2, (hb.block g (lt_of_block h3)).trans h3⟩
end Go.Free
namespace Go.Proofs.Ythpndhdpohmoaaa
open Go.RowKit Go.Cor Go.Free

theorem sizeZ : (Try.prog.info? 24).map (·.size) = some 4 := by kernel_rfl

set_option maxRecDepth 100000 in
set_option maxHeartbeats 2000000 in
theorem join_any (a b : Zn) (w : World) :
    Calls Try.prog 17 #[.agg (zr a), .agg (zr b)] w fun e w' => e = .returned (.agg (zr (zjoin a b))) ∧ Below w.heap.size w w' := by
  unfold zjoin zr
  obtain ⟨a1, a2, a3, a4⟩ := a
  obtain ⟨b1, b2, b3, b4⟩ := b
  simp only
  go_enter Try.func17, Try.ntmps17
  go_wp2
  all_goals (try simp only [Exit.inBlock, Exit.then])
  all_goals refine bodyPost_ret (results_cell_row (p := 4) (ty := 24) rfl _ _ (w.heap.size + 1 + 1) 24 _ (0, 0) _ rfl (heap_new3 _ _ _ _) Try.underlying24 rfl sizeZ) rfl ?_
  all_goals exact ⟨agg4 (by unfold w64 wrap64; rfl) (by omega) (by omega) (by unfold w64 wrap64; rfl), (((Below.refl _ _).alloc (Nat.le_refl _) _).alloc (by simp) _).alloc (by simp; omega) _⟩

theorem results_cell_tmp {P : Program} {fn : Func} {p q : Tmp} {ty : TypeId} (h : fn.results = #[.cell p ty, .tmp q]) (tmps : Array Value) (w : World) (g : Nat) (t : TypeId) (cs : Array Value) (fr : Nat × Nat) (d : TypeDesc)
    (hp : tmps.getD p undef = .pointer (some ⟨g, 0, none⟩)) (hg : w.heap[g]? = some (.cells cs t fr))
    (hu : P.underlying ty = some d) (hd : (match d with | .struct _ | .array _ _ => true | _ => false) = true) (hi : (P.info? ty).map (·.size) = some cs.size) :
    (results fn tmps).run P w = .ok (.tuple #[.agg cs, tmps.getD q undef]) w := by
  have hp' : tmps[p]?.getD undef = .pointer (some ⟨g, 0, none⟩) := by simpa using hp
  simp [results, h, hp', asAddr, run_loadVar_row w g t ty cs fr d hg hu hd hi]

set_option maxRecDepth 100000 in
set_option maxHeartbeats 2000000 in
theorem zoneOf_any (A : Option Addr) (n c : Nat) (xs : List Int) (w : World) (h : Rd w .i64 A n c xs) (hi : In .i64 xs) (hn : n ≤ 1000) :
    Calls Try.prog 13 #[.slice A n c] w fun e w' => e = .returned (.tuple #[.agg (zr (zn xs)), .bool (decide (0 < n))]) ∧ Below w.heap.size w w' := by
  by_cases h0 : n = 0
  · subst h0
    obtain rfl : xs = [] := List.eq_nil_of_length_eq_zero h.len
    rw [show zn [] = ⟨0, 0, 0, 0⟩ from rfl]
    clear h hi
    go_enter Try.func13, Try.ntmps13
    go_wp2
    (try simp only [Exit.inBlock, Exit.then])
    refine bodyPost_ret (results_cell_tmp (p := 2) (q := 3) (ty := 24) rfl _ _ w.heap.size 24 (zr ⟨0, 0, 0, 0⟩) (0, 0) _ rfl (heap_alloc_new _ _) Try.underlying24 rfl sizeZ) rfl ?_
    exact ⟨rfl, (Below.refl _ _).alloc (Nat.le_refl _) _⟩
  · have hp : 0 < n := by omega
    have hl := h.len
    have hx0 : Fits .i64 (xs[0]?.getD 0) := hi _ (by rw [List.getElem?_eq_getElem (by omega)]; exact List.getElem_mem _)
    obtain ⟨b, o, rfl, hbl, hc⟩ := h.get hp
    have hcell := hc 0 hp
    rw [List.getD_eq_getElem?_getD, Nat.add_zero] at hcell
    have hzn : zn xs = znf (xs[0]?.getD 0) xs := by unfold zn; rw [if_neg (by omega)]
    have hz1 : znf (xs[0]?.getD 0) (xs.take 1) = zone1 (xs[0]?.getD 0) := by
      rw [take_snoc (by omega)]; exact znf_one _ hx0.1 hx0.2
    have hsnoc : ∀ k, k < n → znf (xs[0]?.getD 0) (xs.take (k + 1)) = zjoin (znf (xs[0]?.getD 0) (xs.take k)) (zone1 (xs[k]?.getD 0)) := fun k hk => znf_snoc _ (by omega) (by omega)
    have hcc := h.cap
    rw [hzn, decide_eq_true hp]
    obtain ⟨x0, hx⟩ : ∃ x, xs[0]?.getD 0 = x := ⟨_, rfl⟩
    rw [hx] at hcell hz1 hsnoc ⊢
    have H := Lib.hid h
    have HC := Lib.hid hc
    have HCELL := Lib.hid hcell
    have HZ1 := Lib.hid hz1
    have HSN := Lib.hid hsnoc
    clear hc h hcell hz1 hsnoc hzn hx hx0 hi hl h0
    go_enter Try.func13, Try.ntmps13
    go_wp2_with fail
    have hbl2 := hbl
    have HC2 : Hid (∀ w', Below (w.heap.size + 1) (w.alloc (.cells #[.int .i64 0, .int .i64 0, .int .i64 0, .int .i64 0] 24)) w' → w'.cell? ⟨b, o, none⟩ = some (.int .i64 x0)) := Lib.hid fun w' hb => (hb.cell (p := ⟨b, o, none⟩) (by show b < _; omega)).trans ((Below.cell (B := w.heap.size) ((Below.refl _ w).alloc (Nat.le_refl _) _) (p := ⟨b, o, none⟩) hbl).trans HCELL.out)
    refine wp_region_free 11 (by kernel_rfl) (by kernel_rfl) ?_
    refine chain_val (.slice (some ⟨b, o, none⟩) n c) (S := [0]) rfl ?_ ?_
    · intro ρ w' hE hB hs
      have h0 : ρ (.tmp 0) = .slice (some ⟨b, o, none⟩) n c := hs 0 (by decide)
      clear hs
      refine if_t (by rfl) ?_
      (go_simp <;> exact wrapi64_in _ (by omega) (by omega))
    refine chain_val (.pointer (some ⟨b, o, none⟩)) (S := [11]) rfl ?_ ?_
    · intro ρ w' hE hB hs
      have h11 : ρ (.tmp 11) = .slice (some ⟨b, o, none⟩) n c := hs 11 (by decide)
      clear hs
      have hc := hE.const
      refine if_t (by rfl) ?_
      (go_simp <;> (intro hh; omega))
    refine chain_val (.int .i64 x0) (S := [12]) rfl ?_ ?_
    · intro ρ w' hE hB hs
      have h12 : ρ (.tmp 12) = .pointer (some ⟨b, o, none⟩) := hs 12 (by decide)
      clear hs
      refine if_t (by rfl) ?_
      have hcl := HC2.out w' (by simpa using hB)
      go_simp
    refine chain_val (.slice (some ⟨b, o, none⟩) n c) (S := [0]) rfl ?_ ?_
    · intro ρ w' hE hB hs
      have h0 : ρ (.tmp 0) = .slice (some ⟨b, o, none⟩) n c := hs 0 (by decide)
      clear hs
      refine if_t (by rfl) ?_
      (go_simp <;> exact wrapi64_in _ (by omega) (by omega))
    refine chain_val (.pointer (some ⟨b, o, none⟩)) (S := [14]) rfl ?_ ?_
    · intro ρ w' hE hB hs
      have h14 : ρ (.tmp 14) = .slice (some ⟨b, o, none⟩) n c := hs 14 (by decide)
      clear hs
      have hc := hE.const
      refine if_t (by rfl) ?_
      (go_simp <;> (intro hh; omega))
    refine chain_val (.int .i64 x0) (S := [15]) rfl ?_ ?_
    · intro ρ w' hE hB hs
      have h15 : ρ (.tmp 15) = .pointer (some ⟨b, o, none⟩) := hs 15 (by decide)
      clear hs
      refine if_t (by rfl) ?_
      have hcl := HC2.out w' (by simpa using hB)
      go_simp
    refine chain_val (.slice (some ⟨b, o, none⟩) n c) (S := [0]) rfl ?_ ?_
    · intro ρ w' hE hB hs
      have h0 : ρ (.tmp 0) = .slice (some ⟨b, o, none⟩) n c := hs 0 (by decide)
      clear hs
      refine if_t (by rfl) ?_
      (go_simp <;> exact wrapi64_in _ (by omega) (by omega))
    refine chain_val (.pointer (some ⟨b, o, none⟩)) (S := [17]) rfl ?_ ?_
    · intro ρ w' hE hB hs
      have h17 : ρ (.tmp 17) = .slice (some ⟨b, o, none⟩) n c := hs 17 (by decide)
      clear hs
      have hc := hE.const
      refine if_t (by rfl) ?_
      (go_simp <;> (intro hh; omega))
    refine chain_val (.int .i64 x0) (S := [18]) rfl ?_ ?_
    · intro ρ w' hE hB hs
      have h18 : ρ (.tmp 18) = .pointer (some ⟨b, o, none⟩) := hs 18 (by decide)
      clear hs
      refine if_t (by rfl) ?_
      have hcl := HC2.out w' (by simpa using hB)
      go_simp
    refine chain_val (.agg #[.int .i64 1, .int .i64 x0, .int .i64 x0, .int .i64 x0]) (S := [13, 16, 19]) rfl ?_ ?_
    · intro ρ w' hE hB hs
      have h13 : ρ (.tmp 13) = .int .i64 x0 := hs 13 (by decide)
      have h16 : ρ (.tmp 16) = .int .i64 x0 := hs 16 (by decide)
      have h19 : ρ (.tmp 19) = .int .i64 x0 := hs 19 (by decide)
      clear hs
      have hc := hE.const
      refine if_t (by rfl) ?_
      (go_simp <;> exact wrapi64_in _ (by omega) (by omega))
    refine chain_make (BoxF (w.heap.size + 1) 24 (#[.int .i64 0, .int .i64 0, .int .i64 0, .int .i64 0])) (BoxF.stable _ _ _) (S := []) rfl ?_ ?_
    · intro ρ w' hE hB hs
      clear hs
      exact ⟨(by rfl), .pointer (some ⟨w'.heap.size, 0, none⟩), w'.alloc (.cells (#[.int .i64 0, .int .i64 0, .int .i64 0, .int .i64 0]) 24), (by go_simp), (Below.refl _ _).alloc (Nat.le_refl _) _, w'.heap.size, rfl, (by have := hB.size; first | omega | (simp at this; omega)), heap_alloc_new w' _⟩
    intro w1 hB1
    simp only [List.reverse_cons, List.reverse_nil, List.nil_append, List.cons_append, Go.Free.Ends, forall_eq, Act.put, List.setIfInBounds_toArray, List.set_cons_zero, List.set_cons_succ]
    clear HC2
    rintro _ ⟨g4, rfl, hg4, hbox4⟩
    have hR := hB1.block w.heap.size (by simp)
    rw [heap_alloc_new] at hR
    have hB2 : Below w.heap.size w w1 := ((Below.refl _ w).alloc (Nat.le_refl _) _).trans (hB1.mono (by simp))
    have hlt1 : w.heap.size < w1.heap.size := lt_of_block hR
    have HR := Lib.hid hR
    have HB2 := Lib.hid hB2
    have HG4 := Lib.hid hbox4
    have hg4' := lt_of_block hbox4
    clear hR hB2 hB1 hbox4
    go_wp2_with (refine wpList_store_row rfl 24 (.tmp 4) (.tmp 20) rfl g4 (zr (zone1 x0)) rfl rfl 24 #[.int .i64 0, .int .i64 0, .int .i64 0, .int .i64 0] HG4.out sizeZ rfl (zr_one _) ?_)
    · have hn1 : n = 1 := by omega
      go_loopw [6, 24, 25, 26, 27, 28, 29, 30, 31, 32, 33, 34] (fun _ v24 _ _ _ _ _ _ _ _ _ _ wr => ∃ i : Nat, v24 = .int .i64 i ∧ i ≤ n - 1 ∧ Hid (wr.heap[g4]? = some (.cells (zr (znf x0 (xs.take (i + 1)))) 24 (0, 0)) ∧ wr.heap[w.heap.size]? = some (.cells (zr ⟨0, 0, 0, 0⟩) 24 (0, 0)) ∧ Below w.heap.size w wr))
        (fun _ v24 _ _ _ _ _ _ _ _ _ _ _ => n - (intOf v24).toNat)
      case atStart =>
        refine ⟨0, rfl, by omega, Lib.hid ⟨?_, (setRow_other _ _ _ _ (by omega)).trans HR.out, below_setRow HB2.out (by omega) _⟩⟩
        rw [HZ1.out]
        exact setRow_heap _ _ _ _ _ _ HG4.out
      case round =>
        obtain ⟨i, rfl, hi, hI⟩ := hrel
        by_cases hlt : i < n - 1
        · omega
        · have hi1 : i + 1 = n := by omega
          have e : xs.take (i + 1) = xs := List.take_of_length_le (by rw [hi1, H.out.len]; omega)
          rw [e] at hI
          clear e
          go_wp2_with (first | (refine wpList_load_row rfl 24 (.tmp 4) rfl g4 rfl 24 (zr (znf x0 xs)) (0, 0) _ hI.out.1 Try.underlying24 rfl sizeZ ?_) | (refine wpList_store_row rfl 24 (.tmp 2) (.tmp 35) rfl w.heap.size (zr (znf x0 xs)) rfl rfl 24 (zr ⟨0, 0, 0, 0⟩) hI.out.2.1 sizeZ rfl (zr_one _) ?_))
          (try simp only [Exit.inBlock, Exit.then])
          refine bodyPost_ret (results_cell_tmp (p := 2) (q := 3) (ty := 24) rfl _ _ w.heap.size 24 (zr (znf x0 xs)) (0, 0) _ rfl (setRow_heap _ _ _ _ _ _ hI.out.2.1) Try.underlying24 rfl sizeZ) rfl ?_
          exact ⟨rfl, below_setRow hI.out.2.2 (Nat.le_refl _) _⟩
    · go_loopw [6, 24, 25, 26, 27, 28, 29, 30, 31, 32, 33, 34] (fun _ v24 _ _ _ _ _ _ _ _ _ _ wr => ∃ i : Nat, v24 = .int .i64 i ∧ i ≤ n - 1 ∧ Hid (wr.heap[g4]? = some (.cells (zr (znf x0 (xs.take (i + 1)))) 24 (0, 0)) ∧ wr.heap[w.heap.size]? = some (.cells (zr ⟨0, 0, 0, 0⟩) 24 (0, 0)) ∧ Below w.heap.size w wr))
        (fun _ v24 _ _ _ _ _ _ _ _ _ _ _ => n - (intOf v24).toNat)
      case atStart =>
        refine ⟨0, rfl, by omega, Lib.hid ⟨?_, (setRow_other _ _ _ _ (by omega)).trans HR.out, below_setRow HB2.out (by omega) _⟩⟩
        rw [HZ1.out]
        exact setRow_heap _ _ _ _ _ _ HG4.out
      case round =>
        obtain ⟨i, rfl, hi, hI⟩ := hrel
        by_cases hlt : i < n - 1
        · have hcell := (hI.out.2.2.cell (p := ⟨b, o + (i + 1), none⟩) hbl).trans (HC.out (i + 1) (by omega))
          have hsn := HSN.out (i + 1) (by omega)
          rw [List.getD_eq_getElem?_getD] at hcell
          obtain ⟨x, hx⟩ : ∃ x, xs[i + 1]?.getD 0 = x := ⟨_, rfl⟩
          rw [hx] at hcell hsn
          rw [show o + (i + 1) = o + 1 + i by omega] at hcell
          obtain ⟨z, hz⟩ : ∃ z, znf x0 (xs.take (i + 1)) = z := ⟨_, rfl⟩
          rw [hz] at hsn hI
          have HS := Lib.hid hsn
          clear hx hsn hz
          go_wp2_with (refine wpList_load_row rfl 24 (.tmp 4) rfl g4 rfl 24 (zr z) (0, 0) _ hI.out.1 Try.underlying24 rfl sizeZ ?_)
          refine (join_any z (zone1 x) wr).mono ?_
          rintro e w2 ⟨rfl, hb2⟩
          have HA2 := Lib.hid ((hb2.block _ (lt_of_block hI.out.1)).trans hI.out.1)
          have HR2 := Lib.hid ((hb2.block _ (lt_of_block hI.out.2.1)).trans hI.out.2.1)
          have HBB := Lib.hid (hI.out.2.2.trans (hb2.mono hI.out.2.2.size))
          clear hb2
          go_wp2_with (refine wpList_store_row rfl 24 (.tmp 4) (.tmp 33) rfl g4 (zr (zjoin z (zone1 x))) rfl rfl 24 (zr z) HA2.out sizeZ rfl (zr_one _) ?_)
          go_roundw
          case rel => exact ⟨i + 1, by go_num, by omega, Lib.hid ⟨by rw [HS.out]; exact setRow_heap _ _ _ _ _ _ HA2.out, (setRow_other _ _ _ _ (by omega)).trans HR2.out, below_setRow HBB.out (by omega) _⟩⟩
          case measure => simp [intOf] <;> omega
        · have hi1 : i + 1 = n := by omega
          have e : xs.take (i + 1) = xs := List.take_of_length_le (by rw [hi1, H.out.len]; omega)
          rw [e] at hI
          clear e
          go_wp2_with (first | (refine wpList_load_row rfl 24 (.tmp 4) rfl g4 rfl 24 (zr (znf x0 xs)) (0, 0) _ hI.out.1 Try.underlying24 rfl sizeZ ?_) | (refine wpList_store_row rfl 24 (.tmp 2) (.tmp 35) rfl w.heap.size (zr (znf x0 xs)) rfl rfl 24 (zr ⟨0, 0, 0, 0⟩) hI.out.2.1 sizeZ rfl (zr_one _) ?_))
          (try simp only [Exit.inBlock, Exit.then])
          refine bodyPost_ret (results_cell_tmp (p := 2) (q := 3) (ty := 24) rfl _ _ w.heap.size 24 (zr (znf x0 xs)) (0, 0) _ rfl (setRow_heap _ _ _ _ _ _ hI.out.2.1) Try.underlying24 rfl sizeZ) rfl ?_
          exact ⟨rfl, below_setRow hI.out.2.2 (Nat.le_refl _) _⟩
end Go.Proofs.Ythpndhdpohmoaaa
