/-
  Chapter 12: Takes, Size.
  Chapter 12: Decode's reading.
  Chapter 12: Decode.
-/
import Derived.Test.YtkbcmblgieoleaaG12
import Derived.Test.YtkbcmblgieoleaaG22
import Derived.Test.YtkbcmblgieoleaaG24
import Derived.Test.YtkbcmblgieoleaaG25
import Derived.Test.YtkbcmblgieoleaaG27
namespace Go.Cor
open Go Go.RowKit
/-- what the first pieces of a row give -/
def prts (f : List Int → List Int) (l : List Int) (pre : List (Nat × Nat)) : List Int := (pre.map fun c => f ((l.drop c.1).take c.2)).flatten
theorem prts_nil (f : List Int → List Int) (l : List Int) : prts f l [] = [] := rfl
theorem prts_snoc (f : List Int → List Int) (l : List Int) (pre : List (Nat × Nat)) (c : Nat × Nat) : prts f l (pre ++ [c]) = prts f l pre ++ f ((l.drop c.1).take c.2) := by
  unfold prts; rw [List.map_append, List.flatten_append]; simp
theorem prts_all (m : Nat) (f : List Int → List Int) (l : List Int) : prts f l (cks m l.length) = chunked m f l := rfl
theorem prts_le {m : Nat} {f : List Int → List Int} {l : List Int} {pre : List (Nat × Nat)} (h : pre <+: cks m l.length) : (prts f l pre).length ≤ (chunked m f l).length := by
  obtain ⟨r, hr⟩ := h
  rw [← prts_all, ← hr]
  unfold prts; rw [List.map_append, List.flatten_append, List.length_append]; omega
theorem prts_one (f : List Int → Int) (l : List Int) (pre : List (Nat × Nat)) : (prts (fun x => [f x]) l pre).length = pre.length := by
  unfold prts
  induction pre with
  | nil => rfl
  | cons c r ih => rw [List.map_cons, List.flatten_cons, List.length_append, ih]; simp; omega
theorem pre_len {m n : Nat} {pre : List (Nat × Nat)} (h : pre <+: cks m n) : pre.length ≤ (n + m - 1) / m := by rw [← cks_len]; exact h.length_le
theorem pre_of_snoc {m n : Nat} {pre : List (Nat × Nat)} {c : Nat × Nat} (h : (pre ++ [c]) <+: cks m n) : pre <+: cks m n := (List.prefix_append pre [c]).trans h
theorem RoundKeep.step {T : Nat → Prop} {A B C : World} {N : Nat} (h : RoundKeep T A B) (hN : A.heap.size ≤ N) (hk : StepKeep (fun _ => False) N B C) : RoundKeep T A C :=
  ⟨hk.os.trans h.os, hk.tape.trans h.tape, hk.output.trans h.output, Nat.le_trans h.size hk.size, fun i hi hs => (hk.block i (Nat.lt_of_lt_of_le hi h.size) ⟨fun h => h, fun h => by omega⟩).trans (h.block i hi hs)⟩
theorem dpart_len (p : List Int) : (dpart p).length = (vput (zig (least p)).toNat).length + (((offsets (least p) p).length + 31) / 32 + (dpacks (offsets (least p) p)).length) := by
  unfold dpart; rw [List.length_append, List.length_append, dheads_len _ _ rfl]
end Go.Cor
namespace Go.Proofs.Ytkbcmblgieoleaa
open Go.RowKit Go.Cor Go.Free
attribute [local go_sem] Oper.semAt_some

theorem dTakes_any (A : Option Addr) (n c : Nat) (w : World) : Calls Try.prog 24 #[.agg #[], .slice A n c] w fun e w' => e = .returned (.bool (blk n)) ∧ Below w.heap.size w w' := by
  go_enter Try.func24, Try.ntmps24
  go_wp2_with fail
  refine (block_any n _).mono ?_
  rintro e w' ⟨rfl, rfl⟩
  go_wp2
  go_ret
  exact ⟨rfl, (Below.refl _ _).alloc (Nat.le_refl _) _⟩
theorem md_takes (w : World) : (method 276 34 (.agg #[]) "Takes").run Try.prog w = .ok (24, .agg #[]) w := by kernel_rfl
theorem md_encode (w : World) : (method 276 34 (.agg #[]) "Encode").run Try.prog w = .ok (23, .agg #[]) w := by kernel_rfl
theorem md_size (w : World) : (method 276 34 (.agg #[]) "Size").run Try.prog w = .ok (18, .agg #[]) w := by kernel_rfl
theorem md_decode (w : World) : (method 276 34 (.agg #[]) "Decode").run Try.prog w = .ok (20, .agg #[]) w := by kernel_rfl
theorem md_ahead (w : World) : (nilAhead 276 34 (.agg #[]) "Decode").run Try.prog w = .ok (some false) w := by kernel_rfl
theorem deltaT : Taker 34 24 tkAll :=
  ⟨md_takes, enters_f Try.func24 (by kernel_rfl) rfl, fun w A n c xs h _ _ => by rw [tak_all, h.len]; exact dTakes_any A n c w⟩

set_option maxRecDepth 100000 in
set_option maxHeartbeats 8000000 in
theorem dSize_any (w : World) (A : Option Addr) (n c : Nat) (xs : List Int) (h : Rd w .i64 A n c xs) (hi : In .i64 xs) (hn : n ≤ 1100) :
    Calls Try.prog 18 #[.agg #[], .slice A n c] w fun e w' => e = .returned (.int .i64 (if tak tkAll xs then ((dform xs).length : Int) else 0)) ∧ Below w.heap.size w w' := by
  have hk : tak tkAll xs = blk n := by rw [tak_all, h.len]
  have ht := dTakes_any A n c
  rw [hk]
  obtain ⟨q, hq⟩ : ∃ q, blk n = q := ⟨_, rfl⟩
  rw [hq] at ht ⊢
  have HT := Lib.hid ht
  have H := Lib.hid h
  cases q with
  | false =>
    clear ht hq h hi hk
    go_enter Try.func18, Try.ntmps18
    go_wp2_with fail
    refine (HT.out _).mono ?_
    rintro e w1 ⟨rfl, hb⟩
    go_wp2
    go_ret
    exact ⟨rfl, ((Below.refl _ _).alloc (Nat.le_refl _) _).trans (hb.mono (by simp))⟩
  | true =>
    have hN := of_decide_eq_true hq
    have hlen := h.len
    have hn2 : n ≤ 1024 := by omega
    have hn0 : 0 < n := by omega
    obtain ⟨ba, o, rfl, hba, hcells⟩ := h.get hn0
    have hne : xs ≠ [] := fun e => by rw [e] at hlen; simp at hlen; omega
    have hfe := dform_eq hne
    have hx0 : Fits .i64 (xs[0]?.getD 0) := by rw [List.getElem?_eq_getElem (by omega)]; exact hi _ (List.getElem_mem _)
    have hc0 := hcells 0 hn0
    rw [List.getD_eq_getElem?_getD, Nat.add_zero] at hc0
    obtain ⟨x0, hx0e⟩ : ∃ x, xs[0]?.getD 0 = x := ⟨_, rfl⟩
    rw [hx0e] at hx0 hc0 hfe
    have hzz := zig_nonneg x0
    have hzm := zig_max x0 hx0.1 hx0.2
    have hzg := zig_any x0
    obtain ⟨z0, hz0⟩ := Int.eq_ofNat_of_zero_le hzz
    rw [hz0] at hzm hzg
    rw [hz0, Int.toNat_natCast] at hfe
    have HZ := Lib.hid (fun w => hzg w hx0.1 hx0.2)
    have hsz := fun w => size_any z0 w hzm
    have hv0 := vput_len_u64 z0 (by omega)
    obtain ⟨S0, hS0⟩ : ∃ S, (vput z0).length = S := ⟨_, rfl⟩
    rw [hS0] at hsz hv0
    have HSZ := Lib.hid hsz
    have HD := Lib.hid (fun w h => deltas_any (some ⟨ba, o, none⟩) n c xs w h (by omega))
    have hdl : (deltas xs).length = n - 1 := by simp [deltas, hlen]
    have hdi := deltas_i64 xs
    obtain ⟨ds, hds⟩ : ∃ ds, deltas xs = ds := ⟨_, rfl⟩
    rw [hds] at HD hdl hdi hfe
    have hfl : (dform xs).length = S0 + (drest ds).length := by rw [hfe, List.length_append, hS0]
    have HFL := Lib.hid hfl
    have HDL := Lib.hid (And.intro hdl hdi)
    have HX0 := Lib.hid hx0
    clear ht hq h hi hk hN hlen hcells hfe hx0e hzz hzm hzg hz0 hsz hS0 hds hdl hdi hfl hne hx0
    refine (callsIn_wide (n := 0)).1 (callsIn_of_wp_marks (F := Fence.wide) Try.func18 rfl trivial ?_ rfl)
    simp only [Try.ntmps18, List.size_toArray, List.length_cons, List.length_nil, Nat.reduceAdd, Nat.reduceSub, Array.replicate_succ, Array.replicate_zero, List.push_toArray, List.append_toArray, List.nil_append, List.cons_append]
    gi_wp2_with (first
      | (refine ⟨trivial, rfl, ?_⟩; gi_at_call 24; refine (callsIn_wide.2 (HT.out _)).mono ?_; rintro e w1 ⟨rfl, hb1⟩; have HB1 := Lib.hid (((Below.refl w.heap.size w).alloc (Nat.le_refl _) (.cells #[] 34)).trans (hb1.mono (by simp))); have hc1 := (HB1.out.cell (p := ⟨ba, o, none⟩) hba).trans hc0; clear hb1)
      | (refine ⟨trivial, rfl, ?_⟩; gi_at_call 38; refine (callsIn_wide.2 (HZ.out _)).mono ?_; rintro e w2 ⟨rfl, rfl⟩)
      | (refine ⟨trivial, rfl, ?_⟩; gi_at_call 37; refine (callsIn_wide.2 (HSZ.out _)).mono ?_; rintro e w2 ⟨rfl, hb2⟩; have HB2 := Lib.hid (HB1.out.trans (hb2.mono HB1.out.size)); clear hb2)
      | (refine ⟨trivial, rfl, ?_⟩; gi_at_call 40; refine (callsIn_wide.2 (HD.out _ (H.out.below (HB2.out.alloc HB2.out.size _)))).mono ?_; rintro e w4 ⟨A4, n4, c4, rfl, ho4, hb4⟩; have HO4 := Lib.hid ho4; have HB4 := Lib.hid hb4; clear ho4 hb4)
      | (refine ⟨trivial, rfl, ?_⟩; gi_at_call 39; refine (callsIn_wide.2 (chunks_any A4 n4 c4 128 (by omega) _)).mono ?_; rintro e w5 ⟨rfl, rfl⟩))
    obtain ⟨p, hp⟩ : ∃ p, w2.heap.size = p := ⟨_, rfl⟩
    obtain ⟨g, hg⟩ : ∃ g, w4.heap.size = g := ⟨_, rfl⟩
    obtain ⟨W0, hW0⟩ : ∃ W0, (w4.alloc (.cells #[.slice A4 n4 c4] 22)).alloc (.cells #[.int .i64 128] 3) = W0 := ⟨_, rfl⟩
    have hs3 : (w2.alloc (.cells #[.int .i64 (S0 : Int)] 3)).heap.size = p + 1 := by rw [World.size_alloc, hp]
    have hpg : p + 1 ≤ g := by rw [← hg, ← hs3]; exact HB4.out.size
    have hwp : w.heap.size ≤ p := by rw [← hp]; exact HB2.out.size
    have hs0 : W0.heap.size = g + 2 := by rw [← hW0, ← hg]; simp
    have hb0 : Box W0 p 3 (.int .i64 (S0 : Int)) := by
      have h1 : Box (w2.alloc (.cells #[.int .i64 (S0 : Int)] 3)) p 3 (.int .i64 (S0 : Int)) := by rw [← hp]; exact Box.new _ _ _
      rw [← hW0]; exact ((h1.below HB4.out (by rw [hs3]; omega)).alloc _).alloc _
    have hb1 : Box W0 g 22 (.slice A4 n4 c4) := by rw [← hW0, ← hg]; exact (Box.new _ _ _).alloc _
    have hb2 : Box W0 (g + 1) 3 (.int .i64 128) := by
      rw [← hW0, ← hg]; have h1 := Box.new (w4.alloc (.cells #[.slice A4 n4 c4] 22)) 3 (.int .i64 128); rwa [World.size_alloc] at h1
    have hbl : Below w.heap.size w W0 := by
      have h1 := HB2.out.alloc HB2.out.size (.cells #[.int .i64 (S0 : Int)] 3)
      have h2 := h1.trans (HB4.out.mono h1.size)
      rw [← hW0]; exact (h2.alloc h2.size _).alloc (by have := h2.size; simp; omega) _
    have hod : Owns W0 (p + 1) 2 .i64 A4 n4 c4 ds := by
      have h1 := HO4.out; rw [hs3] at h1
      rw [← hW0]; exact (h1.alloc _).alloc _
    have hn4 : n4 = n - 1 := by have h1 := row_len HO4.out; have h2 := HDL.out.1; omega
    rw [hg, hp]
    rw [hW0]
    clear hW0 hp hs3 HO4 HB4 HB2 HB1 hc1 hg
    have hit := chunks_iter A4 n4 c4 128 g (g + 1) W0 (Rd.own hod).cap (by omega) (by omega) (by omega) hb1 hb2
    refine wpIn_rangeH (w0 := W0) (encs := ckV A4) rfl (enters_f Try.func86 (by kernel_rfl) rfl) hit (Keep.refl _ _) (fun k hk => by omega) (fun k hk => hk.elim) (fun _ => rfl)
      (fun pre W => Box W p 3 (.int .i64 ((S0 : Int) + ((prts dpart ds pre).length : Int))) ∧ Owns W (p + 1) 2 .i64 A4 n4 c4 ds ∧ Below w.heap.size w W) ?stab ?start ?round ?done
    case stab =>
      rintro pre W W' ⟨h1, h2, h4⟩ hk
      exact ⟨h1.keep hk ⟨fun h => h, fun h => h1.cells h.2⟩, owns_keep h2 hk (fun g' _ hc => ⟨fun h => h, fun h => hc h.2⟩), h4.trans (below_keep hk (by have := h4.size; omega) (fun k hk => ⟨fun h => h, fun h => by omega⟩))⟩
    case start => exact ⟨by simpa [prts_nil] using hb0, hod, hbl⟩
    case round =>
      intro l pre x W hpre hI hgl hsz
      obtain ⟨x1, x2⟩ := x
      obtain ⟨hx1, hx2, hx3⟩ := cks_pre (by omega) hpre
      simp only at hx1 hx2 hx3
      have hle := prts_le (f := dpart) (l := ds) (m := 128) (by rw [HDL.out.1, ← hn4]; exact pre_of_snoc hpre)
      have hdr := drest_len _ ds HDL.out.1 HDL.out.2
      rw [show chunked 128 dpart ds = drest ds from rfl] at hle
      have hsn := prts_snoc dpart ds pre (x1, x2)
      simp only at hsn
      obtain ⟨pp, hpp⟩ : ∃ pp, (ds.drop x1).take x2 = pp := ⟨_, rfl⟩
      rw [hpp] at hsn
      obtain ⟨L, hL⟩ : ∃ L, (prts dpart ds pre).length = L := ⟨_, rfl⟩
      have hL2 : (prts dpart ds (pre ++ [(x1, x2)])).length = L + (dpart pp).length := by rw [hsn, List.length_append, hL]
      rw [hL] at hle
      have HI := Lib.hid hI
      have HL2 := Lib.hid hL2
      have hL3 : L ≤ 30000 := by omega
      have HPP := Lib.hid hpp
      have HLE := Lib.hid hL
      clear hpre hI hle hdr hsn hpp hL hL2 hit hb0 hb1 hb2 hbl hod
      unfold ckV
      gi_wp2
      refine ⟨Keep.refl _ _, HI.out, ?_⟩
      rintro W2 ⟨b5, od, bl⟩ hst ⟨r0, hl0⟩
      rw [HLE.out] at b5
      have hW2 : g + 2 ≤ W2.heap.size := by have := hst.size; omega
      have hl2 : l < W2.heap.size := (Array.getElem?_eq_some_iff.1 hl0).1
      have c5 := cell_of_one b5
      have hpc := Rd.piece (Rd.own od) (l := x1) (m := x2) hx1 (by omega)
      rw [HPP.out] at hpc
      have hpl : pp.length = x2 := hpc.len
      have hpi : ∀ y ∈ pp, I64 y := by rw [← HPP.out]; exact fun y hy => HDL.out.2 y (List.mem_of_mem_drop (List.mem_of_mem_take hy))
      have hof := doffs_any (A4.map (·.add x1)) x2 x2 pp W2 hpc (by omega)
      unfold RetOff at hof
      have hdp := dpart_len pp
      have hfi : I64 (least pp) := least_i64 hpi
      have hui := offsets_u64 (least pp) pp
      have hul : (offsets (least pp) pp).length = x2 := by simp [offsets, hpl]
      obtain ⟨f, hf⟩ : ∃ f, least pp = f := ⟨_, rfl⟩
      rw [hf] at hof hdp hfi hui hul
      obtain ⟨us, hus⟩ : ∃ us, offsets f pp = us := ⟨_, rfl⟩
      rw [hus] at hof hdp hui hul
      have hzz := zig_nonneg f
      have hzm := zig_max f hfi.1 hfi.2
      have hzg := fun w => zig_any f w hfi.1 hfi.2
      obtain ⟨z, hz⟩ := Int.eq_ofNat_of_zero_le hzz
      rw [hz] at hzm hzg
      rw [hz, Int.toNat_natCast] at hdp
      have hsz2 := fun w => size_any z w hzm
      have hv := vput_len_u64 z (by omega)
      obtain ⟨V, hV⟩ : ∃ V, (vput z).length = V := ⟨_, rfl⟩
      rw [hV] at hsz2 hv hdp
      have hpk := dpacks_len _ us hul hui
      rw [hul] at hdp
      have HZ2 := Lib.hid hzg
      have HS2 := Lib.hid hsz2
      have HOF := Lib.hid hof
      have HDP := Lib.hid hdp
      have HUS := Lib.hid (And.intro hul (And.intro hui hpk))
      have B5 := Lib.hid b5
      have OD := Lib.hid od
      have BL := Lib.hid bl
      have HL0 := Lib.hid hl0
      clear b5 od bl hst hl0 hpc hpl hpi hof hdp hfi hui hul hf hus hzz hzm hzg hz hsz2 hV hpk HI HZ HSZ HX0 HT H hc0
      gi_wp2_with (refine ⟨trivial, rfl, ?_⟩; gi_at_call 41; refine CallsIn.inRound l (callsIn_wide.2 (HOF.out.mono ?_)); rintro e w3 ⟨A3, n3, c3, rfl, ho3, hb3⟩; have HO3 := Lib.hid ho3; have HB3 := Lib.hid hb3; have c5' := (hb3.cell (p := ⟨p, 0, none⟩) (show p < W2.heap.size by omega)).trans c5; clear ho3 hb3)
      refine wpIn_region_free 5 (by kernel_rfl) (by kernel_rfl) (by kernel_rfl) ?_
      refine chain_val (.int .i64 ((S0 : Int) + (L : Int))) (S := [5]) rfl ?_ ?_
      · intro ρ w' hE hB hs
        have h5 : ρ (.tmp 5) = .pointer (some ⟨p, 0, none⟩) := hs 5 (by decide)
        clear hs
        refine if_t (by rfl) ?_
        have hcl := (hB.cell (p := ⟨p, 0, none⟩) (show p < w3.heap.size by have := HB3.out.size; omega)).trans c5'
        go_simp
      refine chain_val (.int .i64 f) (S := [7]) rfl ?_ ?_
      · intro ρ w' hE hB hs
        have h7 : ρ (.tmp 7) = .int .i64 f := hs 7 (by decide)
        clear hs
        refine if_t (by rfl) ?_
        (go_simp <;> exact wrapi64_in _ (by omega) (by omega))
      refine chain_static (fun v__ _ => v__ = .int .u64 (z : Int)) (stable_eq _) (S := [29]) rfl (Go.Cor.enters_f Try.func38 (by kernel_rfl) rfl) rfl ?_ ?_
      · intro ρ w' hE hB hs
        have h29 : ρ (.tmp 29) = .int .i64 f := hs 29 (by decide)
        clear hs
        refine ⟨(by rfl), ?_⟩
        simp only [List.map_toArray, List.map_cons, List.map_nil, h29]
        refine (HZ2.out _).mono ?_
        rintro e w3 ⟨rfl, rfl⟩
        exact ⟨_, rfl, Below.refl _ _, rfl⟩
      refine chain_static (fun v__ _ => v__ = .int .i64 (V : Int)) (stable_eq _) (S := [30]) rfl (Go.Cor.enters_f Try.func37 (by kernel_rfl) rfl) rfl ?_ ?_
      · intro ρ w' hE hB hs
        have h30 : ρ (.tmp 30) = .int .u64 (z : Int) := hs 30 (by decide)
        clear hs
        refine ⟨(by rfl), ?_⟩
        simp only [List.map_toArray, List.map_cons, List.map_nil, h30]
        refine (HS2.out _).mono ?_
        rintro e w3 ⟨rfl, hb⟩
        exact ⟨_, rfl, hb, rfl⟩
      refine chain_val (.int .i64 ((S0 : Int) + (L : Int) + (V : Int))) (S := [28, 31]) rfl ?_ ?_
      · intro ρ w' hE hB hs
        have h28 : ρ (.tmp 28) = .int .i64 ((S0 : Int) + (L : Int)) := hs 28 (by decide)
        have h31 : ρ (.tmp 31) = .int .i64 (V : Int) := hs 31 (by decide)
        clear hs
        refine if_t (by rfl) ?_
        (go_simp <;> exact wrapi64_in _ (by omega) (by omega))
      intro w1 hB1
      simp only [List.reverse_cons, List.reverse_nil, List.nil_append, List.cons_append, Go.Free.Ends, forall_eq, Act.put, List.setIfInBounds_toArray, List.set_cons_zero, List.set_cons_succ]
      have hbb : Below W2.heap.size W2 w1 := HB3.out.trans (hB1.mono HB3.out.size)
      have b5a := B5.out.below hbb (lt_of_block B5.out)
      have c5a := cell_of_one b5a
      have f5a := free_of_one b5a
      have HBB := Lib.hid hbb
      have HO3a := Lib.hid (Owns.below HO3.out hB1)
      have ODa := Lib.hid (Owns.below OD.out hbb)
      have B5a := Lib.hid b5a
      clear hB1 hbb b5a c5' c5
      gi_wp2_with (refine ⟨trivial, rfl, ?_⟩; gi_at_call 42; refine CallsIn.inRound l (callsIn_wide.2 ((chunku_any A3 n3 c3 32 (by omega) _).mono ?_)); rintro e w5 ⟨rfl, rfl⟩)
      obtain ⟨S1, hS1⟩ : ∃ S1 : Int, (S0 : Int) + (L : Int) + (V : Int) = S1 := ⟨_, rfl⟩
      rw [hS1]
      obtain ⟨g3, hg3⟩ : ∃ g, w1.heap.size = g := ⟨_, rfl⟩
      obtain ⟨V0, hV0⟩ : ∃ V0, ((w1.setCell ⟨p, 0, none⟩ (.int .i64 S1)).alloc (.cells #[.slice A3 n3 c3] 51)).alloc (.cells #[.int .i64 32] 3) = V0 := ⟨_, rfl⟩
      have hsc : (w1.setCell ⟨p, 0, none⟩ (.int .i64 S1)).heap.size = g3 := by rw [← hg3]; simp [World.setCell]
      have hWg : W2.heap.size ≤ g3 := by rw [← hg3]; exact HBB.out.size
      have vs : V0.heap.size = g3 + 2 := by rw [← hV0, World.size_alloc, World.size_alloc, hsc]
      have vb0 : Box V0 p 3 (.int .i64 S1) := by rw [← hV0]; exact Box.alloc (Box.alloc (one_setCell B5a.out) _) _
      have vb1 : Box V0 g3 51 (.slice A3 n3 c3) := by rw [← hV0, ← hsc]; exact (Box.new _ _ _).alloc _
      have vb2 : Box V0 (g3 + 1) 3 (.int .i64 32) := by
        rw [← hV0, ← hsc]; have h1 := Box.new ((w1.setCell ⟨p, 0, none⟩ (.int .i64 S1)).alloc (.cells #[.slice A3 n3 c3] 51)) 3 (.int .i64 32); rwa [World.size_alloc] at h1
      have vo3 : Owns V0 W2.heap.size 32 .u64 A3 n3 c3 us := by
        rw [← hV0]; exact ((ownsRow_setCell_other HO3a.out (a := ⟨p, 0, none⟩) (fun e => by have := (HO3a.out.lt p e).1; omega) _).alloc _).alloc _
      have vod : Owns V0 (p + 1) 2 .i64 A4 n4 c4 ds := by
        rw [← hV0]; exact ((ownsRow_setCell_other ODa.out (a := ⟨p, 0, none⟩) (fun e => by have := (ODa.out.lt p e).1; omega) _).alloc _).alloc _
      have vbl : Below w.heap.size w V0 := by
        have h1 := (BL.out.trans (HBB.out.mono BL.out.size)).setCell (p := ⟨p, 0, none⟩) (by simp only; omega) (.int .i64 S1)
        rw [← hV0]; exact (h1.alloc h1.size _).alloc (by have := h1.size; simp at this ⊢; omega) _
      have vrk : RoundKeep (fun j => j = g ∨ j = g + 1) W2 V0 := by
        rw [← hV0]
        refine RoundKeep.trans (.of_below HBB.out) (RoundKeep.trans (.setCell _ ?_ _) (RoundKeep.trans (.alloc _ _ _) (.alloc _ _ _)))
        rintro (h | h)
        · simp only at h; omega
        · exact B5a.out.cells h
      have vl : V0.heap[l]? = some (.loop r0) := (vrk.block l hl2 (.inr ⟨_, HL0.out, rfl⟩)).trans HL0.out
      obtain rfl : n3 = x2 := by have h1 := row_len HO3.out; have h2 := HUS.out.1; omega
      rw [hg3, hV0]
      have HS1 := Lib.hid hS1
      have hS1a : 0 ≤ S1 := by omega
      have hS1b : S1 ≤ 40000 := by omega
      clear hV0 hsc hg3 hS1 HO3 HO3a ODa B5a HBB B5 OD BL HL0 HB3 c5a f5a HOF HZ2 HS2
      have hit2 := chunku_iter A3 n3 c3 32 g3 (g3 + 1) V0 (Rd.own vo3).cap (by omega) (by omega) (by omega) vb1 vb2
      refine wpIn_rangeN (w0 := V0) (encs := ckV A3) vl rfl (enters_f Try.func87 (by kernel_rfl) rfl) hit2 (Keep.refl _ _) (fun k hk => by omega) (fun k hk => hk.elim) (fun _ => rfl)
        (fun pre W => Box W p 3 (.int .i64 (S1 + ((pre.length : Nat) : Int) + ((prts (fun x => packed (most x).toNat x) us pre).length : Int))) ∧ Owns W W2.heap.size 32 .u64 A3 n3 c3 us ∧ Owns W (p + 1) 2 .i64 A4 n4 c4 ds ∧ Below w.heap.size w W ∧ RoundKeep (fun j => j = g ∨ j = g + 1) W2 W) ?stab2 ?start2 ?round2 ?done2
      case stab2 =>
        rintro pre W W' ⟨h1, h2, h3, h4, h5⟩ hk
        exact ⟨h1.keep hk ⟨fun h => h, fun h => h1.cells h.2⟩, owns_keep h2 hk (fun g' _ hc => ⟨fun h => h, fun h => hc h.2⟩), owns_keep h3 hk (fun g' _ hc => ⟨fun h => h, fun h => hc h.2⟩), h4.trans (below_keep hk (by have := h4.size; omega) (fun k hk => ⟨fun h => h, fun h => by omega⟩)), h5.step (by omega) hk⟩
      case start2 => exact ⟨by simpa [prts_nil] using vb0, vo3, vod, vbl, vrk⟩
      case done2 =>
        rintro W' ⟨h1, h2, h3, h4, h5⟩
        have hd1 := prts_all 32 (fun x => packed (most x).toNat x) us
        rw [HUS.out.1] at hd1
        rw [hd1, cks_len] at h1
        refine ⟨h5, ?_, h3, h4⟩
        have e1 := HL2.out
        have e2 := HDP.out
        have e3 := HS1.out
        rw [show chunked 32 (fun x => packed (most x).toNat x) us = dpacks us from rfl] at h1
        rw [show (S0 : Int) + ((prts dpart ds (pre ++ [(x1, n3)])).length : Int) = S1 + (((n3 + 32 - 1) / 32 : Nat) : Int) + ((dpacks us).length : Int) by omega]
        exact h1
      case round2 =>
        intro l3 pre3 y W3 hpre3 hI3 hsz3
        obtain ⟨y1, y2⟩ := y
        obtain ⟨hy1, hy2, hy3⟩ := cks_pre (by omega) hpre3
        simp only at hy1 hy2 hy3
        have hle3 := prts_le (f := fun x => packed (most x).toNat x) (l := us) (m := 32) (by rw [HUS.out.1]; exact pre_of_snoc hpre3)
        rw [show chunked 32 (fun x => packed (most x).toNat x) us = dpacks us from rfl] at hle3
        have hln3 := pre_len (pre_of_snoc hpre3)
        have hsn3 := prts_snoc (fun x => packed (most x).toNat x) us pre3 (y1, y2)
        simp only at hsn3
        obtain ⟨pq, hpq⟩ : ∃ pq, (us.drop y1).take y2 = pq := ⟨_, rfl⟩
        rw [hpq] at hsn3
        have hpqi : U64l pq := by rw [← hpq]; exact (HUS.out.2.1.drop y1).take y2
        have hpql : pq.length = y2 := by rw [← hpq, List.length_take, List.length_drop, HUS.out.1]; omega
        have hm := most_bd hpqi
        have hmo := fun A w h => most_any A y2 y2 pq w h (by omega) hpqi
        obtain ⟨k, hk⟩ := Int.eq_ofNat_of_zero_le hm.1
        rw [hk] at hm hsn3 hmo
        rw [Int.toNat_natCast] at hsn3
        have hpkl : (packed k pq).length = octets (y2 * k) := by rw [packed_len, hpql]
        have hk64 : k ≤ 64 := by omega
        have hoc0 : y2 * k ≤ 32 * 64 := Nat.mul_le_mul hy2 hk64
        have hnd := fun w => need_any y2 k (by omega) hk64 w
        obtain ⟨oc, hoc⟩ : ∃ oc, octets (y2 * k) = oc := ⟨_, rfl⟩
        have hoc2 : oc ≤ 256 := by rw [← hoc]; unfold octets; omega
        rw [hoc] at hpkl hnd
        obtain ⟨P3, hP3⟩ : ∃ P, (prts (fun x => packed (most x).toNat x) us pre3).length = P := ⟨_, rfl⟩
        have hL4 : (prts (fun x => packed (most x).toNat x) us (pre3 ++ [(y1, y2)])).length = P3 + oc := by rw [hsn3, List.length_append, hP3, hpkl]
        rw [hP3] at hle3
        have hP3b : P3 ≤ 2000 := by have := HUS.out.2.2; omega
        obtain ⟨q3, hq3⟩ : ∃ q, pre3.length = q := ⟨_, rfl⟩
        rw [hq3] at hln3
        have hq3b : q3 ≤ 10 := by omega
        have HND := Lib.hid hnd
        have HMO := Lib.hid hmo
        have HPQ := Lib.hid hpq
        have HQ3 := Lib.hid (And.intro hq3 (And.intro hP3 hL4))
        have HI3 := Lib.hid hI3
        have HW3 := Lib.hid (show g3 + 2 ≤ W3.heap.size by omega)
        clear hpre3 hI3 hle3 hln3 hsn3 hpq hpqi hpql hm hmo hk hpkl hoc0 hnd hoc hL4 hP3 hq3 hit2 vb0 vb1 vb2 vo3 vod vbl vrk vl hsz3
        unfold ckV
        gi_wp2
        refine ⟨Keep.refl _ _, HI3.out, ?_⟩
        rintro W4 ⟨d1, d2, d3, d4, d5⟩ hst4
        rw [HQ3.out.1, HQ3.out.2.1] at d1
        have hW4 : g3 + 2 ≤ W4.heap.size := by have := HW3.out; have := hst4.size; omega
        obtain ⟨Z, hZ⟩ : ∃ Z : Int, S1 + (q3 : Int) + (P3 : Int) = Z := ⟨_, rfl⟩
        rw [hZ] at d1
        have hZ0 : 0 ≤ Z := by omega
        have hZ1 : Z ≤ 50000 := by omega
        have cd := cell_of_one d1
        have hpr := Rd.piece (Rd.own d2) (l := y1) (m := y2) hy1 (by omega)
        rw [HPQ.out] at hpr
        have HZ := Lib.hid hZ
        have D1 := Lib.hid d1
        have D2 := Lib.hid (And.intro d2 (And.intro d3 (And.intro d4 d5)))
        have HPR := Lib.hid hpr
        clear hZ d1 d2 d3 d4 d5 hpr hst4 HI3
        gi_wp2
        refine wpIn_region_free 8 (by kernel_rfl) (by kernel_rfl) (by kernel_rfl) ?_
        refine chain_val (.int .i64 Z) (S := [5]) rfl ?_ ?_
        · intro ρ w' hE hB hs
          have h5 : ρ (.tmp 5) = .pointer (some ⟨p, 0, none⟩) := hs 5 (by decide)
          clear hs
          refine if_t (by rfl) ?_
          have hcl := (hB.cell (p := ⟨p, 0, none⟩) (show p < W4.heap.size by omega)).trans cd
          go_simp
        refine chain_val (.slice (A3.map fun x => x.add y1) y2 y2) (S := [9]) rfl ?_ ?_
        · intro ρ w' hE hB hs
          have h9 : ρ (.tmp 9) = .slice (A3.map fun x => x.add y1) y2 y2 := hs 9 (by decide)
          clear hs
          refine if_t (by rfl) ?_
          (go_simp <;> exact wrapi64_in _ (by omega) (by omega))
        refine chain_val (.int .i64 (y2 : Int)) (S := [37]) rfl ?_ ?_
        · intro ρ w' hE hB hs
          have h37 : ρ (.tmp 37) = .slice (A3.map fun x => x.add y1) y2 y2 := hs 37 (by decide)
          clear hs
          refine if_t (by rfl) ?_
          (go_simp <;> exact wrapi64_in _ (by omega) (by omega))
        refine chain_val (.slice (A3.map fun x => x.add y1) y2 y2) (S := [9]) rfl ?_ ?_
        · intro ρ w' hE hB hs
          have h9 : ρ (.tmp 9) = .slice (A3.map fun x => x.add y1) y2 y2 := hs 9 (by decide)
          clear hs
          refine if_t (by rfl) ?_
          (go_simp <;> exact wrapi64_in _ (by omega) (by omega))
        refine chain_static (fun v__ _ => v__ = .int .i64 (k : Int)) (stable_eq _) (S := [39]) rfl (Go.Cor.enters_f Try.func44 (by kernel_rfl) rfl) rfl ?_ ?_
        · intro ρ w' hE hB hs
          have h39 : ρ (.tmp 39) = .slice (A3.map fun x => x.add y1) y2 y2 := hs 39 (by decide)
          clear hs
          refine ⟨(by rfl), ?_⟩
          simp only [List.map_toArray, List.map_cons, List.map_nil, h39]
          refine (HMO.out _ _ (HPR.out.below hB)).mono ?_
          rintro e w3 ⟨rfl, rfl⟩
          exact ⟨_, rfl, Below.refl _ _, rfl⟩
        refine chain_static (fun v__ _ => v__ = .int .i64 (oc : Int)) (stable_eq _) (S := [38, 40]) rfl (Go.Cor.enters_f Try.func43 (by kernel_rfl) rfl) rfl ?_ ?_
        · intro ρ w' hE hB hs
          have h38 : ρ (.tmp 38) = .int .i64 (y2 : Int) := hs 38 (by decide)
          have h40 : ρ (.tmp 40) = .int .i64 (k : Int) := hs 40 (by decide)
          clear hs
          refine ⟨(by rfl), ?_⟩
          simp only [List.map_toArray, List.map_cons, List.map_nil, h38, h40]
          refine (HND.out _).mono ?_
          rintro e w3 ⟨rfl, rfl⟩
          exact ⟨_, rfl, Below.refl _ _, rfl⟩
        refine chain_val (.int .i64 (1 + (oc : Int))) (S := [41]) rfl ?_ ?_
        · intro ρ w' hE hB hs
          have h41 : ρ (.tmp 41) = .int .i64 (oc : Int) := hs 41 (by decide)
          clear hs
          have hc := hE.const
          refine if_t (by rfl) ?_
          (go_simp <;> exact wrapi64_in _ (by omega) (by omega))
        refine chain_val (.int .i64 (Z + (1 + (oc : Int)))) (S := [36, 42]) rfl ?_ ?_
        · intro ρ w' hE hB hs
          have h36 : ρ (.tmp 36) = .int .i64 Z := hs 36 (by decide)
          have h42 : ρ (.tmp 42) = .int .i64 (1 + (oc : Int)) := hs 42 (by decide)
          clear hs
          refine if_t (by rfl) ?_
          (go_simp <;> exact wrapi64_in _ (by omega) (by omega))
        intro w1 hB1
        simp only [List.reverse_cons, List.reverse_nil, List.nil_append, List.cons_append, Go.Free.Ends, forall_eq, Act.put, List.setIfInBounds_toArray, List.set_cons_zero, List.set_cons_succ]
        have d1 := D1.out.below hB1 (lt_of_block D1.out)
        have cd1 := cell_of_one d1
        have fd1 := free_of_one d1
        have D1' := Lib.hid d1
        have HB1 := Lib.hid hB1
        clear d1 hB1 cd
        gi_wp2
        refine ⟨?_, ?_, ?_, ?_, ?_, ?_⟩
        · refine RoundKeep.trans (.of_below HB1.out) (.setCell _ ?_ _)
          rintro (h | h)
          · simp only at h; omega
          · exact D1'.out.cells h
        · have e1 := HZ.out
          have h1 := one_setCell (u := .int .i64 (Z + (1 + (oc : Int)))) D1'.out
          rw [HQ3.out.2.2, List.length_append, HQ3.out.1, List.length_singleton, show S1 + ((q3 + 1 : Nat) : Int) + ((P3 + oc : Nat) : Int) = Z + (1 + (oc : Int)) by omega]
          exact h1
        · have h1 := Owns.below D2.out.1 HB1.out
          exact ownsRow_setCell_other h1 (a := ⟨p, 0, none⟩) (fun e => by have := (h1.lt p e).1; omega) _
        · have h1 := Owns.below D2.out.2.1 HB1.out
          exact ownsRow_setCell_other h1 (a := ⟨p, 0, none⟩) (fun e => by have := (h1.lt p e).1; omega) _
        · exact (D2.out.2.2.1.trans (HB1.out.mono D2.out.2.2.1.size)).setCell (p := ⟨p, 0, none⟩) (by simp only; omega) _
        · refine RoundKeep.trans D2.out.2.2.2 (RoundKeep.trans (.of_below HB1.out) (.setCell _ ?_ _))
          rintro (h | h)
          · simp only at h; omega
          · exact D1'.out.cells h
    case done =>
      rintro D W hD ⟨h1, h2, h4⟩ hK
      have hpa := prts_all 128 dpart ds
      rw [HDL.out.1, ← hn4] at hpa
      rw [hpa, show chunked 128 dpart ds = drest ds from rfl] at h1
      have c5 := cell_of_one h1
      have hp5 := lt_of_block h1
      obtain ⟨R, hR⟩ : ∃ R, (drest ds).length = R := ⟨_, rfl⟩
      rw [hR] at c5
      have HFL2 := Lib.hid (show ((dform xs).length : Int) = (S0 : Int) + (R : Int) by have := HFL.out; omega)
      have H4 := Lib.hid h4
      have HK := Lib.hid hK
      clear hpa h1 h2 h4 hK hR hit hb0 hb1 hb2 hbl hod
      gi_wp2
      refine leaves_mark HK.out (results_tmp rfl _ _ _) ⟨by rw [HFL2.out]; rfl, ?_⟩
      exact H4.out.trans (below_keep (S := fun _ k => k < w.heap.size) (.putObj _ (by omega) _) (by have := H4.out.size; omega) (fun k hk => hk))
theorem deltaS : Sizer 34 18 tkAll dform :=
  ⟨md_size, enters_f Try.func18 (by kernel_rfl) rfl, dSize_any⟩
end Go.Proofs.Ytkbcmblgieoleaa

namespace Go.Cor
open Go
theorem dstep_min {M lack : Nat} (h : min 128 lack = M) (b : List Int) : dstep M b = dstep lack b := by subst h; unfold dstep; rw [← Nat.min_assoc, Nat.min_self]
end Go.Cor
namespace Go.Proofs.Ytkbcmblgieoleaa
open Go.RowKit Go.Cor Go.Free

set_option maxRecDepth 100000 in
set_option maxHeartbeats 8000000 in
theorem ddec1 {w : World} {p bN : Nat} {A : Option Addr} {n c : Nat} {xs : List Int} {N : Nat} (h : Cur w p A n c xs 0) (hb : Box w bN 3 (.int .i64 N)) (hbp : bN ≠ p) (hN : N ≤ 1024) (hN0 : 0 < N) :
    Calls Try.prog 46 #[.pointer (some ⟨p, 0, none⟩), .pointer (some ⟨bN, 0, none⟩)] w (Dec p A n c xs w (dall N xs).1 (dall N xs).2.1 (dall N xs).2.2) := by
  have hlen := h.rd.len
  have hby := h.bytes
  have hnx := dnext_any h
  unfold NextZ at hnx
  rw [List.drop_zero] at hnx
  by_cases he : (vget 0 xs).2.2 = 0
  · obtain ⟨v, m, hv, hm1, hm2, hv64⟩ := vget_shape hby he
    have hR := dall_get hN0 hv
    rw [hv] at hnx
    obtain ⟨R, hRe⟩ : ∃ R, dall N xs = R := ⟨_, rfl⟩
    obtain ⟨K, hK⟩ : ∃ K, drun dstep (N - 1) (xs.drop m) = K := ⟨_, rfl⟩
    have hK2 : K = dlift [] 0 (drun dstep (N - 1) (xs.drop m)) := by rw [← hK]; exact drun_start _ _
    rw [hRe, hK] at hR
    rw [hRe]
    have hz := zag_min v (by omega) hv64
    obtain ⟨z, hze⟩ : ∃ z, zag (v : Int) = z := ⟨_, rfl⟩
    rw [hze] at hnx hR hz
    obtain ⟨hz1, hz2⟩ := hz
    have HN := Lib.hid hnx
    have H := Lib.hid h
    have HR := Lib.hid hR
    have HK := Lib.hid hK2
    have HBY := Lib.hid hby
    have HBX := Lib.hid hb
    have hwb := lt_of_block hb
    clear h hby hnx he hv hR hK2 hK hRe hb hlen hze hm2 hv64
    go_enter Try.func46, Try.ntmps46
    go_wp2_with fail
    refine HN.out.mono ?_
    rintro e w1 ⟨hm1', ⟨_, rfl, hcu1⟩ | ⟨h0, _⟩⟩
    rotate_left
    · exact absurd rfl h0
    simp only [Int.toNat_natCast, Nat.zero_add] at hcu1
    have HC1 := Lib.hid hcu1
    have HM1 := Lib.hid hm1'
    clear hcu1 hm1'
    go_wp2_with fail
    go_loopg [5] (N - 1) (fun gg v5 wr => ∃ (mm : Nat) (A' : Option Addr) (c' : Nat) (l : List Int) (a : Nat), v5 = .slice A' mm c' ∧ mm ≤ N - 1 ∧ gg = N - 1 - mm ∧ Hid (Owns wr w.heap.size 2 .i64 A' mm c' l ∧ Cur wr p A n c xs (m + a) ∧ Mod (· = p) w wr ∧ K = dlift l a (drun dstep (N - 1 - mm) (xs.drop (m + a)))))
    case atStart => exact ⟨0, none, 0, [], 0, rfl, by omega, rfl, Lib.hid ⟨owns_nil _ _ _ _, HC1.out, HM1.out, HK.out⟩⟩
    case round =>
      obtain ⟨mm, A', c', l, a, rfl, hm, rfl, hI⟩ := hrel
      obtain ⟨wo, rfl⟩ : ∃ wo, wo = wr := ⟨_, rfl⟩
      have hcb : wo.cell? ⟨bN, 0, none⟩ = some (.int .i64 (N : Int)) := cell_of_one (HBX.out.keep hI.out.2.2.1 hbp)
      by_cases hlt : mm < N - 1
      · have hd : decide ((mm : Int) < (N : Int) - 1) = true := by simp; omega
        obtain ⟨M, hM⟩ : ∃ M, min 128 (N - 1 - mm) = M := ⟨_, rfl⟩
        have et : min (128 : Int) ((N : Int) - 1 - (mm : Int)) = (M : Int) := by omega
        have hM128 : M ≤ 128 := by omega
        have hM0 : 0 < M := by omega
        have hMN : M ≤ N - 1 - mm := by omega
        have hdp := dpart_any hI.out.2.1 M hM128 hM0
        rw [dstep_min hM] at hdp
        have hok := fun he => dstep_ok (HBY.out.drop (m + a)) (lack := N - 1 - mm) (by omega) he
        have hst := fun he h1 => hI.out.2.2.2.trans (drun_step (step := dstep) l a (lack := N - 1 - mm) (b := xs.drop (m + a)) (by omega) he h1)
        have hbd := fun he => hI.out.2.2.2.trans (drun_bad (step := dstep) l a (lack := N - 1 - mm) (b := xs.drop (m + a)) (by omega) he)
        obtain ⟨S, hS⟩ : ∃ S, dstep (N - 1 - mm) (xs.drop (m + a)) = S := ⟨_, rfl⟩
        rw [hS] at hdp hok hst hbd
        rw [hM] at hok
        simp only [List.drop_drop] at hst
        have HDP := Lib.hid hdp
        have HST := Lib.hid (And.intro hok (And.intro hst hbd))
        clear hdp hok hst hbd hS hM
        go_wp2_with fail
        refine HDP.out.mono ?_
        rintro e w6 ⟨hm6, ⟨h0, ⟨A6, m6, c6, rfl, ho6⟩, hcu6⟩ | ⟨h0, rfl⟩⟩
        · have hl6 := row_len ho6
          obtain ⟨h7, _, h8⟩ := HST.out.1 h0
          obtain rfl : M = m6 := by omega
          have hK3 := HST.out.2.1 h0 (by omega)
          rw [h7] at hK3
          have HO6 := Lib.hid (Rd.own ho6)
          have HO := Lib.hid (owns_keep hI.out.1 hm6 fun g hg _ => by have h1 := (hI.out.1.lt g hg).1; have h2 := H.out.lt; show ¬ g = p; omega)
          have HM6 := Lib.hid (Mod.trans hI.out.2.2.1 hm6)
          have HC6 := Lib.hid hcu6
          have HK3 := Lib.hid hK3
          clear hl6 h7 h8 ho6 hm6 hcu6 hK3 h0
          go_wp2_with (at_builtin; refine wpList_append_r rfl rfl elemI64 HO.out rfl (Rd.toV HO6.out) rfl ints_one (by omega) (by omega) (by have := HM6.out.size; omega) ?_; intro A7 c7 w8 hown hg hat; have HG := Lib.hid (And.intro (owns_app hown) (Cu.grown H.out HM6.out HC6.out HO.out (Nat.le_refl _) hg)); clear hown hg hat)
          go_roundg (N - 1 - (mm + M))
          case measure => omega
          case rel =>
            refine ⟨mm + M, A7, c7, _, a + S.2.1, rfl, by omega, rfl, Lib.hid ⟨HG.out.1, ?_, HG.out.2.2, ?_⟩⟩
            · have := HG.out.2.1; rwa [Nat.add_assoc] at this
            · rw [HK3.out, Nat.sub_sub, Nat.add_assoc]
        · have hb3 := HST.out.2.2 h0
          have hRR := HR.out
          rw [hb3, if_pos (by exact h0)] at hRR
          have HRR := Lib.hid hRR
          clear hb3 hRR
          exact ⟨rfl, Mod.trans hI.out.2.2.1 hm6, .inr (by rw [HRR.out]; exact ⟨h0, rfl⟩)⟩
      · obtain rfl : mm = N - 1 := by omega
        have hcast : ((N - 1 : Nat) : Int) = (N : Int) - 1 := by omega
        have hd : decide (((N - 1 : Nat) : Int) < (N : Int) - 1) = false := by simp; omega
        have hK3 := hI.out.2.2.2
        rw [Nat.sub_self, drun_end] at hK3
        have hRR := HR.out
        rw [hK3] at hRR
        simp only [ne_eq, not_true_eq_false, if_false] at hRR
        have HRR := Lib.hid hRR
        have HSA := Lib.hid (sums_any z A' (N - 1) c' l wo (Rd.own hI.out.1) (by omega) hz1 hz2)
        clear hK3 hRR hcast
        go_wp2_with fail
        refine HSA.out.mono ?_
        rintro e w5 ⟨A5, m5, c5, rfl, ho5, hb5⟩
        go_wp2
        go_ret
        exact ⟨Mod.trans hI.out.2.2.1 (.of_below hb5), .inl (by rw [HRR.out]; exact ⟨rfl, ⟨_, _, _, rfl, owns_weak ho5 (by have h1 := hI.out.2.2.1.size; omega)⟩, by have := hI.out.2.1.below hb5; simpa only [Nat.zero_add] using this⟩)⟩
  · have hR : dall N xs = ([], 0, (vget 0 xs).2.2) := by unfold dall; rw [if_neg (by omega), if_pos he]
    obtain ⟨g, hg⟩ : ∃ g, vget 0 xs = g := ⟨_, rfl⟩
    rw [hg] at hnx hR he
    have HN := Lib.hid hnx
    have HR := Lib.hid hR
    have HE := Lib.hid he
    clear h hby hnx hR hg he hb hlen
    go_enter Try.func46, Try.ntmps46
    go_wp2_with fail
    refine HN.out.mono ?_
    rintro e w1 ⟨hm1', ⟨h0, _⟩ | ⟨_, rfl⟩⟩
    · exact absurd h0 HE.out
    exact ⟨rfl, hm1', .inr (by rw [HR.out]; exact ⟨HE.out, rfl⟩)⟩
end Go.Proofs.Ytkbcmblgieoleaa

namespace Go.Proofs.Ytkbcmblgieoleaa
open Go.RowKit Go.Cor Go.Free

set_option maxRecDepth 100000 in
set_option maxHeartbeats 2000000 in
theorem dDecode_any (w : World) (A : Option Addr) (n c : Nat) (ys : List Int) (N : Int) (h : Rd w .u8 A n c ys) (hby : By ys) (hn : n ≤ 100000) :
    Calls Try.prog 20 #[.agg #[], .slice A n c, .int .i64 N] w (DecG w.heap.size w ddec ys N) := by
  have hmf : ∀ (fn : Fn) (first cap : Array Value) (w : World), (Instr.makeFunc fn first cap).run Try.prog w = .ok (.func fn first cap) w := fun _ _ _ _ => rfl
  obtain ⟨w2, hw2⟩ : ∃ w2, (w.alloc (.cells #[] 34)).alloc (.cells #[.int .i64 N] 3) = w2 := ⟨_, rfl⟩
  have hb2 : Below w.heap.size w w2 := by rw [← hw2]; exact ((Below.refl _ _).alloc (Nat.le_refl _) _).alloc (by simp) _
  have hbx : Box w2 (w.heap.size + 1) 3 (.int .i64 N) := by rw [← hw2]; have := Box.new (w.alloc (.cells #[] 34)) 3 (.int .i64 N); rwa [World.size_alloc] at this
  have hs2 : w2.heap.size = w.heap.size + 2 := by rw [← hw2]; simp
  have hcell := cell_of_one hbx
  have eg1 : ∀ args w, (callFunc 46 args).run Try.prog w = .ok (.enter 46 args) w := enters_f Try.func46 (by kernel_rfl) rfl
  have hrd := read_any w2 A n c ys (h.below hb2) hn hby N 46 #[.pointer (some ⟨w.heap.size + 1, 0, none⟩)] (dall N.toNat ys).1 (dall N.toNat ys).2.1 (dall N.toNat ys).2.2 eg1
    (fun hbk w4 p A1 c1 hb4 hcu hp => by
      have hN := of_decide_eq_true hbk
      obtain ⟨M, rfl⟩ := Int.eq_ofNat_of_zero_le (show 0 ≤ N by omega)
      exact ddec1 hcu (hbx.below hb4 (by omega)) (by omega) (by omega) (by omega))
  have HP := Lib.hid (show ddec ys N = (rlist N n (dall N.toNat ys).2.1 (dall N.toNat ys).2.2 (dall N.toNat ys).1, rerr N n (dall N.toNat ys).2.1 (dall N.toNat ys).2.2) by unfold ddec decOf; rw [h.len])
  have HR := Lib.hid hrd
  have HB2 := Lib.hid hb2
  clear h hby hn hb2 hbx hs2 eg1 hrd
  go_enter Try.func20, Try.ntmps20
  go_wp2_with fail
  refine HR.out.mono ?_
  rintro e w5 ⟨A', m, c', rfl, hown, hb5⟩
  have HO := Lib.hid (owns_weak hown HB2.out.size)
  have HB5 := Lib.hid (HB2.out.trans (hb5.mono HB2.out.size))
  clear hown hb5
  go_wp2
  go_ret2
  exact ⟨A', m, c', by rw [HP.out]; rfl, by rw [HP.out]; exact HO.out, HB5.out⟩
theorem deltaD : Decer 34 20 ddec :=
  ⟨md_decode, md_ahead, enters_f Try.func20 (by kernel_rfl) rfl, fun w A n c ys N h hb hn => dDecode_any w A n c ys N h hb hn⟩
end Go.Proofs.Ytkbcmblgieoleaa
