/-
  Chapter 12: Encode.
  Chapter 12: Name; awake.
  Chapter 11, the reference: cut, length.
-/
import Derived.Test.YtkbcmblgieoleaaG19
import Derived.Test.YtkbcmblgieoleaaG24
import Derived.Test.YtkbcmblgieoleaaG28
import Derived.Test.YtkbcmblgieoleaaG29
namespace Go.Cor
open Go Go.RowKit
theorem Rd.box1 {w : World} {g : Nat} {t : TypeId} {k : IntKind} {x : Int} (h : Box w g t (.int k x)) : Rd w k (some ⟨g, 0, none⟩) 1 1 [x] :=
  ⟨rfl, Nat.le_refl _, by simp [maxLen], fun h => (by cases h), fun _ => ⟨g, 0, rfl, lt_of_block h, fun i hi => by
    obtain rfl : i = 0 := by omega
    exact cell_of_one h⟩⟩
end Go.Cor
namespace Go.Proofs.Ytkbcmblgieoleaa
open Go.RowKit Go.Cor Go.Free
attribute [local go_sem] Oper.semAt_some

set_option maxRecDepth 100000 in
set_option maxHeartbeats 16000000 in
theorem dEncode_any (w : World) (A : Option Addr) (n c : Nat) (xs : List Int) (h : Rd w .i64 A n c xs) (hi : In .i64 xs) (hn : n ≤ 1100) :
    Calls Try.prog 23 #[.agg #[], .slice A n c] w (EncG w.heap.size w tkAll dform xs) := by
  have hk : tak tkAll xs = blk n := by rw [tak_all, h.len]
  have hkw : wrg tkAll xs = if blk n then 0 else 7 := by rw [wrg_all, h.len]
  have hw := fun w h => wrongG deltaT A n c xs w h hi hn
  rw [hkw] at hw
  have HK := Lib.hid hk
  have HKW := Lib.hid hkw
  obtain ⟨q, hq⟩ : ∃ q, blk n = q := ⟨_, rfl⟩
  rw [hq] at hw HK HKW
  have HW := Lib.hid hw
  have H := Lib.hid h
  cases q with
  | false =>
    clear hw hq h hi hk hkw
    go_enter Try.func23, Try.ntmps23
    go_wp2_with fail
    refine (HW.out _ (H.out.alloc _)).mono ?_
    rintro e w1 ⟨rfl, hb⟩
    go_wp2
    go_ret2
    exact ⟨none, 0, 0, by rw [HKW.out]; rfl, by rw [HK.out]; exact owns_nil _ _ _ _, ((Below.refl _ _).alloc (Nat.le_refl _) _).trans (hb.mono (by simp))⟩
  | true =>
    have hN := of_decide_eq_true hq
    have hlen := h.len
    have hn2 : n ≤ 1024 := by omega
    have hn0 : 0 < n := by omega
    obtain ⟨ba, o, rfl, hba, hcells⟩ := h.get hn0
    have hne : xs ≠ [] := fun e => by rw [e] at hlen; simp at hlen; omega
    have hfe := dform_eq hne
    have hx0 : Fits .i64 (xs[0]?.getD 0) := by rw [List.getElem?_eq_getElem (by omega)]; exact hi _ (List.getElem_mem _)
    have hc0 := hcells 0 hn0
    rw [List.getD_eq_getElem?_getD, Nat.add_zero] at hc0
    obtain ⟨x0, hx0e⟩ : ∃ x, xs[0]?.getD 0 = x := ⟨_, rfl⟩
    rw [hx0e] at hx0 hc0 hfe
    have hzz := zig_nonneg x0
    have hzm := zig_max x0 hx0.1 hx0.2
    have hzg := zig_any x0
    obtain ⟨z0, hz0⟩ := Int.eq_ofNat_of_zero_le hzz
    rw [hz0] at hzm hzg
    rw [hz0, Int.toNat_natCast] at hfe
    have HZ := Lib.hid (fun w => hzg w hx0.1 hx0.2)
    have HPT := Lib.hid (fun w => put_any none 0 0 [] z0 w (Rd.nilv _ _) (by omega) hzm)
    have hv0 := vput_len_u64 z0 (by omega)
    obtain ⟨H0, hH0⟩ : ∃ S, vput z0 = S := ⟨_, rfl⟩
    rw [hH0] at HPT hv0 hfe
    have HD := Lib.hid (fun w h => deltas_any (some ⟨ba, o, none⟩) n c xs w h (by omega))
    have hdl : (deltas xs).length = n - 1 := by simp [deltas, hlen]
    have hdi := deltas_i64 xs
    obtain ⟨ds, hds⟩ : ∃ ds, deltas xs = ds := ⟨_, rfl⟩
    rw [hds] at HD hdl hdi hfe
    have HFE := Lib.hid hfe
    have HDL := Lib.hid (And.intro hdl hdi)
    clear hw hkw hq h hi hk hN hlen hcells hfe hx0e hzz hzm hzg hz0 hH0 hds hdl hdi hne hx0
    refine (callsIn_wide (n := 0)).1 (callsIn_of_wp_marks (F := Fence.wide) Try.func23 rfl trivial ?_ rfl)
    simp only [Try.ntmps23, List.size_toArray, List.length_cons, List.length_nil, Nat.reduceAdd, Nat.reduceSub, Array.replicate_succ, Array.replicate_zero, List.push_toArray, List.append_toArray, List.nil_append, List.cons_append]
    gi_wp2_with (first
      | (refine ⟨trivial, rfl, ?_⟩; gi_at_call 57; refine (callsIn_wide.2 (HW.out _ (H.out.alloc _))).mono ?_; rintro e w1 ⟨rfl, hb1⟩; have HB1 := Lib.hid (((Below.refl w.heap.size w).alloc (Nat.le_refl _) (.cells #[] 34)).trans (hb1.mono (by simp))); have hc1 := (HB1.out.cell (p := ⟨ba, o, none⟩) hba).trans hc0; clear hb1)
      | (refine ⟨trivial, rfl, ?_⟩; gi_at_call 38; refine (callsIn_wide.2 (HZ.out _)).mono ?_; rintro e w2 ⟨rfl, rfl⟩)
      | (refine ⟨trivial, rfl, ?_⟩; gi_at_call 58; refine (callsIn_wide.2 (HPT.out _)).mono ?_; rintro e w2 ⟨A2, m2, c2, rfl, ho2, hb2⟩; have HO2 := Lib.hid (owns_weak ho2 HB1.out.size); have HB2 := Lib.hid (HB1.out.trans (hb2.mono HB1.out.size)); clear hb2 ho2)
      | (refine ⟨trivial, rfl, ?_⟩; gi_at_call 40; refine (callsIn_wide.2 (HD.out _ (H.out.below (HB2.out.alloc HB2.out.size _)))).mono ?_; rintro e w4 ⟨A4, n4, c4, rfl, ho4, hb4⟩; have HO4 := Lib.hid ho4; have HB4 := Lib.hid hb4; clear ho4 hb4)
      | (refine ⟨trivial, rfl, ?_⟩; gi_at_call 39; refine (callsIn_wide.2 (chunks_any A4 n4 c4 128 (by omega) _)).mono ?_; rintro e w5 ⟨rfl, rfl⟩))
    obtain ⟨p, hp⟩ : ∃ p, w2.heap.size = p := ⟨_, rfl⟩
    obtain ⟨g, hg⟩ : ∃ g, w4.heap.size = g := ⟨_, rfl⟩
    obtain ⟨W0, hW0⟩ : ∃ W0, (w4.alloc (.cells #[.slice A4 n4 c4] 22)).alloc (.cells #[.int .i64 128] 3) = W0 := ⟨_, rfl⟩
    have hs3 : (w2.alloc (.cells #[.slice A2 m2 c2] 30)).heap.size = p + 1 := by rw [World.size_alloc, hp]
    have hpg : p + 1 ≤ g := by rw [← hg, ← hs3]; exact HB4.out.size
    have hwp : w.heap.size ≤ p := by rw [← hp]; exact HB2.out.size
    have hs0 : W0.heap.size = g + 2 := by rw [← hW0, ← hg]; simp
    have hb0 : Box W0 p 30 (.slice A2 m2 c2) := by
      have h1 : Box (w2.alloc (.cells #[.slice A2 m2 c2] 30)) p 30 (.slice A2 m2 c2) := by rw [← hp]; exact Box.new _ _ _
      rw [← hW0]; exact ((h1.below HB4.out (by rw [hs3]; omega)).alloc _).alloc _
    have hb1 : Box W0 g 22 (.slice A4 n4 c4) := by rw [← hW0, ← hg]; exact (Box.new _ _ _).alloc _
    have hb2 : Box W0 (g + 1) 3 (.int .i64 128) := by
      rw [← hW0, ← hg]; have h1 := Box.new (w4.alloc (.cells #[.slice A4 n4 c4] 22)) 3 (.int .i64 128); rwa [World.size_alloc] at h1
    have hbl : Below w.heap.size w W0 := by
      have h1 := HB2.out.alloc HB2.out.size (.cells #[.slice A2 m2 c2] 30)
      have h2 := h1.trans (HB4.out.mono h1.size)
      rw [← hW0]; exact (h2.alloc h2.size _).alloc (by have := h2.size; simp; omega) _
    have hod : Owns W0 (p + 1) 2 .i64 A4 n4 c4 ds := by
      have h1 := HO4.out; rw [hs3] at h1
      rw [← hW0]; exact (h1.alloc _).alloc _
    have hog : ∀ k, (Value.slice A4 n4 c4).ownBlock = some k → k < g := fun k e => by rw [← hg]; exact (HO4.out.lt k e).2
    have hob : Owns W0 w.heap.size 5 .u8 A2 m2 c2 H0 := by
      have h1 : Owns (w2.alloc (.cells #[.slice A2 m2 c2] 30)) w.heap.size 5 .u8 A2 m2 c2 H0 := HO2.out.alloc _
      rw [← hW0]; exact ((Owns.below h1 HB4.out).alloc _).alloc _
    have hn4 : n4 = n - 1 := by have h1 := row_len HO4.out; have h2 := HDL.out.1; omega
    rw [hg, hp]
    rw [hW0]
    clear hW0 hp hs3 HO4 HB4 HB2 HB1 hc1 hg HO2
    have hit := chunks_iter A4 n4 c4 128 g (g + 1) W0 (Rd.own hod).cap (by omega) (by omega) (by omega) hb1 hb2
    refine wpIn_rangeH (w0 := W0) (encs := ckV A4) rfl (enters_f Try.func86 (by kernel_rfl) rfl) hit (Keep.refl _ _) (fun k hk => by omega) (fun k hk => hk.elim) (fun _ => rfl)
      (fun pre W => (∃ A m c, Box W p 30 (.slice A m c) ∧ Owns W w.heap.size 5 .u8 A m c (H0 ++ prts dpart ds pre)) ∧ Owns W (p + 1) 2 .i64 A4 n4 c4 ds ∧ Below w.heap.size w W) ?stab ?start ?round ?done
    case stab =>
      rintro pre W W' ⟨⟨A, m, c, h1, h3⟩, h2, h4⟩ hk
      exact ⟨⟨A, m, c, h1.keep hk ⟨fun h => h, fun h => h1.cells h.2⟩, owns_keep h3 hk (fun g' _ hc => ⟨fun h => h, fun h => hc h.2⟩)⟩, owns_keep h2 hk (fun g' _ hc => ⟨fun h => h, fun h => hc h.2⟩), h4.trans (below_keep hk (by have := h4.size; omega) (fun k hk => ⟨fun h => h, fun h => by omega⟩))⟩
    case start => exact ⟨⟨A2, m2, c2, hb0, by rw [prts_nil, List.append_nil]; exact hob⟩, hod, hbl⟩
    case round =>
      intro l pre x W hpre hI hgl hsz
      obtain ⟨x1, x2⟩ := x
      obtain ⟨hx1, hx2, hx3⟩ := cks_pre (by omega) hpre
      simp only at hx1 hx2 hx3
      have hle := prts_le (f := dpart) (l := ds) (m := 128) (by rw [HDL.out.1, ← hn4]; exact pre_of_snoc hpre)
      have hdr := drest_len _ ds HDL.out.1 HDL.out.2
      rw [show chunked 128 dpart ds = drest ds from rfl] at hle
      have hsn := prts_snoc dpart ds pre (x1, x2)
      simp only at hsn
      obtain ⟨pp, hpp⟩ : ∃ pp, (ds.drop x1).take x2 = pp := ⟨_, rfl⟩
      rw [hpp] at hsn
      obtain ⟨Bs, hBs⟩ : ∃ B, H0 ++ prts dpart ds pre = B := ⟨_, rfl⟩
      have hBl : Bs.length ≤ 30010 := by rw [← hBs, List.length_append]; omega
      have hB2 : H0 ++ prts dpart ds (pre ++ [(x1, x2)]) = Bs ++ dpart pp := by rw [hsn, ← List.append_assoc, hBs]
      have HI := Lib.hid hI
      have HB2 := Lib.hid hB2
      have HPP := Lib.hid hpp
      have HBS := Lib.hid hBs
      clear hpre hI hle hdr hsn hpp hBs hB2 hit hb0 hb1 hb2 hbl hod hob
      unfold ckV
      gi_wp2
      refine ⟨Keep.refl _ _, HI.out, ?_⟩
      rintro W2 ⟨⟨Ab, mb, cb, b5, ob⟩, od, bl⟩ hst ⟨r0, hl0⟩
      rw [HBS.out] at ob
      have hW2 : g + 2 ≤ W2.heap.size := by have := hst.size; omega
      have hl2 : l < W2.heap.size := (Array.getElem?_eq_some_iff.1 hl0).1
      have c5 := cell_of_one b5
      have hmb := row_len ob
      have hmb2 : mb ≤ 30010 := by omega
      have hpc := Rd.piece (Rd.own od) (l := x1) (m := x2) hx1 (by omega)
      rw [HPP.out] at hpc
      have hpl : pp.length = x2 := hpc.len
      have hpi : ∀ y ∈ pp, I64 y := by rw [← HPP.out]; exact fun y hy => HDL.out.2 y (List.mem_of_mem_drop (List.mem_of_mem_take hy))
      have hof := doffs_any (A4.map (·.add x1)) x2 x2 pp W2 hpc (by omega)
      unfold RetOff at hof
      have hdp : dpart pp = vput (zig (least pp)).toNat ++ (dheads (offsets (least pp) pp) ++ dpacks (offsets (least pp) pp)) := rfl
      have hfi : I64 (least pp) := least_i64 hpi
      have hui := offsets_u64 (least pp) pp
      have hul : (offsets (least pp) pp).length = x2 := by simp [offsets, hpl]
      obtain ⟨f, hf⟩ : ∃ f, least pp = f := ⟨_, rfl⟩
      rw [hf] at hof hdp hfi hui hul
      obtain ⟨us, hus⟩ : ∃ us, offsets f pp = us := ⟨_, rfl⟩
      rw [hus] at hof hdp hui hul
      have hzz := zig_nonneg f
      have hzm := zig_max f hfi.1 hfi.2
      have hzg := fun w => zig_any f w hfi.1 hfi.2
      obtain ⟨z, hz⟩ := Int.eq_ofNat_of_zero_le hzz
      rw [hz] at hzm hzg
      rw [hz, Int.toNat_natCast] at hdp
      have hpt2 := fun w h => put_any Ab mb cb Bs z w h (by omega) hzm
      have hv := vput_len_u64 z (by omega)
      obtain ⟨Hz, hHz⟩ : ∃ V, vput z = V := ⟨_, rfl⟩
      rw [hHz] at hpt2 hv hdp
      have hpk := dpacks_len _ us hul hui
      have HZ2 := Lib.hid hzg
      have HP2 := Lib.hid hpt2
      have HOF := Lib.hid hof
      have HDP := Lib.hid hdp
      have HUS := Lib.hid (And.intro hul (And.intro hui hpk))
      have B5 := Lib.hid b5
      have OB := Lib.hid ob
      have OD := Lib.hid od
      have BL := Lib.hid bl
      have HL0 := Lib.hid hl0
      have HPL := Lib.hid hv
      clear b5 ob od bl hst hl0 hpc hpl hpi hof hdp hfi hui hul hf hus hzz hzm hzg hz hpt2 hv hHz hpk HI HZ HPT HK HKW HW H hc0 hmb HFE
      gi_wp2_with (refine ⟨trivial, rfl, ?_⟩; gi_at_call 41; refine CallsIn.inRound l (callsIn_wide.2 (HOF.out.mono ?_)); rintro e w3 ⟨A3, n3, c3, rfl, ho3, hb3⟩; have HO3 := Lib.hid ho3; have HB3 := Lib.hid hb3; have c5' := (hb3.cell (p := ⟨p, 0, none⟩) (show p < W2.heap.size by omega)).trans c5; clear ho3 hb3)
      refine wpIn_region_free 4 (by kernel_rfl) (by kernel_rfl) (by kernel_rfl) ?_
      refine chain_val (.slice Ab mb cb) (S := [7]) rfl ?_ ?_
      · intro ρ w' hE hB hs
        have h7 : ρ (.tmp 7) = .pointer (some ⟨p, 0, none⟩) := hs 7 (by decide)
        clear hs
        refine if_t (by rfl) ?_
        have hcl := (hB.cell (p := ⟨p, 0, none⟩) (show p < w3.heap.size by have := HB3.out.size; omega)).trans c5'
        go_simp
      refine chain_val (.int .i64 f) (S := [9]) rfl ?_ ?_
      · intro ρ w' hE hB hs
        have h9 : ρ (.tmp 9) = .int .i64 f := hs 9 (by decide)
        clear hs
        refine if_t (by rfl) ?_
        (go_simp <;> exact wrapi64_in _ (by omega) (by omega))
      refine chain_static (fun v__ _ => v__ = .int .u64 (z : Int)) (stable_eq _) (S := [38]) rfl (Go.Cor.enters_f Try.func38 (by kernel_rfl) rfl) rfl ?_ ?_
      · intro ρ w' hE hB hs
        have h38 : ρ (.tmp 38) = .int .i64 f := hs 38 (by decide)
        clear hs
        refine ⟨(by rfl), ?_⟩
        simp only [List.map_toArray, List.map_cons, List.map_nil, h38]
        refine (HZ2.out _).mono ?_
        rintro e w3 ⟨rfl, rfl⟩
        exact ⟨_, rfl, Below.refl _ _, rfl⟩
      refine chain_static (OwF w3.heap.size 5 .u8 (Bs ++ Hz)) (OwF.stable _ _ _ _) (S := [37, 39]) rfl (Go.Cor.enters_f Try.func58 (by kernel_rfl) rfl) rfl ?_ ?_
      · intro ρ w' hE hB hs
        have h37 : ρ (.tmp 37) = .slice Ab mb cb := hs 37 (by decide)
        have h39 : ρ (.tmp 39) = .int .u64 (z : Int) := hs 39 (by decide)
        clear hs
        refine ⟨(by rfl), ?_⟩
        simp only [List.map_toArray, List.map_cons, List.map_nil, h37, h39]
        refine (HP2.out _ ((Rd.own (Owns.below OB.out HB3.out)).below hB)).mono ?_
        rintro e w3 ⟨A', n', c', rfl, ho, hb⟩
        exact ⟨_, rfl, hb, A', n', c', rfl, owns_weak ho hB.size⟩
      intro w1 hB1
      simp only [List.reverse_cons, List.reverse_nil, List.nil_append, List.cons_append, Go.Free.Ends, forall_eq, Act.put, List.setIfInBounds_toArray, List.set_cons_zero, List.set_cons_succ]
      rintro _ ⟨A7, m7, c7, rfl, ho7⟩
      have hbb : Below W2.heap.size W2 w1 := HB3.out.trans (hB1.mono HB3.out.size)
      have b5a := B5.out.below hbb (lt_of_block B5.out)
      have c5a := cell_of_one b5a
      have f5a := free_of_one b5a
      have HBB := Lib.hid hbb
      have HO3a := Lib.hid (Owns.below HO3.out hB1)
      have ODa := Lib.hid (Owns.below OD.out hbb)
      have HOG3 := Lib.hid (show ∀ k, (Value.slice A3 n3 c3).ownBlock = some k → k < w3.heap.size from fun k e => (HO3.out.lt k e).2)
      have B5a := Lib.hid b5a
      have HO7 := Lib.hid ho7
      have hsz3 : W2.heap.size ≤ w3.heap.size := HB3.out.size
      have hsz31 : w3.heap.size ≤ w1.heap.size := hB1.size
      clear hB1 hbb b5a c5' c5 ho7
      gi_wp2_with (refine ⟨trivial, rfl, ?_⟩; gi_at_call 42; refine CallsIn.inRound l (callsIn_wide.2 ((chunku_any A3 n3 c3 32 (by omega) _).mono ?_)); rintro e w5 ⟨rfl, rfl⟩)
      obtain ⟨K0, hK0⟩ : ∃ k, w3.heap.size = k := ⟨_, rfl⟩
      obtain ⟨q, hq⟩ : ∃ g, w1.heap.size = g := ⟨_, rfl⟩
      obtain ⟨V0, hV0⟩ : ∃ V0, (((w1.setCell ⟨p, 0, none⟩ (.slice A7 m7 c7)).alloc (.cells #[.slice none 0 0] 30)).alloc (.cells #[.slice A3 n3 c3] 51)).alloc (.cells #[.int .i64 32] 3) = V0 := ⟨_, rfl⟩
      have hsc : (w1.setCell ⟨p, 0, none⟩ (.slice A7 m7 c7)).heap.size = q := by rw [← hq]; simp [World.setCell]
      have hsc2 : ((w1.setCell ⟨p, 0, none⟩ (.slice A7 m7 c7)).alloc (.cells #[.slice none 0 0] 30)).heap.size = q + 1 := by rw [World.size_alloc, hsc]
      rw [hK0] at hsz3 hsz31 HOG3 HO7
      rw [hq] at hsz31
      have vs : V0.heap.size = q + 3 := by rw [← hV0, World.size_alloc, World.size_alloc, hsc2]
      have vb : Box V0 p 30 (.slice A7 m7 c7) := by rw [← hV0]; exact Box.alloc (Box.alloc (Box.alloc (one_setCell B5a.out) _) _) _
      have va : Box V0 q 30 (.slice none 0 0) := by rw [← hV0, ← hsc]; exact Box.alloc (Box.alloc (Box.new _ _ _) _) _
      have vb1 : Box V0 (q + 1) 51 (.slice A3 n3 c3) := by rw [← hV0, ← hsc2]; exact Box.alloc (Box.new _ _ _) _
      have vb2 : Box V0 (q + 2) 3 (.int .i64 32) := by
        rw [← hV0]; have h1 := Box.new (((w1.setCell ⟨p, 0, none⟩ (.slice A7 m7 c7)).alloc (.cells #[.slice none 0 0] 30)).alloc (.cells #[.slice A3 n3 c3] 51)) 3 (.int .i64 32); rwa [World.size_alloc, hsc2] at h1
      have vob : Owns V0 K0 5 .u8 A7 m7 c7 (Bs ++ Hz) := by
        rw [← hV0]; exact (((ownsRow_setCell_other HO7.out (a := ⟨p, 0, none⟩) (fun e => by have := (HO7.out.lt p e).1; omega) _).alloc _).alloc _).alloc _
      have vbq : ∀ k, (Value.slice A7 m7 c7).ownBlock = some k → k < q := fun k e => by rw [← hq]; exact (HO7.out.lt k e).2
      have vo3 : Owns V0 W2.heap.size 32 .u64 A3 n3 c3 us := by
        rw [← hV0]; exact (((ownsRow_setCell_other HO3a.out (a := ⟨p, 0, none⟩) (fun e => by have := (HO3a.out.lt p e).1; omega) _).alloc _).alloc _).alloc _
      have vod : Owns V0 (p + 1) 2 .i64 A4 n4 c4 ds := by
        rw [← hV0]; exact (((ownsRow_setCell_other ODa.out (a := ⟨p, 0, none⟩) (fun e => by have := (ODa.out.lt p e).1; omega) _).alloc _).alloc _).alloc _
      have vbl : Below w.heap.size w V0 := by
        have h1 := (BL.out.trans (HBB.out.mono BL.out.size)).setCell (p := ⟨p, 0, none⟩) (by simp only; omega) (.slice A7 m7 c7)
        rw [← hV0]; exact ((h1.alloc h1.size _).alloc (by have := h1.size; simp at this ⊢; omega) _).alloc (by have := h1.size; simp at this ⊢; omega) _
      have vrk : RoundKeep (fun j => j = g ∨ j = g + 1) W2 V0 := by
        rw [← hV0]
        refine RoundKeep.trans (.of_below HBB.out) (RoundKeep.trans (.setCell _ ?_ _) (RoundKeep.trans (.alloc _ _ _) (RoundKeep.trans (.alloc _ _ _) (.alloc _ _ _))))
        rintro (h | h)
        · simp only at h; omega
        · exact B5a.out.cells h
      have vl : V0.heap[l]? = some (.loop r0) := (vrk.block l hl2 (.inr ⟨_, HL0.out, rfl⟩)).trans HL0.out
      obtain rfl : n3 = x2 := by have h1 := row_len HO3.out; have h2 := HUS.out.1; omega
      rw [hq, show q + 1 + 1 = q + 2 from rfl]
      rw [hV0]
      clear hV0 hsc hsc2 hq HO3 HO3a ODa B5a HBB B5 OD BL HL0 HB3 c5a f5a HOF HZ2 HP2 HO7 OB
      have hit2 := chunku_iter A3 n3 c3 32 (q + 1) (q + 2) V0 (Rd.own vo3).cap (by omega) (by omega) (by omega) vb1 vb2
      refine wpIn_rangeN (w0 := V0) (encs := ckV A3) vl rfl (enters_f Try.func87 (by kernel_rfl) rfl) hit2 (Keep.refl _ _) (fun k hk => by omega) (fun k hk => hk.elim) (fun _ => rfl)
        (fun pre W => (∃ Ab mb cb Aa ma ca, Box W p 30 (.slice Ab mb cb) ∧ Box W q 30 (.slice Aa ma ca) ∧ Owns W K0 5 .u8 Ab mb cb (Bs ++ Hz ++ prts (fun x => [most x]) us pre) ∧ Owns W (q + 3) 5 .u8 Aa ma ca (prts (fun x => packed (most x).toNat x) us pre) ∧ ∀ k, (Value.slice Ab mb cb).ownBlock = some k → (k < q ∨ q + 3 ≤ k) ∧ (Value.slice Aa ma ca).ownBlock ≠ some k)
          ∧ Owns W W2.heap.size 32 .u64 A3 n3 c3 us ∧ Owns W (p + 1) 2 .i64 A4 n4 c4 ds ∧ Below w.heap.size w W ∧ RoundKeep (fun j => j = g ∨ j = g + 1) W2 W) ?stab2 ?start2 ?round2 ?done2
      case stab2 =>
        rintro pre W W' ⟨⟨Ab, mb, cb, Aa, ma, ca, g1, g2, g3, g4, g5⟩, h2, h3, h4, h5⟩ hk
        exact ⟨⟨Ab, mb, cb, Aa, ma, ca, g1.keep hk ⟨fun h => h, fun h => g1.cells h.2⟩, g2.keep hk ⟨fun h => h, fun h => g2.cells h.2⟩, owns_keep g3 hk (fun g' _ hc => ⟨fun h => h, fun h => hc h.2⟩), owns_keep g4 hk (fun g' _ hc => ⟨fun h => h, fun h => hc h.2⟩), g5⟩, owns_keep h2 hk (fun g' _ hc => ⟨fun h => h, fun h => hc h.2⟩), owns_keep h3 hk (fun g' _ hc => ⟨fun h => h, fun h => hc h.2⟩), h4.trans (below_keep hk (by have := h4.size; omega) (fun k hk => ⟨fun h => h, fun h => by omega⟩)), h5.step (by omega) hk⟩
      case start2 => exact ⟨⟨A7, m7, c7, none, 0, 0, vb, va, by rw [prts_nil, List.append_nil]; exact vob, owns_nil _ _ _ _, fun k e => ⟨.inl (vbq k e), fun h => by cases h⟩⟩, vo3, vod, vbl, vrk⟩
      case done2 =>
        rintro W' ⟨⟨Ab, mb, cb, Aa, ma, ca, g1, g2, g3, g4, g5⟩, h2, h3, h4, h5⟩
        have hd1 := prts_all 32 (fun x => packed (most x).toNat x) us
        have hd2 := prts_all 32 (fun x => [most x]) us
        rw [HUS.out.1] at hd1 hd2
        rw [hd2, show chunked 32 (fun x => [most x]) us = dheads us from rfl] at g3
        rw [hd1, show chunked 32 (fun x => packed (most x).toNat x) us = dpacks us from rfl] at g4
        have hhl := dheads_len _ us HUS.out.1
        obtain ⟨Q, hQ⟩ : ∃ Q, Bs ++ Hz ++ dheads us = Q := ⟨_, rfl⟩
        obtain ⟨P, hP⟩ : ∃ P, dpacks us = P := ⟨_, rfl⟩
        have hQl : Q.length ≤ 40000 := by rw [← hQ, List.length_append, List.length_append, hhl]; have := HPL.out; omega
        have hPl : P.length ≤ 2000 := by have := HUS.out.2.2; rw [hP] at this; omega
        have HFIN := Lib.hid (show H0 ++ prts dpart ds (pre ++ [(x1, n3)]) = Q ++ P by rw [HB2.out, HDP.out, ← hQ, ← hP]; simp [List.append_assoc])
        rw [hQ] at g3
        rw [hP] at g4
        have hmb := row_len g3
        have hma := row_len g4
        have hmbl : mb ≤ 40000 := by omega
        have hmal : ma ≤ 2000 := by omega
        have c1 := cell_of_one g1
        have c2' := cell_of_one g2
        have hKW : K0 ≤ W'.heap.size := by have := lt_of_block g2; omega
        have G1 := Lib.hid g1
        have G3 := Lib.hid g3
        have G4 := Lib.hid (Rd.own g4)
        have HH := Lib.hid (And.intro h3 (And.intro h4 h5))
        clear g1 g2 g3 g4 g5 h2 h3 h4 h5 hd1 hd2 hhl hQ hP hmb hma hit2 vb va vb1 vb2 vob vo3 vod vbl vrk vl vbq
        gi_wp2_with (gi_at_builtin; refine wpListIn_append_r rfl rfl elemU8 G3.out rfl (Rd.toV G4.out) rfl ints_one (by omega) (by omega) hKW ?_; intro A9 c9 w8 hown hg9 hat; have hp9 : (Value.slice Ab mb cb).ownBlock ≠ some p := (fun e => by have := (G3.out.lt p e).1; omega); have b9 := Box.grown G1.out hg9 hp9; have c9' := cell_of_one b9; have f9' := free_of_one b9; have HO9 := Lib.hid (owns_app hown); have B9 := Lib.hid b9; have HG9 := Lib.hid hg9; clear hown b9 hat hg9)
        have hk9 : Keep (fun _ k => (Value.slice Ab mb cb).ownBlock ≠ some k) W' w8 := Keep.grown HG9.out (fun k e h => h e)
        have hrk9 : RoundKeep (fun j => j = g ∨ j = g + 1) W' w8 := hk9.weak fun b _ h e => by
          rcases h with h | h
          · have := (G3.out.lt b e).1; omega
          · exact owns_cells G3.out e h
        have hds9 := owns_keep HH.out.1 hk9 (fun b e _ e2 => by have h1 := hog b e; have h2 := (G3.out.lt b e2).1; omega)
        have hbl9 : Below w.heap.size w w8 := HH.out.2.1.trans (below_keep hk9 (by have := HH.out.2.1.size; omega) fun b hb e => by have := (G3.out.lt b e).1; omega)
        refine ⟨?_, ⟨A9, _, c9, one_setCell B9.out, ?_⟩, ?_, ?_⟩
        · refine RoundKeep.trans HH.out.2.2 (RoundKeep.trans hrk9 (.setCell _ ?_ _))
          rintro (h | h)
          · simp only at h; omega
          · exact B9.out.cells h
        · rw [HFIN.out]
          exact owns_weak (ownsRow_setCell_other HO9.out (a := ⟨p, 0, none⟩) (fun e => by have := (HO9.out.lt p e).1; omega) _) (by omega)
        · exact ownsRow_setCell_other hds9 (a := ⟨p, 0, none⟩) (fun e => by have := (hds9.lt p e).1; omega) _
        · exact hbl9.setCell (p := ⟨p, 0, none⟩) (by simp only; omega) _
      case round2 =>
        intro l3 pre3 y W3 hpre3 hI3 hsz3
        obtain ⟨y1, y2⟩ := y
        obtain ⟨hy1, hy2, hy3⟩ := cks_pre (by omega) hpre3
        simp only at hy1 hy2 hy3
        have hle3 := prts_le (f := fun x => packed (most x).toNat x) (l := us) (m := 32) (by rw [HUS.out.1]; exact pre_of_snoc hpre3)
        rw [show chunked 32 (fun x => packed (most x).toNat x) us = dpacks us from rfl] at hle3
        have hln3 := pre_len (pre_of_snoc hpre3)
        have hsn3 := prts_snoc (fun x => packed (most x).toNat x) us pre3 (y1, y2)
        have hsh3 := prts_snoc (fun x => [most x]) us pre3 (y1, y2)
        have hlh3 := prts_one most us pre3
        simp only at hsn3 hsh3
        obtain ⟨pq, hpq⟩ : ∃ pq, (us.drop y1).take y2 = pq := ⟨_, rfl⟩
        rw [hpq] at hsn3 hsh3
        have hpqi : U64l pq := by rw [← hpq]; exact (HUS.out.2.1.drop y1).take y2
        have hpql : pq.length = y2 := by rw [← hpq, List.length_take, List.length_drop, HUS.out.1]; omega
        have hm := most_bd hpqi
        have hfit := most_fit (l := pq) (fun u hu => (hpqi u hu).1)
        have hmo := fun A w h => most_any A y2 y2 pq w h (by omega) hpqi
        obtain ⟨k, hk⟩ := Int.eq_ofNat_of_zero_le hm.1
        rw [hk] at hm hsn3 hmo hfit hsh3
        rw [Int.toNat_natCast] at hsn3 hfit
        have hk64 : k ≤ 64 := by omega
        have hpkl : (packed k pq).length ≤ 256 := by
          rw [packed_len, hpql]
          have : y2 * k ≤ 32 * 64 := Nat.mul_le_mul hy2 hk64
          unfold octets; omega
        have hpa := fun A w h => pack_any A y2 y2 pq k w h hpqi (by omega) hk64 hfit
        obtain ⟨PK, hPK⟩ : ∃ P, packed k pq = P := ⟨_, rfl⟩
        rw [hPK] at hpkl hpa hsn3
        obtain ⟨P3, hP3⟩ : ∃ P, prts (fun x => packed (most x).toNat x) us pre3 = P := ⟨_, rfl⟩
        obtain ⟨Q3, hQ3⟩ : ∃ P, Bs ++ Hz ++ prts (fun x => [most x]) us pre3 = P := ⟨_, rfl⟩
        have hQ4 : Bs ++ Hz ++ prts (fun x => [most x]) us (pre3 ++ [(y1, y2)]) = Q3 ++ [(k : Int)] := by rw [hsh3, ← List.append_assoc, hQ3]
        have hQl : Q3.length ≤ 40000 := by rw [← hQ3, List.length_append, List.length_append, hlh3]; have := HPL.out; omega
        rw [hP3] at hle3 hsn3
        have hP3b : P3.length ≤ 2000 := by have := HUS.out.2.2; omega
        have HMO := Lib.hid hmo
        have HPA := Lib.hid hpa
        have HPQ := Lib.hid hpq
        have HQ3 := Lib.hid (And.intro hP3 (And.intro hQ3 (And.intro hsn3 hQ4)))
        have HI3 := Lib.hid hI3
        have HW3 := Lib.hid (show q + 3 ≤ W3.heap.size by omega)
        have HLN := Lib.hid (And.intro hQl (And.intro hP3b hpkl))
        clear hpre3 hI3 hle3 hln3 hsn3 hsh3 hlh3 hpq hpqi hpql hm hmo hfit hk hpkl hpa hPK hP3 hQ3 hQ4 hQl hP3b hit2 vb va vb1 vb2 vob vo3 vod vbl vrk vl hsz3 vbq
        unfold ckV
        gi_wp2
        refine ⟨Keep.refl _ _, HI3.out, ?_⟩
        rintro W4 ⟨⟨Ab, mb, cb, Aa, ma, ca, g1, g2, g3, g4, g5⟩, d2, d3, d4, d5⟩ hst4
        rw [HQ3.out.2.1] at g3
        rw [HQ3.out.1] at g4
        have hW4 : q + 3 ≤ W4.heap.size := by have := HW3.out; have := hst4.size; omega
        have c1 := cell_of_one g1
        have c2' := cell_of_one g2
        have hpr := Rd.piece (Rd.own d2) (l := y1) (m := y2) hy1 (by omega)
        rw [HPQ.out] at hpr
        have G1 := Lib.hid (And.intro g1 g2)
        have G3 := Lib.hid (And.intro g3 (And.intro g4 g5))
        have D2 := Lib.hid (And.intro d2 (And.intro d3 (And.intro d4 d5)))
        have HPR := Lib.hid hpr
        clear g1 g2 g3 g4 g5 d2 d3 d4 d5 hpr hst4 HI3
        gi_wp2_with (first
          | (refine ⟨trivial, rfl, ?_⟩; gi_at_call 44; refine CallsIn.inRound l3 (callsIn_wide.2 ((HMO.out _ _ HPR.out).mono ?_)); rintro e w5 ⟨rfl, rfl⟩)
          | (refine ⟨trivial, rfl, ?_⟩; gi_at_call 59; refine CallsIn.inRound l3 (callsIn_wide.2 ((HPA.out _ _ HPR.out).mono ?_)); rintro e w5 ⟨A5, m5, c5, rfl, ho5, hb5⟩; have HO5 := Lib.hid ho5; have HB5 := Lib.hid hb5; clear ho5 hb5))
        have hb1' := G1.out.1.below HB5.out (lt_of_block G1.out.1)
        have hb2' := G1.out.2.below HB5.out (lt_of_block G1.out.2)
        have hob' := Owns.below G3.out.1 HB5.out
        have hoa' := Owns.below G3.out.2.1 HB5.out
        have hap := G3.out.2.2
        have hobl := fun g e => (G3.out.1.lt g e).2
        have h54 : W4.heap.size ≤ w5.heap.size := HB5.out.size
        have ek : IntKind.u8.wrap (k : Int) = (k : Int) := wrapu8_in _ (by omega) (by omega)
        obtain ⟨T, hT⟩ : ∃ T : Nat → Nat → Prop, T = fun i b => (i = 4 ∧ (Value.slice Ab mb cb).ownBlock = some b) ∨ (i = 7 ∧ (Value.slice Aa ma ca).ownBlock = some b) := ⟨_, rfl⟩
        have hT4 : ∀ b, T 4 b ↔ (Value.slice Ab mb cb).ownBlock = some b := fun b => by rw [hT]; simp
        have hT7 : ∀ b, T 7 b ↔ (Value.slice Aa ma ca).ownBlock = some b := fun b => by rw [hT]; simp
        have hTj : ∀ j b, T j b → (Value.slice Ab mb cb).ownBlock = some b ∨ (Value.slice Aa ma ca).ownBlock = some b := fun j b h => by rw [hT] at h; rcases h with h | h; exact .inl h.2; exact .inr h.2
        have hTn : ∀ j, j ≠ 4 → j ≠ 7 → ∀ b, ¬ T j b := fun j h4 h7 b h => by rw [hT] at h; rcases h with h | h; exact h4 h.1; exact h7 h.1
        have hl8 : ∀ j, j < 8 → ∀ g, T j g → g < w5.heap.size := fun j _ g h => by
          rcases hTj j g h with e | e
          · exact (hob'.lt g e).2
          · exact (hoa'.lt g e).2
        have hd4 : ∀ j, j < 8 → j ≠ 4 → ∀ g, T 4 g → ¬ T j g := fun j _ hj g h h2 => by
          by_cases h7 : j = 7
          · subst h7; exact (hap g ((hT4 g).1 h)).2 ((hT7 g).1 h2)
          · exact hTn j hj h7 g h2
        have hd7 : ∀ j, j < 8 → j ≠ 7 → ∀ g, T 7 g → ¬ T j g := fun j _ hj g h h2 => by
          by_cases h4 : j = 4
          · subst h4; exact (hap g ((hT4 g).1 h2)).2 ((hT7 g).1 h)
          · exact hTn j h4 hj g h2
        have hdj : ∀ i j, i < 8 → j < 8 → i ≠ j → ∀ g, T i g → ¬ T j g := fun i j _ hj hij g h h2 => by
          by_cases h4 : i = 4
          · subst h4; exact hd4 j hj (Ne.symm hij) g h h2
          · by_cases h7 : i = 7
            · subst h7; exact hd7 j hj (Ne.symm hij) g h h2
            · exact hTn i h4 h7 g h
        have hTK : ∀ j b, T j b → K0 ≤ b ∧ (b < q ∨ q + 3 ≤ b) := fun j b h => by
          rcases hTj j b h with e | e
          · exact ⟨(hob'.lt b e).1, (hap b e).1⟩
          · have := (hoa'.lt b e).1; omega
        have hTc : ∀ j b, T j b → ¬ NonCell w5 b := fun j b h => by
          rcases hTj j b h with e | e
          · exact owns_cells hob' e
          · exact owns_cells hoa' e
        have HDJ := Lib.hid hdj
        have HTK := Lib.hid (And.intro hTK hTc)
        have hUp : ∀ i, ¬ Go.Free.T.U T 8 i p := fun i ⟨j, _, _, h⟩ => by
          rcases hTj j p h with e | e
          · have := (hob'.lt p e).1; omega
          · have := (hoa'.lt p e).1; omega
        have hUq : ∀ i, ¬ Go.Free.T.U T 8 i q := fun i ⟨j, _, _, h⟩ => by
          rcases hTj j q h with e | e
          · have := (hap q e).1; omega
          · have := (hoa'.lt q e).1; omega
        have hU4 : ∀ g, (Value.slice Ab mb cb).ownBlock = some g → ¬ Go.Free.T.U T 8 4 g := fun g e ⟨j, h1, h2, h⟩ => hd4 j h1 h2 g ((hT4 g).2 e) h
        have hU7 : ∀ g, (Value.slice Aa ma ca).ownBlock = some g → ¬ Go.Free.T.U T 8 7 g := fun g e ⟨j, h1, h2, h⟩ => hd7 j h1 h2 g ((hT7 g).2 e) h
        have hU5 : ∀ i g, (Value.slice A5 m5 c5).ownBlock = some g → ¬ Go.Free.T.U T 8 i g := fun i g e ⟨j, _, _, h⟩ => by
          have h1 := (HO5.out.lt g e).1
          rcases hTj j g h with e | e
          · have := hobl g e; omega
          · have := (G3.out.2.1.lt g e).2; omega
        have HT := Lib.hid (And.intro hT4 (And.intro hT7 (And.intro hTj hTn)))
        have HU := Lib.hid (And.intro hUp (And.intro hUq (And.intro hU4 (And.intro hU7 hU5))))
        have HD := Lib.hid (And.intro hl8 (And.intro hd4 hd7))
        have HR := Lib.hid (And.intro hob' hoa')
        have HBX := Lib.hid (And.intro hb1' hb2')
        have HAP := Lib.hid hap
        have hm5 := row_len HO5.out
        clear hT hT4 hT7 hTj hTn hdj hTK hTc hUp hUq hU4 hU7 hU5 hl8 hd4 hd7 hob' hoa' hap hobl hb1' hb2' c1 c2'
        refine Go.Free.T.wpIn_region_freeT (T := T) (X := fun i => i == 4 || i == 7) 56 59 4 7 8 (by kernel_rfl) (by kernel_rfl) (by kernel_rfl) HDJ.out HD.out.1 rfl rfl (by decide) (by kernel_rfl) (by kernel_rfl) ?_
        refine Go.Free.T.chainT_val (.slice Ab mb cb) rfl (S := [7]) rfl ?_ ?_
        · intro ρ w' hE hB hs
          have h7 : ρ (.tmp 7) = .pointer (some ⟨p, 0, none⟩) := hs 7 (by decide)
          clear hs
          refine if_t (by rfl) ?_
          have hcl := cell_of_one (HBX.out.1.keep hB (HU.out.1 _))
          go_simp
        refine Go.Free.T.chainT_val (.int .i64 k) rfl (S := [13]) rfl ?_ ?_
        · intro ρ w' hE hB hs
          have h13 : ρ (.tmp 13) = .int .i64 k := hs 13 (by decide)
          clear hs
          refine if_t (by rfl) ?_
          go_simp
        refine Go.Free.T.chainT_val (.int .u8 k) rfl (S := [53]) rfl ?_ ?_
        · intro ρ w' hE hB hs
          have h53 : ρ (.tmp 53) = .int .i64 k := hs 53 (by decide)
          clear hs
          refine if_t (by rfl) ?_
          go_simp
        refine Go.Free.T.chainT_make (fun v w => ∃ g, v = .slice (some ⟨g, 0, none⟩) 1 1 ∧ Box w g 5 (.int .u8 k) ∧ w5.heap.size ≤ g) rfl ?_ (S := [54]) rfl ?_ ?_
        · rintro j hj _ v w1 w2 _ ⟨g', rfl, hb, hg'⟩ hm
          exact ⟨g', rfl, hb.keep hm (fun h => by have := HD.out.1 j hj g' h; omega), hg'⟩
        · intro ρ w' hE hB hs
          have h54 : ρ (.tmp 54) = .int .u8 k := hs 54 (by decide)
          clear hs
          exact ⟨by rfl, .slice (some ⟨w'.heap.size, 0, none⟩) 1 1, w'.alloc (.cells #[.int .u8 k] 5), by go_simp, .alloc _ _ _, w'.heap.size, rfl, Box.new _ _ _, hB.size⟩
        refine Go.Free.T.chainT_append (base := K0) (kk := .u8) (xs := Q3) (ys := [(k : Int)]) (S := [52, 55]) HD.out.2.1 HD.out.1 elemU8 rfl rfl (by omega) ?_ (by have := HLN.out.1; simp; omega) (by have := HLN.out.1; simp; omega) ?_
        · intro ρ w' hE hB hs
          have h52 : ρ (.tmp 52) = .slice Ab mb cb := hs 52 (by decide)
          have h55 : ∃ g, ρ (.tmp 55) = .slice (some ⟨g, 0, none⟩) 1 1 ∧ Box w' g 5 (.int .u8 k) ∧ w5.heap.size ≤ g := hs 55 (by decide)
          clear hs
          obtain ⟨g', e, hb, _⟩ := h55
          exact ⟨by rfl, ⟨_, _, _, h52, owns_keep HR.out.1 hB (fun g e _ => HU.out.2.2.1 g e), fun g e => (HT.out.1 g).2 e⟩, _, _, _, e, Rd.box1 hb⟩
        refine Go.Free.T.chainT_val (.slice Aa ma ca) rfl (S := [11]) rfl ?_ ?_
        · intro ρ w' hE hB hs
          have h11 : ρ (.tmp 11) = .pointer (some ⟨q, 0, none⟩) := hs 11 (by decide)
          clear hs
          refine if_t (by rfl) ?_
          have hcl := cell_of_one (HBX.out.2.keep hB (HU.out.2.1 _))
          go_simp
        refine Go.Free.T.chainT_val (.slice A5 m5 c5) rfl (S := [14]) rfl ?_ ?_
        · intro ρ w' hE hB hs
          have h14 : ρ (.tmp 14) = .slice A5 m5 c5 := hs 14 (by decide)
          clear hs
          refine if_t (by rfl) ?_
          go_simp
        refine Go.Free.T.chainT_append (base := q + 3) (kk := .u8) (xs := P3) (ys := PK) (S := [57, 58]) HD.out.2.2 HD.out.1 elemU8 rfl rfl (by omega) ?_ (by have := HLN.out.2; omega) (by have := HLN.out.2; omega) ?_
        · intro ρ w' hE hB hs
          have h57 : ρ (.tmp 57) = .slice Aa ma ca := hs 57 (by decide)
          have h58 : ρ (.tmp 58) = .slice A5 m5 c5 := hs 58 (by decide)
          clear hs
          exact ⟨by rfl, ⟨_, _, _, h57, owns_keep HR.out.2 hB (fun g e _ => HU.out.2.2.2.1 g e), fun g e => (HT.out.2.1 g).2 e⟩, _, _, _, h58, Rd.own (owns_keep HO5.out hB (fun g e _ => HU.out.2.2.2.2 _ g e))⟩
        intro w6 hB6
        simp only [List.reverse_cons, List.reverse_nil, List.nil_append, List.cons_append, Go.Free.Ends, forall_eq, Act.put, List.setIfInBounds_toArray, List.set_cons_zero, List.set_cons_succ]
        rintro _ ⟨g8, rfl, _, _⟩ _ ⟨A8, m8, c8, rfl, ho8, hg8⟩ _ ⟨A9, m9, c9, rfl, ho9, hg9⟩ hap2
        have hap2' : ∀ g, (Value.slice A8 m8 c8).ownBlock = some g → (Value.slice A9 m9 c9).ownBlock ≠ some g := hap2
        have hUA : ∀ b, (b < K0 ∨ b = q ∨ b = q + 1 ∨ b = q + 2) → ¬ Go.Free.T.UA T 8 b := fun b hb ⟨j, _, h⟩ => by have := HTK.out.1 j b h; omega
        have hqK : K0 ≤ q := hsz31
        have hpK : p < K0 := by omega
        have b1'' := HBX.out.1.keep hB6 (hUA p (by omega))
        have b2'' := HBX.out.2.keep hB6 (hUA q (by omega))
        have cc1 := cell_of_one b1''
        have ff1 := free_of_one b1''
        have cc2 := cell_of_one b2''
        have ff2 := free_of_one b2''
        have hrk6 : RoundKeep (fun j => j = q + 1 ∨ j = q + 2) w5 w6 := hB6.weak fun b _ h => by
          rcases h with h | h
          · exact hUA b (by omega)
          · rintro ⟨j, _, h2⟩; exact HTK.out.2 j b h2 h
        have hrk7 : RoundKeep (fun j => j = g ∨ j = g + 1) w5 w6 := hB6.weak fun b _ h => by
          rcases h with h | h
          · exact hUA b (by omega)
          · rintro ⟨j, _, h2⟩; exact HTK.out.2 j b h2 h
        have hus6 := owns_keep (Owns.below D2.out.1 HB5.out) hB6 fun b e _ => hUA b (.inl (HOG3.out b e))
        have hds6 := owns_keep (Owns.below D2.out.2.1 HB5.out) hB6 fun b e _ => hUA b (by have := hog b e; omega)
        have hbl6 : Below w.heap.size w w6 := (D2.out.2.2.1.trans (HB5.out.mono D2.out.2.2.1.size)).trans (below_keep hB6 (by have := D2.out.2.2.1.size; omega) fun b hb => hUA b (by omega))
        have hown8 : ∀ b, (Value.slice A8 m8 c8).ownBlock = some b → b < q ∨ q + 3 ≤ b := fun b e => by
          rcases hg8 b e with h | h
          · exact (HTK.out.1 4 b h).2
          · have := HW3.out; omega
        have B6 := Lib.hid (And.intro b1'' b2'')
        have HRK := Lib.hid (And.intro hrk6 hrk7)
        have HO6 := Lib.hid (And.intro ho8 (And.intro ho9 (And.intro hown8 hap2')))
        have HK6 := Lib.hid (And.intro hus6 (And.intro hds6 hbl6))
        clear b1'' b2'' hrk6 hrk7 ho8 ho9 hown8 hap2 hap2' hus6 hds6 hbl6 hg8 hg9 hUA hB6
        gi_wp2
        have e1 := one_setCell (u := .slice A8 m8 c8) B6.out.1
        have e2 := B6.out.2.far (p := ⟨p, 0, none⟩) (by simp only; omega) (.slice A8 m8 c8)
        refine ⟨?_, ⟨A8, m8, c8, A9, m9, c9, ?_, ?_, ?_, ?_, ?_⟩, ?_, ?_, ?_, ?_⟩
        · refine RoundKeep.trans (.of_below HB5.out) (RoundKeep.trans HRK.out.1 (RoundKeep.trans (.setCell _ ?_ _) (.setCell _ ?_ _)))
          · rintro (h | h)
            · simp only at h; omega
            · exact B6.out.1.cells h
          · rintro (h | h)
            · simp only at h; omega
            · exact e2.cells h
        · exact Box.far e1 (p := ⟨q, 0, none⟩) (by simp only; omega) _
        · exact one_setCell e2
        · rw [HQ3.out.2.2.2]
          exact ownsRow_setCell_other (ownsRow_setCell_other HO6.out.1 (a := ⟨p, 0, none⟩) (fun e => by have := (HO6.out.1.lt p e).1; omega) _) (a := ⟨q, 0, none⟩) (fun e => by have := HO6.out.2.2.1 q e; omega) _
        · rw [HQ3.out.2.2.1]
          exact ownsRow_setCell_other (ownsRow_setCell_other HO6.out.2.1 (a := ⟨p, 0, none⟩) (fun e => by have := (HO6.out.2.1.lt p e).1; omega) _) (a := ⟨q, 0, none⟩) (fun e => by have := (HO6.out.2.1.lt q e).1; omega) _
        · exact fun k e => ⟨HO6.out.2.2.1 k e, HO6.out.2.2.2 k e⟩
        · exact ownsRow_setCell_other (ownsRow_setCell_other HK6.out.1 (a := ⟨p, 0, none⟩) (fun e => by have := (HK6.out.1.lt p e).1; omega) _) (a := ⟨q, 0, none⟩) (fun e => by have := HOG3.out q e; omega) _
        · exact ownsRow_setCell_other (ownsRow_setCell_other HK6.out.2.1 (a := ⟨p, 0, none⟩) (fun e => by have := (HK6.out.2.1.lt p e).1; omega) _) (a := ⟨q, 0, none⟩) (fun e => by have := hog q e; omega) _
        · exact (HK6.out.2.2.setCell (p := ⟨p, 0, none⟩) (by simp only; omega) _).setCell (p := ⟨q, 0, none⟩) (by simp only; omega) _
        · refine RoundKeep.trans D2.out.2.2.2 (RoundKeep.trans (.of_below HB5.out) (RoundKeep.trans HRK.out.2 (RoundKeep.trans (.setCell _ ?_ _) (.setCell _ ?_ _))))
          · rintro (h | h)
            · simp only at h; omega
            · exact B6.out.1.cells h
          · rintro (h | h)
            · simp only at h; omega
            · exact e2.cells h
    case done =>
      rintro D W hD ⟨⟨A5, m5, c5, h1, h3⟩, h2, h4⟩ hK
      have hpa := prts_all 128 dpart ds
      rw [HDL.out.1, ← hn4] at hpa
      rw [hpa, show chunked 128 dpart ds = drest ds from rfl, ← HFE.out] at h3
      have cl5 := cell_of_one h1
      have hp5 := lt_of_block h1
      have H3 := Lib.hid h3
      have H4 := Lib.hid h4
      have HK5 := Lib.hid hK
      clear hpa h1 h2 h3 h4 hK hit hb0 hb1 hb2 hbl hod hob
      gi_wp2
      refine leaves_mark HK5.out (results_tmp2 rfl _ _ _) ⟨A5, m5, c5, by rw [HKW.out]; rfl, ?_, ?_⟩
      · rw [HK.out, if_pos rfl]
        exact owns_keep H3.out (S := fun W k => ¬ NonCell W k) (.putObj _ (fun h => h ⟨_, HK5.out, rfl⟩) _) (fun _ _ h => h)
      · exact H4.out.trans (below_keep (S := fun _ k => k < w.heap.size) (.putObj _ (by omega) _) (by have := H4.out.size; omega) (fun k hk => hk))
theorem deltaE : Encer 34 23 tkAll dform :=
  ⟨md_encode, enters_f Try.func23 (by kernel_rfl) rfl, dEncode_any⟩
end Go.Proofs.Ytkbcmblgieoleaa

namespace Go.Proofs.Ytkbcmblgieoleaa
open Go.RowKit Go.Cor Go.Free

theorem dName_any (w : World) : Calls Try.prog 33 #[.agg #[]] w fun e w' => e = .returned (.string ⟨#[100, 101, 108, 116, 97]⟩) ∧ Below w.heap.size w w' := by
  go_enter Try.func33, Try.ntmps33
  go_wp2
  go_ret
  exact ⟨rfl, (Below.refl _ _).alloc (Nat.le_refl _) _⟩

set_option maxRecDepth 100000 in
set_option maxHeartbeats 2000000 in
theorem awake12 (w : World) : Calls Try.prog 19 #[] w fun e w' => e = .returned (.bool true) ∧ Below w.heap.size w w' := by
  have he := deltaE.c _ _ 3 3 [5, 7, 9] (Rd.lit w 2 .i64 [5, 7, 9]) (by intro x hx; simp at hx; rcases hx with rfl | rfl | rfl <;> exact ⟨by decide, by decide⟩) (by decide)
  unfold EncG at he
  rw [show wrg tkAll [5, 7, 9] = 0 by decide +kernel, show tak tkAll [5, 7, 9] = true by decide +kernel, if_pos rfl] at he
  have hf := fun w => deltaE.c (w.alloc (.cells #[.int .i64 0, .int .i64 1, .int .i64 3] 2)) _ 3 3 [0, 1, 3] (Rd.lit w 2 .i64 [0, 1, 3]) (by intro x hx; simp at hx; rcases hx with rfl | rfl | rfl <;> exact ⟨by decide, by decide⟩) (by decide)
  unfold EncG at hf
  rw [show wrg tkAll [0, 1, 3] = 0 by decide +kernel, show tak tkAll [0, 1, 3] = true by decide +kernel, if_pos rfl] at hf
  have HE := Lib.hid he
  have HF := Lib.hid hf
  have E1 := Lib.hid (show strOfNums (dform [5, 7, 9]) = ⟨#[10, 4, 0]⟩ by decide +kernel)
  have E2 := Lib.hid (show strOfNums (dform [0, 1, 3]) = ⟨#[0, 2, 1, 2]⟩ by decide +kernel)
  clear he hf
  go_enter Try.func19, Try.ntmps19
  go_wp2_with fail
  refine HE.out.mono ?_
  rintro e w1 ⟨A1, m1, c1, rfl, hown, hb1⟩
  have HO1 := Lib.hid hown
  have HB1 := Lib.hid (((Below.refl w.heap.size w).alloc (Nat.le_refl _) _).trans (hb1.mono (by simp)))
  clear hown hb1
  go_wp2_with fail
  refine (HF.out _).mono ?_
  rintro e w2 ⟨A2, m2, c2, rfl, hown, hb2⟩
  have hb12 : Below w1.heap.size w1 w2 := ((Below.refl w1.heap.size w1).alloc (Nat.le_refl _) _).trans (hb2.mono (by simp))
  have HO1' := Lib.hid (Rd.own (Owns.below HO1.out hb12))
  have HO2 := Lib.hid (Rd.own hown)
  have HB2 := Lib.hid (HB1.out.trans (hb12.mono HB1.out.size))
  clear hown hb2 hb12
  have hv1 := conv_bytes HO1'.out 30 5 9 Try.underlying30 Try.underlying5 Try.underlying9
  have hv2 := conv_bytes (Rd.lit w2 5 .u8 [10, 4, 0]) 30 5 9 Try.underlying30 Try.underlying5 Try.underlying9
  have hv3 := conv_bytes (HO2.out.alloc (.cells #[.int .u8 10, .int .u8 4, .int .u8 0] 5)) 30 5 9 Try.underlying30 Try.underlying5 Try.underlying9
  have hv4 := conv_bytes (Rd.lit (w2.alloc (.cells #[.int .u8 10, .int .u8 4, .int .u8 0] 5)) 5 .u8 [0, 2, 1, 2]) 30 5 9 Try.underlying30 Try.underlying5 Try.underlying9
  rw [E1.out] at hv1
  rw [E2.out] at hv3
  rw [show strOfNums [10, 4, 0] = ⟨#[10, 4, 0]⟩ by decide +kernel] at hv2
  rw [show strOfNums [0, 2, 1, 2] = ⟨#[0, 2, 1, 2]⟩ by decide +kernel] at hv4
  simp only [List.map_cons, List.map_nil, List.length_cons, List.length_nil, World.size_alloc] at hv2 hv4
  go_wp2
  go_ret
  exact ⟨rfl, (HB2.out.alloc HB2.out.size _).alloc (by have := HB2.out.size; simp; omega) _⟩
end Go.Proofs.Ytkbcmblgieoleaa

namespace Go.Cor
open Go Go.RowKit
theorem cut_step (v j : Nat) : v % 2 ^ (j + 1) = v % 2 ^ j + v / 2 ^ j % 2 * 2 ^ j := by
  rw [Nat.pow_succ, Nat.mod_mul, Nat.mul_comm (2 ^ j)]
theorem shl_in {b j : Nat} (hb : b < 2) (hj : j ≤ 63) : IntKind.u64.wrap ((b : Int) * 2 ^ j) = ((b * 2 ^ j : Nat) : Int) := by
  have e : ((b : Int) * (2 : Int) ^ j) = ((b * 2 ^ j : Nat) : Int) := by simp
  have h1 : 2 ^ j ≤ 2 ^ 63 := pow_mono2 hj
  have h2 : b * 2 ^ j ≤ 1 * 2 ^ j := Nat.mul_le_mul_right _ (by omega)
  have h3 : (2 : Nat) ^ 63 = 9223372036854775808 := by decide
  rw [e]
  exact wrapu64_in _ (by omega) (by omega)
theorem exc_at {k g i : Nat} {us : List Int} {pre : List (Nat × Nat)} (hi : i < us.length) (he : exc k 0 us = pre ++ exc k g (us.drop i)) (h : fhi k (us[i]?.getD 0) ≠ 0) : (pre ++ [(g, fhi k (us[i]?.getD 0))]) <+: exc k 0 us := by
  rw [he, exc_more hi h]; exact ⟨exc k 0 (us.drop (i + 1)), by simp⟩
end Go.Cor
namespace Go.Proofs.Ytkbcmblgieoleaa
open Go.RowKit Go.Cor Go.Free

set_option maxRecDepth 100000 in
set_option maxHeartbeats 2000000 in
theorem refCut_any (v k : Nat) (hk : k ≤ 64) (hv : (v : Int) ≤ 18446744073709551615) (w : World) : Calls Try.prog 118 #[.int .u64 v, .int .i64 k] w fun e w' => e = .returned (.tuple #[.int .u64 ((v / 2 ^ k : Nat) : Int), .int .u64 ((v % 2 ^ k : Nat) : Int)]) ∧ w = w' := by
  go_enter Try.func118, Try.ntmps118
  go_wp2_with fail
  go_loopg [0, 6, 7] k (fun g v0 v6 v7 wr => ∃ j a b : Nat, v7 = .int .i64 j ∧ j ≤ k ∧ g = k - j ∧ v0 = .int .u64 a ∧ v6 = .int .u64 b ∧ a ≤ v ∧ b ≤ v ∧ w = wr ∧ Hid (a = v / 2 ^ j ∧ b = v % 2 ^ j))
  case atStart => exact ⟨0, v, 0, rfl, by omega, by omega, rfl, rfl, by omega, by omega, rfl, Lib.hid ⟨by simp, by simp [Nat.mod_one]⟩⟩
  case round =>
    obtain ⟨j, a, b, rfl, hj, rfl, rfl, rfl, ha, hb, rfl, hI⟩ := hrel
    by_cases hlt : j < k
    · have hs := cut_step v j
      rw [← hI.out.1, ← hI.out.2] at hs
      have hd : v / 2 ^ (j + 1) = a / 2 := by rw [hI.out.1, Nat.div_div_eq_div_mul, ← Nat.pow_succ]
      have hw := shl_in (b := a % 2) (j := j) (by omega) (by omega)
      rw [show ((a % 2 : Nat) : Int) = (a : Int) % 2 by omega] at hw
      have hsv : v % 2 ^ (j + 1) ≤ v := Nat.mod_le _ _
      obtain ⟨t, ht⟩ : ∃ t, a % 2 * 2 ^ j = t := ⟨_, rfl⟩
      rw [ht] at hs hw
      have HS := Lib.hid (And.intro hs hd)
      rw [hs] at hsv
      clear hs hd ht hI
      go_wp2_with fail
      go_roundg (k - (j + 1))
      case measure => omega
      case rel => exact ⟨j + 1, a / 2, b + t, by go_num, by omega, rfl, val_i (by omega), val_i (by omega), by omega, by omega, rfl, Lib.hid ⟨by rw [HS.out.2], by rw [HS.out.1]⟩⟩
    · obtain rfl : j = k := by omega
      obtain ⟨rfl, rfl⟩ := hI.out
      go_wp2
      go_ret2
      exact ⟨rfl, rfl⟩

set_option maxRecDepth 100000 in
set_option maxHeartbeats 4000000 in
theorem refFLen_any (A : Option Addr) (n c : Nat) (us : List Int) (k : Nat) (w : World) (h : Rd w .u64 A n c us) (hu : In .u64 us) (hn : n ≤ 1024) (hk : k ≤ 64) :
    Calls Try.prog 77 #[.slice A n c, .int .i64 k] w fun e w' => e = .returned (.int .i64 (flen us k : Nat)) ∧ Below w.heap.size w w' := by
  have hl := h.len
  have hfe : (flen us k : Int) = 9 + (octets (n * k) : Nat) + (marks (exc k 0 us)).length + (vput (exc k 0 us).length).length := by unfold flen; rw [hl]; omega
  have hex := fun pre x => exc_in (k := k) (pre := pre) (x := x) hu (by omega)
  have hml := marks_len (exc_u64 (k := k) hu 0 (by omega))
  have hel := exc_len_le k us 0
  have hvl := vput_len_u64 (exc k 0 us).length (by omega)
  have HEX := Lib.hid hex
  have hnk : n * k ≤ 1024 * 64 := Nat.mul_le_mul hn hk
  obtain ⟨s, hs⟩ : ∃ s, n * k = s := ⟨_, rfl⟩
  have hms : IntKind.i64.wrap ((n : Int) * (k : Int)) = (s : Int) := by rw [show (n : Int) * (k : Int) = ((n * k : Nat) : Int) by simp, hs]; exact wrapi64_in _ (by omega) (by omega)
  rw [hs] at hfe hnk
  have H := Lib.hid h
  have HU := Lib.hid hu
  have HFE := Lib.hid hfe
  have HEL := Lib.hid (And.intro hel (And.intro hml (And.intro hl hvl)))
  clear h hu hl hfe hex hml hel hs hvl
  go_enter Try.func77, Try.ntmps77
  go_wp2_with fail
  go_loopg [5, 6, 7, 8] n (fun gg v5 v6 v7 v8 wr => ∃ (i g e m : Nat), v8 = .int .i64 i ∧ i ≤ n ∧ gg = n - i ∧ v7 = .int .i64 g ∧ g ≤ i ∧ v6 = .int .i64 e ∧ e ≤ i ∧ v5 = .int .i64 m ∧ m ≤ 100000 ∧ Hid (∃ pre : List (Nat × Nat), e = pre.length ∧ m = 9 + octets s + (marks pre).length ∧ exc k 0 us = pre ++ exc k g (us.drop i) ∧ Below w.heap.size w wr))
  case atStart => exact ⟨0, 0, 0, 9 + octets s, rfl, by omega, by omega, rfl, by omega, rfl, by omega, val_i (by unfold octets; omega), by unfold octets; omega, Lib.hid ⟨[], rfl, by simp [marks], by simp, Below.refl _ _⟩⟩
  case round =>
    obtain ⟨i, g, e, m, rfl, hi, rfl, rfl, hg, rfl, he, rfl, hm, hI⟩ := hrel
    obtain ⟨wo, rfl⟩ : ∃ wo, wo = wr := ⟨_, rfl⟩
    obtain ⟨pre, hpe, hpm, hex, hbl⟩ := hI.out
    by_cases hlt : i < n
    · obtain ⟨b', o, rfl, hbl', hc⟩ := (H.out.below hbl).get (by omega)
      have hcell := hc i hlt
      have hl := HEL.out.2.2.1
      rw [List.getD_eq_getElem?_getD] at hcell
      have hx := HU.out (us[i]?.getD 0) (by rw [List.getElem?_eq_getElem (by omega)]; exact List.getElem_mem _)
      obtain ⟨x, hxe⟩ := Int.eq_ofNat_of_zero_le hx.1
      have hfh : fhi k (us[i]?.getD 0) = x / 2 ^ k := by rw [hxe]; rfl
      rw [hxe] at hcell hx
      have hct := fun w => refCut_any x k hk hx.2 w
      have hz := exc_zero (k := k) (g := g) (us := us) (i := i) (by omega)
      have hm1 := exc_more (k := k) (g := g) (us := us) (i := i) (by omega)
      have ha := exc_at (k := k) (g := g) (us := us) (i := i) (by omega) hex
      rw [hfh] at hz hm1 ha
      have hh : x / 2 ^ k ≤ x := Nat.div_le_self _ _
      obtain ⟨y, hy⟩ : ∃ y, x / 2 ^ k = y := ⟨_, rfl⟩
      rw [hy] at hz hm1 ha hct hh
      have HCT := Lib.hid hct
      have HE := Lib.hid (And.intro hpe (And.intro hpm (And.intro hex hbl)))
      have HZ := Lib.hid (And.intro hz (And.intro hm1 ha))
      have hxu := hx.2
      clear hc hI hpe hpm hex hbl hz hm1 ha hct hxe hfh hx hy hl
      by_cases h0 : y = 0
      · subst h0
        go_wp2_with fail
        refine (HCT.out _).mono ?_
        rintro e' w1 ⟨rfl, rfl⟩
        go_wp2_with fail
        go_roundg (n - (i + 1))
        case measure => omega
        case rel => exact ⟨i + 1, g + 1, e, m, by go_num, by omega, rfl, by go_num, by omega, rfl, by omega, rfl, hm, Lib.hid ⟨pre, HE.out.1, HE.out.2.1, by rw [HE.out.2.2.1]; first | rw [HZ.out.1 rfl] | rw [HZ.out.1 trivial], HE.out.2.2.2⟩⟩
      · have hpx := HZ.out.2.2 h0
        have hin := HEX.out _ _ hpx
        have hsn := marks_snoc pre (g, y)
        have hpl := hpx.length_le
        have hv1 := vput_len_u64 g (by omega)
        have hv2 := vput_len_u64 y (by omega)
        have hp1 := fun w => refVPut_any g w (by omega)
        have hp2 := fun w => refVPut_any y w (by omega)
        have hsl := congrArg List.length hsn
        simp only [List.length_append] at hsl
        obtain ⟨l1, hl1⟩ : ∃ l1, (vput g).length = l1 := ⟨_, rfl⟩
        obtain ⟨l2, hl2⟩ : ∃ l2, (vput y).length = l2 := ⟨_, rfl⟩
        rw [hl1] at hsl hv1
        rw [hl2] at hsl hv2
        have hne : ((y : Int) == 0) = false := by simp [h0]
        have hpm2 : m ≤ 9 + 8192 + 20480 := by rw [HE.out.2.1]; have := hin.2.2.2.1; unfold octets; omega
        have HP := Lib.hid (And.intro hp1 hp2)
        have HSL := Lib.hid (And.intro hsl (And.intro hl1 hl2))
        clear hp1 hp2 hsl hl1 hl2 hpx hin hsn hpl
        go_wp2_with fail
        refine (HCT.out _).mono ?_
        rintro e' w1 ⟨rfl, rfl⟩
        go_wp2_with fail
        refine (HP.out.1 _).mono ?_
        rintro e' w1 ⟨A1, n1, c1, rfl, ho1, hb1⟩
        obtain rfl : n1 = l1 := by have h1 := row_len ho1; have := HSL.out.2.1; omega
        have HB1 := Lib.hid (HE.out.2.2.2.trans (hb1.mono HE.out.2.2.2.size))
        clear ho1 hb1
        go_wp2_with fail
        refine (HP.out.2 _).mono ?_
        rintro e' w2 ⟨A2, n2, c2, rfl, ho2, hb2⟩
        obtain rfl : n2 = l2 := by have h1 := row_len ho2; have := HSL.out.2.2; omega
        have HB2 := Lib.hid (HB1.out.trans (hb2.mono HB1.out.size))
        clear ho2 hb2
        go_wp2_with fail
        go_roundg (n - (i + 1))
        case measure => omega
        case rel => exact ⟨i + 1, 0, e + 1, m + n1 + n2, by go_num, by omega, rfl, rfl, by omega, by go_num, by omega, by go_num, by omega, Lib.hid ⟨pre ++ [(g, y)], by rw [HE.out.1]; simp, by rw [HSL.out.1, HE.out.2.1]; omega, by rw [HE.out.2.2.1, HZ.out.2.1 h0]; simp, HB2.out⟩⟩
    · obtain rfl : i = n := by omega
      have hl := HEL.out.2.2.1
      rw [List.drop_of_length_le (by omega), exc, List.append_nil] at hex
      have hfe := HFE.out
      have hp := fun w => refVPut_any e w (by omega)
      have hvl := HEL.out.2.2.2
      rw [hex, ← hpe] at hfe hvl
      obtain ⟨l1, hl1⟩ : ∃ l1, (vput e).length = l1 := ⟨_, rfl⟩
      rw [hl1] at hfe hvl
      have HP := Lib.hid (And.intro hp hl1)
      have HFE2 := Lib.hid (show (flen us k : Int) = m + l1 by rw [hfe]; omega)
      have HBL := Lib.hid hbl
      clear hex hl hfe hp hI hpe hpm hbl hl1
      go_wp2_with fail
      refine (HP.out.1 _).mono ?_
      rintro e' w1 ⟨A1, n1, c1, rfl, ho1, hb1⟩
      obtain rfl : n1 = l1 := by have h1 := row_len ho1; have := HP.out.2; omega
      have HB1 := Lib.hid (HBL.out.trans (hb1.mono HBL.out.size))
      clear ho1 hb1
      go_wp2
      go_ret
      exact ⟨ret_i (by rw [HFE2.out]), HB1.out⟩
end Go.Proofs.Ytkbcmblgieoleaa
