/-
  Chapter 10: Takes, Size.
  Chapter 10: Encode.
  Chapter 10: Decode.
  Chapter 10: Decode.
-/
import Derived.Deep.CutBlock
import Derived.Test.YtbfnaigefmdcdaaG11
import Derived.Test.YtbfnaigefmdcdaaG12
import Derived.Test.YtbfnaigefmdcdaaG14
import Derived.Test.YtbfnaigefmdcdaaG23
import Derived.Test.YtbfnaigefmdcdaaG25
import Derived.Test.YtbfnaigefmdcdaaG26
namespace Go.Cor
open Go Go.RowKit
/-- the bytes of the runs that were told -/
def hbytes (k : Nat) (zs : List Int) (pre : List (Nat × Nat × Nat)) : List Int := (pre.map fun x => hput k x.1 ((zs.drop x.2.1).take x.2.2)).flatten
theorem hbytes_snoc (k : Nat) (zs : List Int) (pre : List (Nat × Nat × Nat)) (x : Nat × Nat × Nat) : hbytes k zs (pre ++ [x]) = hbytes k zs pre ++ hput k x.1 ((zs.drop x.2.1).take x.2.2) := by simp [hbytes]
theorem hbytes_all (k : Nat) (zs : List Int) : hbytes k zs (hlist 0 zs) = hrest k zs := by
  have := hlist_rest k zs _ 0 rfl
  rw [List.drop_zero] at this; exact this
theorem hbytes_le {k : Nat} {zs : List Int} {pre : List (Nat × Nat × Nat)} (h : pre <+: hlist 0 zs) (hk : k ≤ 64) (hz : zs.length ≤ 1024) : (hbytes k zs pre).length ≤ 17474 := by
  obtain ⟨r, hr⟩ := h
  have h1 := hrest_len hk _ zs rfl (by omega)
  rw [← hbytes_all, ← hr] at h1
  unfold hbytes at h1 ⊢
  rw [List.map_append, List.flatten_append, List.length_append] at h1
  omega
theorem run_in {zs : List Int} {pre : List (Nat × Nat × Nat)} {x : Nat × Nat × Nat} (h : (pre ++ [x]) <+: hlist 0 zs) : x.1 ≤ zs.length ∧ 0 < x.2.2 ∧ x.2.1 + x.2.2 ≤ zs.length := by
  have h1 := hlist_in _ 0 rfl x (zs := zs) (by rw [List.drop_zero]; exact h.subset (by simp))
  exact h1
/-- the size so far -/
def hsum (k : Nat) (zs : List Int) (pre : List (Nat × Nat × Nat)) : Int := 1 + (hbytes k zs pre).length
end Go.Cor
namespace Go.Proofs.Ytbfnaigefmdcdaa
open Go.RowKit Go.Cor Go.Free
attribute [local go_sem] Oper.semAt_some

theorem runs_any (A : Option Addr) (n c : Nat) (w : World) :
    Calls Try.prog 48 #[.slice A n c] w fun e w' => e = .returned (.func (.func 75) #[] #[.pointer (some ⟨w.heap.size, 0, none⟩)]) ∧ w.alloc (.cells #[.slice A n c] 62) = w' := by
  go_enter Try.func48, Try.ntmps48
  go_wp2
  go_ret
  exact ⟨rfl, rfl⟩
theorem hTakes_any (A : Option Addr) (n c : Nat) (w : World) : Calls Try.prog 34 #[.agg #[], .slice A n c] w fun e w' => e = .returned (.bool (blk n)) ∧ Below w.heap.size w w' := by
  go_enter Try.func34, Try.ntmps34
  go_wp2_with fail
  refine (block_any n _).mono ?_
  rintro e w' ⟨rfl, rfl⟩
  go_wp2
  go_ret
  exact ⟨rfl, (Below.refl _ _).alloc (Nat.le_refl _) _⟩
theorem mh_takes (w : World) : (method 248 47 (.agg #[]) "Takes").run Try.prog w = .ok (34, .agg #[]) w := by kernel_rfl
theorem mh_encode (w : World) : (method 248 47 (.agg #[]) "Encode").run Try.prog w = .ok (33, .agg #[]) w := by kernel_rfl
theorem mh_size (w : World) : (method 248 47 (.agg #[]) "Size").run Try.prog w = .ok (26, .agg #[]) w := by kernel_rfl
theorem mh_decode (w : World) : (method 248 47 (.agg #[]) "Decode").run Try.prog w = .ok (31, .agg #[]) w := by kernel_rfl
theorem mh_ahead (w : World) : (nilAhead 248 47 (.agg #[]) "Decode").run Try.prog w = .ok (some false) w := by kernel_rfl
theorem hybT : Taker 47 34 tkAll :=
  ⟨mh_takes, enters_f Try.func34 (by kernel_rfl) rfl, fun w A n c xs h _ _ => by rw [tak_all, h.len]; exact hTakes_any A n c w⟩

set_option maxRecDepth 100000 in
set_option maxHeartbeats 2000000 in
theorem hSize_any (w : World) (A : Option Addr) (n c : Nat) (xs : List Int) (h : Rd w .i64 A n c xs) (hi : In .i64 xs) (hn : n ≤ 1100) :
    Calls Try.prog 26 #[.agg #[], .slice A n c] w fun e w' => e = .returned (.int .i64 (if tak tkAll xs then ((hform xs).length : Int) else 0)) ∧ Below w.heap.size w w' := by
  have hk : tak tkAll xs = blk n := by rw [tak_all, h.len]
  have ht := hTakes_any A n c
  rw [hk]
  obtain ⟨q, hq⟩ : ∃ q, blk n = q := ⟨_, rfl⟩
  rw [hq] at ht ⊢
  have HT := Lib.hid ht
  cases q with
  | false =>
    clear ht hq h hi hk
    go_enter Try.func26, Try.ntmps26
    go_wp2_with fail
    refine (HT.out _).mono ?_
    rintro e w1 ⟨rfl, hb⟩
    go_wp2
    go_ret
    exact ⟨rfl, ((Below.refl _ _).alloc (Nat.le_refl _) _).trans (hb.mono (by simp))⟩
  | true =>
    have hN := of_decide_eq_true hq
    have hn2 : n ≤ 1024 := by omega
    have hlen := h.len
    have hz := zigs_any A n c xs
    have hzl : (xs.map zig).length = n := by simp [hlen]
    have hmb := most_bd (zigs_u64 hi)
    have hfit := most_fit (zigs_fit xs)
    have hform_eq : hform xs = most (xs.map zig) :: hrest (most (xs.map zig)).toNat (xs.map zig) := rfl
    obtain ⟨zs, hzs⟩ : ∃ zs, xs.map zig = zs := ⟨_, rfl⟩
    rw [hzs] at hz hzl hmb hfit hform_eq
    obtain ⟨k, hke⟩ := Int.eq_ofNat_of_zero_le hmb.1
    have hk64 : k ≤ 64 := by omega
    have HZ := Lib.hid (fun w h => hz w h hi (by omega))
    unfold RetZig at HZ
    rw [hke] at HZ hform_eq hfit
    rw [Int.toNat_natCast] at hform_eq hfit
    have HF := Lib.hid hform_eq
    have HL := Lib.hid hzl
    have H := Lib.hid h
    have hn0 : 0 < n := by omega
    clear ht hq hk h hi hlen hz hzs hmb hfit hke hform_eq hzl hN hn
    refine (callsIn_wide (n := 0)).1 (callsIn_of_wp_marks (F := Fence.wide) Try.func26 rfl trivial ?_ rfl)
    simp only [Try.ntmps26, List.size_toArray, List.length_cons, List.length_nil, Nat.reduceAdd, Nat.reduceSub, Array.replicate_succ, Array.replicate_zero, List.push_toArray, List.append_toArray, List.nil_append, List.cons_append]
    gi_wp2_with (first
      | (refine ⟨trivial, rfl, ?_⟩; gi_at_call 34; refine (callsIn_wide.2 (HT.out _)).mono ?_; rintro e w1 ⟨rfl, hb1⟩; have HB1 := Lib.hid (((Below.refl w.heap.size w).alloc (Nat.le_refl _) (.cells #[] 47)).trans (hb1.mono (by simp))); clear hb1)
      | (refine ⟨trivial, rfl, ?_⟩; gi_at_call 47; refine (callsIn_wide.2 (HZ.out _ (H.out.below HB1.out))).mono ?_; rintro e w2 ⟨A2, n2, c2, rfl, ho2, hb2⟩; have HO2 := Lib.hid (owns_weak ho2 HB1.out.size); have HB2 := Lib.hid (HB1.out.trans (hb2.mono HB1.out.size)); clear ho2 hb2)
      | (refine ⟨trivial, rfl, ?_⟩; gi_at_call 48; refine (callsIn_wide.2 (runs_any _ _ _ _)).mono ?_; rintro e w3 ⟨rfl, rfl⟩))
    obtain rfl : n2 = n := by have h1 := row_len HO2.out; have := HL.out; omega
    obtain ⟨g, rfl, hgB, hgl⟩ := owns_addr HO2.out hn0
    obtain ⟨p, hp⟩ : ∃ p, w2.heap.size = p := ⟨_, rfl⟩
    obtain ⟨W0, hW0⟩ : ∃ W0, ((w2.alloc (.cells #[.int .i64 k] 3)).alloc (.cells #[.int .i64 1] 3)).alloc (.cells #[.slice (some ⟨g, 0, none⟩) n2 c2] 62) = W0 := ⟨_, rfl⟩
    have hs0 : W0.heap.size = p + 3 := by rw [← hW0, ← hp]; simp
    have hb6 : Box W0 p 3 (.int .i64 (k : Int)) := by rw [← hW0, ← hp]; exact ((Box.new _ _ _).alloc _).alloc _
    have hb7 : Box W0 (p + 1) 3 (.int .i64 1) := by rw [← hW0, ← hp]; have h1 := (Box.new (w2.alloc (.cells #[.int .i64 k] 3)) 3 (.int .i64 1)).alloc (.cells #[.slice (some ⟨g, 0, none⟩) n2 c2] 62); rwa [World.size_alloc] at h1
    have hbb : Box W0 (p + 2) 62 (.slice (some ⟨g, 0, none⟩) n2 c2) := by rw [← hW0, ← hp]; have h1 := Box.new ((w2.alloc (.cells #[.int .i64 k] 3)).alloc (.cells #[.int .i64 1] 3)) 62 (.slice (some ⟨g, 0, none⟩) n2 c2); rwa [World.size_alloc, World.size_alloc] at h1
    have hbl : Below w.heap.size w W0 := by
      have hsz := HB2.out.size
      rw [← hW0]; exact ((HB2.out.alloc hsz _).alloc (by simp; omega) _).alloc (by simp; omega) _
    have hwp : w.heap.size ≤ p := by rw [← hp]; exact HB2.out.size
    rw [hp] at hgl
    have hoz : Owns W0 w.heap.size 45 .u64 (some ⟨g, 0, none⟩) n2 c2 zs := by rw [← hW0]; exact ((HO2.out.alloc _).alloc _).alloc _
    rw [hp, hW0]
    have hit := runs_iter g 0 c2 n2 zs (p + 2) W0 (Rd.own hoz) hbb (by omega) (by omega)
    have HFO := Lib.hid (show 0 < p by omega)
    clear HB2 HO2 HB1 hW0 hp hbb
    refine wpIn_range (w0 := W0) (encs := runE g 0 c2) rfl (enters_f Try.func75 (by kernel_rfl) rfl) hit (Keep.refl _ _) (fun k hk => by rcases hk with hk | hk <;> omega) (fun k hk => by omega) (fun _ => rfl)
      (fun pre W => Box W p 3 (.int .i64 (k : Int)) ∧ Box W (p + 1) 3 (.int .i64 (hsum k zs pre)) ∧ Below w.heap.size w W) ?stab ?start ?round ?done
    case stab =>
      rintro pre W W' ⟨h1, h2, h4⟩ hk
      exact ⟨h1.keep hk ⟨by omega, fun h => h1.cells h.2⟩, h2.keep hk ⟨by omega, fun h => h2.cells h.2⟩, h4.trans (below_keep hk (by have := h4.size; omega) (fun k hk => ⟨by omega, fun h => by omega⟩))⟩
    case start => exact ⟨hb6, hb7, hbl⟩
    case round =>
      intro l pre x W hpre hI hsz
      obtain ⟨h1, h2, h3⟩ := run_in hpre
      have hpl := hbytes_le hpre hk64 (by have := HL.out; omega)
      have hsn := hbytes_snoc k zs pre x
      have hsn2 := congrArg List.length hsn
      rw [List.length_append] at hsn2
      obtain ⟨o, f, m⟩ := x
      simp only at h1 h2 h3 hsn2
      have hul : ((zs.drop f).take m).length = m := by rw [List.length_take, List.length_drop]; omega
      have HSZ := Lib.hid (fun w => rsize_any o (some ⟨g, 0 + f, none⟩) m (c2 - f) ((zs.drop f).take m) k w hul hk64 (by have := HL.out; omega) (by have := HL.out; omega))
      obtain ⟨q, hq⟩ : ∃ q, (hput k o ((zs.drop f).take m)).length = q := ⟨_, rfl⟩
      rw [hq] at HSZ hsn2
      obtain ⟨S, hS⟩ : ∃ S, hsum k zs pre = S := ⟨_, rfl⟩
      obtain ⟨S', hS'⟩ : ∃ S', hsum k zs (pre ++ [(o, f, m)]) = S' := ⟨_, rfl⟩
      have hsum1 : S' = S + q ∧ 0 ≤ S ∧ S' ≤ 17475 := by rw [← hS, ← hS']; unfold hsum; omega
      rw [hS']
      have HS := Lib.hid (And.intro hsum1 hS)
      have HI1 := Lib.hid hI
      have hWp : p + 3 ≤ W.heap.size := by omega
      clear hpre hpl hsn hsn2 h1 h2 h3 hul hq hS hS' hsum1 hI hsz hit hoz hb7 hb6 hbl
      unfold runE runV
      gi_wp2
      refine ⟨?_, ?_, ?_⟩
      · exact Keep.alloc _ _ _
      · exact ⟨HI1.out.1.alloc _, HI1.out.2.1.alloc _, HI1.out.2.2.alloc HI1.out.2.2.size _⟩
      rintro W2 ⟨b6, b7, bl⟩ hst
      rw [HS.out.2] at b7
      obtain ⟨r, hr⟩ : ∃ r, W.heap.size = r := ⟨_, rfl⟩
      have hrun : W2.heap[r]? = some (.cells #[.int .i64 (o : Int), .slice (some ⟨g, f, none⟩) m (c2 - f)] 69 (0, 0)) := by
        have h1 : (W.alloc (.cells #[.int .i64 (o : Int), .slice (some ⟨g, f, none⟩) m (c2 - f)] 69)).heap[r]? = some (.cells #[.int .i64 (o : Int), .slice (some ⟨g, f, none⟩) m (c2 - f)] 69 (0, 0)) := by rw [← hr]; exact heap_alloc_new W _
        refine (hst.block r (by simp; omega) ⟨fun h => h, fun h => ?_⟩).trans h1
        obtain ⟨ob, ho1, ho2⟩ := h.2
        rw [h1] at ho1; cases ho1; simp [Obj.isCells] at ho2
      rw [hr]
      have hrp : p + 3 ≤ r := by omega
      have hr2 : r < W2.heap.size := lt_of_block hrun
      have hp2 : p + 1 < W2.heap.size := by omega
      have c6 := cell_of_one b6
      have c7 := cell_of_one b7
      have r0 : W2.cell? ⟨r, 0, none⟩ = some (.int .i64 (o : Int)) := by simp [World.cell?, hrun]
      have r1 : W2.cell? ⟨r, 1, none⟩ = some (.slice (some ⟨g, f, none⟩) m (c2 - f)) := by simp [World.cell?, hrun]
      obtain ⟨⟨hs1, hs2, hs3⟩, _⟩ := HS.out
      have B7 := Lib.hid b7
      have B6 := Lib.hid b6
      have BL := Lib.hid bl
      rw [Nat.zero_add] at HSZ
      clear b6 b7 bl hst hrun hr HI1 hWp HS
      gi_wp2
      refine wpIn_region_free 5 (by kernel_rfl) (by kernel_rfl) (by kernel_rfl) ?_
      refine chain_val (.int .i64 S) (S := [7]) rfl ?_ ?_
      · intro ρ w' hE hB hs
        have h7 : ρ (.tmp 7) = .pointer (some ⟨p + 1, 0, none⟩) := hs 7 (by decide)
        clear hs
        refine if_t (by rfl) ?_
        have hcl := (hB.cell (p := ⟨p + 1, 0, none⟩) hp2).trans c7
        go_simp
      refine chain_val (runV o (some ⟨g, f, none⟩) m (c2 - f)) (S := [8]) rfl ?_ ?_
      · intro ρ w' hE hB hs
        have h8 : ρ (.tmp 8) = .pointer (some ⟨r, 0, none⟩) := hs 8 (by decide)
        clear hs
        refine if_t (by rfl) ?_
        have hcl := (hB.cell (p := ⟨r, 0, none⟩) hr2).trans r0
        have hcl1 := (hB.cell (p := ⟨r, 1, none⟩) hr2).trans r1
        unfold runV
        go_simp
      refine chain_val (.int .i64 (k : Int)) (S := [6]) rfl ?_ ?_
      · intro ρ w' hE hB hs
        have h6 : ρ (.tmp 6) = .pointer (some ⟨p, 0, none⟩) := hs 6 (by decide)
        clear hs
        refine if_t (by rfl) ?_
        have hcl := (hB.cell (p := ⟨p, 0, none⟩) (show p < W2.heap.size by omega)).trans c6
        go_simp
      refine chain_static (fun v__ _ => v__ = .int .i64 (q : Int)) (stable_eq _) (S := [22, 23]) rfl (Go.Cor.enters_f Try.func49 (by kernel_rfl) rfl) rfl ?_ ?_
      · intro ρ w' hE hB hs
        have h22 : ρ (.tmp 22) = runV o (some ⟨g, f, none⟩) m (c2 - f) := hs 22 (by decide)
        have h23 : ρ (.tmp 23) = .int .i64 (k : Int) := hs 23 (by decide)
        clear hs
        refine ⟨(by rfl), ?_⟩
        simp only [List.map_toArray, List.map_cons, List.map_nil, h22, h23]
        refine (HSZ.out _).mono ?_
        rintro e w3 ⟨rfl, hb⟩
        exact ⟨_, rfl, hb, rfl⟩
      refine chain_val (.int .i64 (S + (q : Int))) (S := [21, 24]) rfl ?_ ?_
      · intro ρ w' hE hB hs
        have h21 : ρ (.tmp 21) = .int .i64 S := hs 21 (by decide)
        have h24 : ρ (.tmp 24) = .int .i64 (q : Int) := hs 24 (by decide)
        clear hs
        refine if_t (by rfl) ?_
        (go_simp <;> exact wrapi64_in _ (by omega) (by omega))
      intro w1 hB1
      simp only [List.reverse_cons, List.reverse_nil, List.nil_append, List.cons_append, Go.Free.Ends, forall_eq, Act.put, List.setIfInBounds_toArray, List.set_cons_zero, List.set_cons_succ]
      have b7 := B7.out.below hB1 hp2
      have b6 := B6.out.below hB1 (show p < W2.heap.size by omega)
      have c7' := cell_of_one b7
      have f7' := free_of_one b7
      have B7' := Lib.hid b7
      have B6' := Lib.hid b6
      have BL' := Lib.hid (BL.out.trans (hB1.mono BL.out.size))
      have HB1 := Lib.hid hB1
      clear b7 b6 hB1 c7 c6 r0 r1
      gi_wp2
      refine ⟨?_, ?_, ?_, ?_⟩
      · refine RoundKeep.trans (.of_below HB1.out) (.setCell _ ?_ _)
        rintro (h | h)
        · simp only at h; omega
        · exact B7'.out.cells h
      · exact B6'.out.far (by simp) _
      · rw [hs1]; exact one_setCell B7'.out
      · exact BL'.out.setCell (p := ⟨p + 1, 0, none⟩) (by simp only; omega) _
    case done =>
      rintro D W hD ⟨h1, h2, h4⟩ hK
      have hc := cell_of_one h2
      rw [show hsum k zs (hlist 0 zs) = ((hform xs).length : Int) by unfold hsum; rw [hbytes_all, HF.out, List.length_cons]; omega] at hc
      gi_wp2
      refine leaves_mark hK (results_tmp rfl _ _ _) ⟨rfl, ?_⟩
      exact h4.trans (below_keep (S := fun _ k => k < w.heap.size) (.putObj _ (by omega) _) (by have := h4.size; omega) (fun k hk => hk))
theorem hybS : Sizer 47 26 tkAll hform :=
  ⟨mh_size, enters_f Try.func26 (by kernel_rfl) rfl, hSize_any⟩
end Go.Proofs.Ytbfnaigefmdcdaa

namespace Go.Cor
open Go Go.RowKit
theorem runs_fit {k : Nat} {zs : List Int} (h : Fitl k zs) (f m : Nat) : Fitl k ((zs.drop f).take m) := (h.drop f).take m
theorem runs_in {zs : List Int} (h : In .u64 zs) (f m : Nat) : In .u64 ((zs.drop f).take m) := fun x hx => h x (List.mem_of_mem_drop (List.mem_of_mem_take hx))
end Go.Cor
namespace Go.Proofs.Ytbfnaigefmdcdaa
open Go.RowKit Go.Cor Go.Free
attribute [local go_sem] Oper.semAt_some

set_option maxRecDepth 100000 in
set_option maxHeartbeats 4000000 in
theorem hEncode_any (w : World) (A : Option Addr) (n c : Nat) (xs : List Int) (h : Rd w .i64 A n c xs) (hi : In .i64 xs) (hn : n ≤ 1100) :
    Calls Try.prog 33 #[.agg #[], .slice A n c] w (EncG w.heap.size w tkAll hform xs) := by
  have hk : tak tkAll xs = blk n := by rw [tak_all, h.len]
  have hkw : wrg tkAll xs = if blk n then 0 else 7 := by rw [wrg_all, h.len]
  have hw := fun w h => wrongG hybT A n c xs w h hi hn
  rw [hkw] at hw
  have HK := Lib.hid hk
  have HKW := Lib.hid hkw
  obtain ⟨q, hq⟩ : ∃ q, blk n = q := ⟨_, rfl⟩
  rw [hq] at hw HK HKW
  have HW := Lib.hid hw
  cases q with
  | false =>
    have H := Lib.hid h
    clear hw hq h hi hk hkw
    go_enter Try.func33, Try.ntmps33
    go_wp2_with fail
    refine (HW.out _ (H.out.alloc _)).mono ?_
    rintro e w1 ⟨rfl, hb⟩
    go_wp2
    go_ret2
    exact ⟨none, 0, 0, by rw [HKW.out]; rfl, by rw [HK.out]; exact owns_nil _ _ _ _, ((Below.refl _ _).alloc (Nat.le_refl _) _).trans (hb.mono (by simp))⟩
  | true =>
    have hN := of_decide_eq_true hq
    have hn2 : n ≤ 1024 := by omega
    have hlen := h.len
    have hz := zigs_any A n c xs
    have hzl : (xs.map zig).length = n := by simp [hlen]
    have hmb := most_bd (zigs_u64 hi)
    have hfit := most_fit (zigs_fit xs)
    have hzu : In .u64 (xs.map zig) := fun x hx => zigs_u64 hi x hx
    have hform_eq : hform xs = most (xs.map zig) :: hrest (most (xs.map zig)).toNat (xs.map zig) := rfl
    obtain ⟨zs, hzs⟩ : ∃ zs, xs.map zig = zs := ⟨_, rfl⟩
    rw [hzs] at hz hzl hmb hfit hform_eq hzu
    obtain ⟨k, hke⟩ := Int.eq_ofNat_of_zero_le hmb.1
    have hk64 : k ≤ 64 := by omega
    have HZ := Lib.hid (fun w h => hz w h hi (by omega))
    unfold RetZig at HZ
    rw [hke] at HZ hform_eq hfit
    rw [Int.toNat_natCast] at hform_eq hfit
    have HF := Lib.hid hform_eq
    have HL := Lib.hid hzl
    have HFIT := Lib.hid (And.intro hfit hzu)
    have H := Lib.hid h
    have hn0 : 0 < n := by omega
    have ek : IntKind.u8.wrap (k : Int) = (k : Int) := wrapu8_in _ (by omega) (by omega)
    have ek2 : (k : Int) % 256 = (k : Int) := by omega
    clear hw hq hk h hi hlen hz hzs hmb hfit hke hform_eq hzl hN hn hkw hzu
    refine (callsIn_wide (n := 0)).1 (callsIn_of_wp_marks (F := Fence.wide) Try.func33 rfl trivial ?_ rfl)
    simp only [Try.ntmps33, List.size_toArray, List.length_cons, List.length_nil, Nat.reduceAdd, Nat.reduceSub, Array.replicate_succ, Array.replicate_zero, List.push_toArray, List.append_toArray, List.nil_append, List.cons_append]
    gi_wp2_with (first
      | (refine ⟨trivial, rfl, ?_⟩; gi_at_call 38; refine (callsIn_wide.2 (HW.out _ (H.out.alloc _))).mono ?_; rintro e w1 ⟨rfl, hb1⟩; have HB1 := Lib.hid (((Below.refl w.heap.size w).alloc (Nat.le_refl _) (.cells #[] 47)).trans (hb1.mono (by simp))); clear hb1)
      | (refine ⟨trivial, rfl, ?_⟩; gi_at_call 47; refine (callsIn_wide.2 (HZ.out _ (H.out.below HB1.out))).mono ?_; rintro e w2 ⟨A2, n2, c2, rfl, ho2, hb2⟩; have HO2 := Lib.hid (owns_weak ho2 HB1.out.size); have HB2 := Lib.hid (HB1.out.trans (hb2.mono HB1.out.size)); clear ho2 hb2)
      | (refine ⟨trivial, rfl, ?_⟩; gi_at_call 48; refine (callsIn_wide.2 (runs_any _ _ _ _)).mono ?_; rintro e w3 ⟨rfl, rfl⟩))
    obtain rfl : n2 = n := by have h1 := row_len HO2.out; have := HL.out; omega
    obtain ⟨g, rfl, hgB, hgl⟩ := owns_addr HO2.out hn0
    obtain ⟨p, hp⟩ : ∃ p, w2.heap.size = p := ⟨_, rfl⟩
    obtain ⟨W0, hW0⟩ : ∃ W0, (((w2.alloc (.cells #[.int .i64 k] 3)).alloc (.cells #[.int .u8 k] 5)).alloc (.cells #[.slice (some ⟨w2.heap.size + 1, 0, none⟩) 1 1] 29)).alloc (.cells #[.slice (some ⟨g, 0, none⟩) n2 c2] 62) = W0 := ⟨_, rfl⟩
    have hs0 : W0.heap.size = p + 4 := by rw [← hW0, ← hp]; simp
    have hwp : w.heap.size ≤ p := by rw [← hp]; exact HB2.out.size
    have hb8 : Box W0 p 3 (.int .i64 (k : Int)) := by rw [← hW0, ← hp]; exact (((Box.new _ _ _).alloc _).alloc _).alloc _
    have hrw : Owns W0 w.heap.size 5 .u8 (some ⟨p + 1, 0, none⟩) 1 1 [(k : Int)] := by
      rw [← hW0, ← hp]
      have h1 := owns_lit1 (w := w2.alloc (.cells #[.int .i64 k] 3)) (B := w.heap.size) (E := 5) (u := .int .u8 (k : Int)) (by simp; omega)
      rw [World.size_alloc] at h1
      exact (h1.alloc _).alloc _
    have hb9 : Box W0 (p + 2) 29 (.slice (some ⟨p + 1, 0, none⟩) 1 1) := by
      rw [← hW0, ← hp]
      have h1 := (Box.new ((w2.alloc (.cells #[.int .i64 k] 3)).alloc (.cells #[.int .u8 k] 5)) 29 (.slice (some ⟨w2.heap.size + 1, 0, none⟩) 1 1)).alloc (.cells #[.slice (some ⟨g, 0, none⟩) n2 c2] 62)
      rwa [World.size_alloc, World.size_alloc] at h1
    have hbb : Box W0 (p + 3) 62 (.slice (some ⟨g, 0, none⟩) n2 c2) := by
      rw [← hW0, ← hp]
      have h1 := Box.new (((w2.alloc (.cells #[.int .i64 k] 3)).alloc (.cells #[.int .u8 k] 5)).alloc (.cells #[.slice (some ⟨w2.heap.size + 1, 0, none⟩) 1 1] 29)) 62 (.slice (some ⟨g, 0, none⟩) n2 c2)
      rwa [World.size_alloc, World.size_alloc, World.size_alloc] at h1
    have hbl : Below w.heap.size w W0 := by
      have hsz := HB2.out.size
      rw [← hW0]; exact (((HB2.out.alloc hsz _).alloc (by simp; omega) _).alloc (by simp; omega) _).alloc (by simp; omega) _
    rw [hp] at hgl
    have hoz : Owns W0 w.heap.size 45 .u64 (some ⟨g, 0, none⟩) n2 c2 zs := by rw [← hW0]; exact (((HO2.out.alloc _).alloc _).alloc _).alloc _
    rw [hp] at hW0
    rw [hp, hW0]
    have hit := runs_iter g 0 c2 n2 zs (p + 3) W0 (Rd.own hoz) hbb (by omega) (by omega)
    clear HB2 HO2 HB1 hW0 hp hbb
    refine wpIn_range (w0 := W0) (encs := runE g 0 c2) rfl (enters_f Try.func75 (by kernel_rfl) rfl) hit (Keep.refl _ _) (fun k hk => by rcases hk with hk | hk <;> omega) (fun k hk => by omega) (fun _ => rfl)
      (fun pre W => Box W p 3 (.int .i64 (k : Int)) ∧ (∃ A m c r, A = some ⟨r, 0, none⟩ ∧ Box W (p + 2) 29 (.slice A m c) ∧ Owns W w.heap.size 5 .u8 A m c ((k : Int) :: hbytes k zs pre) ∧ p < r ∧ r ≠ p + 2 ∧ r ≠ p + 3) ∧ Owns W w.heap.size 45 .u64 (some ⟨g, 0, none⟩) n2 c2 zs ∧ Below w.heap.size w W) ?stab ?start ?round ?done
    case stab =>
      rintro pre W W' ⟨h1, ⟨A, m, c, r, rfl, h2, h3, e1, e2, e3⟩, h4, h5⟩ hk
      refine ⟨h1.keep hk ⟨by omega, fun h => h1.cells h.2⟩, ⟨_, m, c, r, rfl, h2.keep hk ⟨by omega, fun h => h2.cells h.2⟩, owns_keep h3 hk (fun g' hg' hc => ⟨fun e => ?_, fun h => hc h.2⟩), e1, e2, e3⟩, owns_keep h4 hk (fun g' hg' hc => ⟨fun e => ?_, fun h => hc h.2⟩), h5.trans (below_keep hk (by have := h5.size; omega) (fun k hk => ⟨by omega, fun h => by omega⟩))⟩
      · injection hg' with hg'; simp only at hg'; omega
      · injection hg' with hg'; simp only at hg'; omega
    case start => exact ⟨hb8, ⟨_, 1, 1, p + 1, rfl, hb9, by simpa [hbytes] using hrw, by omega, by omega, by omega⟩, hoz, hbl⟩
    case round =>
      intro l pre x W hpre hI hsz
      obtain ⟨h1, h2, h3⟩ := run_in hpre
      have hpl := hbytes_le hpre hk64 (by have := HL.out; omega)
      have hsn := hbytes_snoc k zs pre x
      have hsn2 := congrArg List.length hsn
      rw [List.length_append] at hsn2
      obtain ⟨o, f, m⟩ := x
      simp only at h1 h2 h3 hsn2 hsn
      have HSN := Lib.hid (And.intro hsn (And.intro (show (hbytes k zs pre).length ≤ 17474 by omega) (And.intro h1 (And.intro h2 h3))))
      have HI1 := Lib.hid hI
      have hWp : p + 4 ≤ W.heap.size := by omega
      clear hpre hpl hsn hsn2 h1 h2 h3 hI hsz hit hoz hb9 hb8 hbl hrw
      unfold runE runV
      gi_wp2
      refine ⟨?_, ?_, ?_⟩
      · exact Keep.alloc _ _ _
      · obtain ⟨q1, ⟨A', m', c', r', e0, q2, q3, e1, e2, e3⟩, q4, q5⟩ := HI1.out
        exact ⟨q1.alloc _, ⟨A', m', c', r', e0, q2.alloc _, q3.alloc _, e1, e2, e3⟩, q4.alloc _, q5.alloc q5.size _⟩
      rintro W2 ⟨b8, ⟨A', m', c', r', rfl, b9, o9, e1, e2, e3⟩, oz, bl⟩ hst
      obtain ⟨r, hr⟩ : ∃ r, W.heap.size = r := ⟨_, rfl⟩
      have hrun : W2.heap[r]? = some (.cells #[.int .i64 (o : Int), .slice (some ⟨g, f, none⟩) m (c2 - f)] 69 (0, 0)) := by
        have h1 : (W.alloc (.cells #[.int .i64 (o : Int), .slice (some ⟨g, f, none⟩) m (c2 - f)] 69)).heap[r]? = some (.cells #[.int .i64 (o : Int), .slice (some ⟨g, f, none⟩) m (c2 - f)] 69 (0, 0)) := by rw [← hr]; exact heap_alloc_new W _
        refine (hst.block r (by simp; omega) ⟨fun h => h, fun h => ?_⟩).trans h1
        obtain ⟨ob, ho1, ho2⟩ := h.2
        rw [h1] at ho1; cases ho1; simp [Obj.isCells] at ho2
      rw [hr]
      have hr2 : r < W2.heap.size := lt_of_block hrun
      have hrp : p + 4 ≤ r := by omega
      have c8 := cell_of_one b8
      have c9 := cell_of_one b9
      have r0 : W2.cell? ⟨r, 0, none⟩ = some (.int .i64 (o : Int)) := by simp [World.cell?, hrun]
      have r1 : W2.cell? ⟨r, 1, none⟩ = some (.slice (some ⟨g, f, none⟩) m (c2 - f)) := by simp [World.cell?, hrun]
      obtain ⟨hsn, hsl, h1, h2, h3⟩ := HSN.out
      have hur : Rd W2 .u64 (some ⟨g, f, none⟩) m (c2 - f) ((zs.drop f).take m) := by
        have q1 := ((Rd.own oz).from_ (i := f) (by have := HL.out; omega)).take (m := m) (by have := HL.out; omega)
        rw [Nat.zero_add] at q1; exact q1
      have hm' : m' ≤ 17475 := by have q1 := row_len o9; rw [List.length_cons] at q1; omega
      have hput := rput_any o (some ⟨g, f, none⟩) m (c2 - f) ((zs.drop f).take m) k (some ⟨r', 0, none⟩) m' c' ((k : Int) :: hbytes k zs pre) W2 hur (runs_in HFIT.out.2 f m) (runs_fit HFIT.out.1 f m) h2 hk64 (by have := HL.out; omega) (by have := HL.out; omega) (Rd.own o9) (by omega)
      rw [List.cons_append, ← hsn] at hput
      have HPUT := Lib.hid hput
      have B9 := Lib.hid b9
      have B8 := Lib.hid b8
      have BL := Lib.hid bl
      have OZ := Lib.hid oz
      unfold runV at HPUT
      clear b8 b9 bl oz o9 hst hrun hr HI1 hsn hsl h1 h2 h3 hur hput HSN
      gi_wp2_with (refine ⟨trivial, rfl, ?_⟩; gi_at_call 67; refine CallsIn.inRound l (callsIn_wide.2 (HPUT.out.mono ?_)); rintro e w5 ⟨A5, m5, c5, rfl, ho5, hb5⟩; have hc5 := cell_of_one (B9.out.below hb5 (lt_of_block B9.out)); have hf5 := free_of_one (B9.out.below hb5 (lt_of_block B9.out)))
      have hm5 : 0 < m5 := by have q1 := row_len ho5; rw [List.length_cons] at q1; omega
      obtain ⟨r5, rfl, hr5, _⟩ := owns_addr ho5 hm5
      have b9' := B9.out.below hb5 (lt_of_block B9.out)
      refine ⟨?_, (B8.out.below hb5 (lt_of_block B8.out)).far (p := ⟨p + 2, 0, none⟩) (show p ≠ p + 2 by omega) _, ⟨_, m5, c5, r5, rfl, one_setCell b9', ?_, by omega, by omega, by omega⟩, ?_, ?_⟩
      · refine RoundKeep.trans (.of_below hb5) (.setCell _ ?_ _)
        rintro (h | h)
        · simp only at h; omega
        · exact b9'.cells h
      · exact ownsRow_setCell_other (owns_weak ho5 BL.out.size) (a := ⟨p + 2, 0, none⟩) (fun e => by injection e with e; simp only at e; omega) _
      · exact ownsRow_setCell_other (Owns.below OZ.out hb5) (a := ⟨p + 2, 0, none⟩) (fun e => by injection e with e; simp only at e; omega) _
      · exact (BL.out.trans (hb5.mono BL.out.size)).setCell (p := ⟨p + 2, 0, none⟩) (by simp only; omega) _
    case done =>
      rintro D W hD ⟨h1, ⟨A', m', c', r', rfl, h2, h3, e1, e2, e3⟩, h4, h5⟩ hK
      have hc := cell_of_one h2
      rw [hbytes_all, ← HF.out] at h3
      have H3 := Lib.hid h3
      have H5 := Lib.hid h5
      clear h1 h3 h4 h5
      gi_wp2
      refine leaves_mark hK (results_tmp2 rfl _ _ _) ⟨_, m', c', by rw [HKW.out]; rfl, ?_, ?_⟩
      · rw [HK.out, if_pos rfl]
        exact owns_keep H3.out (S := fun W k => ¬ NonCell W k) (.putObj _ (fun h => h ⟨_, hK, rfl⟩) _) (fun _ _ h => h)
      · exact H5.out.trans (below_keep (S := fun _ k => k < w.heap.size) (.putObj _ (by omega) _) (by have := H5.out.size; omega) (fun k hk => hk))
theorem hybE : Encer 47 33 tkAll hform :=
  ⟨mh_encode, enters_f Try.func33 (by kernel_rfl) rfl, hEncode_any⟩
end Go.Proofs.Ytbfnaigefmdcdaa

namespace Go.Cor
open Go Go.RowKit
theorem zag_fit {u : Int} {k : Nat} (_h0 : 0 ≤ u) (h : u.toNat < 2 ^ k) (hk : k ≤ 64) : u ≤ 18446744073709551615 := by
  have h1 : (2 : Nat) ^ k ≤ 2 ^ 64 := pow_mono2 hk
  have h2 : (2 : Nat) ^ 64 = 18446744073709551616 := by decide
  omega
theorem raw_fit {k lack o : Nat} {b : List Int} (_hk : k ≤ 64) : Fitl k (rone k lack o b).1 := by
  unfold rone
  split
  · intro u hu; simp at hu
  · split
    · intro u hu; simp at hu
    · split
      · intro u hu; simp at hu
      · intro u hu
        rw [List.eq_of_mem_replicate hu]
        exact ⟨by omega, by rw [Int.toNat_natCast]; omega⟩
theorem rawp_fit {k lack g : Nat} {b : List Int} (_hk : k ≤ 64) : Fitl k (rpak k lack g b).1 := by
  unfold rpak
  split
  · intro u hu; simp at hu
  · split
    · intro u hu; simp at hu
    · split
      · intro u hu; simp at hu
      · exact (unp_fit _ _ _).take _
theorem head_one {b : List Int} (h : By b) (hn : b ≠ []) : num (b.take 1) = (((b[0]?.getD 0).toNat : Nat) : Int) ∧ (b[0]?.getD 0).toNat ≤ 255 := by
  cases b with
  | nil => exact absurd rfl hn
  | cons x r =>
    have h1 := h x (by simp)
    simp [num]; omega
end Go.Cor
namespace Go.Proofs.Ytbfnaigefmdcdaa
open Go.RowKit Go.Cor Go.Free

set_option maxRecDepth 100000 in
set_option maxHeartbeats 8000000 in
theorem hdec1 {w : World} {p bN : Nat} {A : Option Addr} {n c : Nat} {xs : List Int} {N : Nat} (h : Cur w p A n c xs 0) (hb : Box w bN 3 (.int .i64 N)) (hbp : bN ≠ p) (hN : N ≤ 1024) :
    Calls Try.prog 55 #[.pointer (some ⟨p, 0, none⟩), .pointer (some ⟨bN, 0, none⟩)] w (Dec p A n c xs w (hrun N xs).1 (hrun N xs).2.1 (hrun N xs).2.2) := by
  have hlen := h.rd.len
  have hby := h.bytes
  by_cases hx0 : xs = []
  · have hn0 : n = 0 := by rw [← hlen, hx0]; rfl
    have HS := Lib.hid (U8_short h (by omega))
    have HR := Lib.hid (show hrun N xs = ([], 0, 1) by unfold hrun; rw [if_pos hx0])
    clear h hb hlen hby hx0
    go_enter Try.func55, Try.ntmps55
    go_wp2_with fail
    refine HS.out.mono ?_
    rintro e w2 ⟨rfl, hb⟩
    exact ⟨rfl, .of_below hb, .inr (by rw [HR.out]; exact ⟨by decide, rfl⟩)⟩
  have hnp : 0 < n := by rw [← hlen]; exact List.length_pos_iff.2 hx0
  obtain ⟨hu1, hu2⟩ := head_one hby hx0
  have hu8 := U8_ok h (by omega)
  rw [List.drop_zero, hu1] at hu8
  have hR : hrun N xs = if 64 < (xs[0]?.getD 0).toNat then ([], 0, 6) else dlift [] 1 (drun (hstep (xs[0]?.getD 0).toNat) N (xs.drop 1)) := by unfold hrun; rw [if_neg hx0]
  obtain ⟨k, hk⟩ : ∃ k, (xs[0]?.getD 0).toNat = k := ⟨_, rfl⟩
  rw [hk] at hu2 hu8 hR
  have HU8 := Lib.hid hu8
  have H := Lib.hid h
  have HBX := Lib.hid hb
  have HBY := Lib.hid hby
  have HLEN := Lib.hid hlen
  have hwb := lt_of_block hb
  clear h hb hlen hby hx0 hu1 hu8 hk
  by_cases hk64 : 64 < k
  · have hd : decide ((k : Int) ≤ 64) = false := by simp; omega
    have HR := Lib.hid (show hrun N xs = ([], 0, 6) by rw [hR, if_pos hk64])
    clear hR
    go_enter Try.func55, Try.ntmps55
    go_wp2_with fail
    refine HU8.out.mono ?_
    rintro e w2 ⟨rfl, hcu, hm⟩
    have HM := Lib.hid hm
    clear hcu hm
    go_wp2_with fail
    refine (check_false 6 _ (by decide)).mono ?_
    rintro e w3 ⟨rfl, rfl⟩
    exact ⟨rfl, HM.out, .inr (by rw [HR.out]; exact ⟨by decide, rfl⟩)⟩
  have hd : decide ((k : Int) ≤ 64) = true := by simp; omega
  have hk2 : k ≤ 64 := by omega
  rw [if_neg hk64] at hR
  obtain ⟨R, hRe⟩ : ∃ R, hrun N xs = R := ⟨_, rfl⟩
  rw [hRe] at hR ⊢
  have HR := Lib.hid hR
  clear hR hRe hk64
  go_enter Try.func55, Try.ntmps55
  go_wp2_with fail
  refine HU8.out.mono ?_
  rintro e w2 ⟨rfl, hcu, hm⟩
  have HC2 := Lib.hid hcu
  have HM2 := Lib.hid hm
  clear hcu hm
  go_wp2_with fail
  refine (check_true 6 _).mono ?_
  rintro e w3 ⟨rfl, rfl⟩
  go_wp2_with fail
  go_loopg [5] N (fun g v5 wr => ∃ (m : Nat) (A' : Option Addr) (c' : Nat) (l : List Int) (a : Nat), v5 = .slice A' m c' ∧ m ≤ N ∧ g = N - m ∧ Hid (Owns wr w.heap.size 2 .i64 A' m c' l ∧ Cur wr p A n c xs a ∧ Mod (· = p) w wr ∧ R = dlift l a (drun (hstep k) (N - m) (xs.drop a))))
  case atStart => exact ⟨0, none, 0, [], 1, rfl, by omega, rfl, Lib.hid ⟨owns_nil _ _ _ _, by have := HC2.out; rwa [Nat.zero_add] at this, HM2.out, HR.out⟩⟩
  case round =>
    obtain ⟨m, A', c', l, a, rfl, hm, rfl, hI⟩ := hrel
    obtain ⟨wo, rfl⟩ : ∃ wo, wo = wr := ⟨_, rfl⟩
    have hcb : wo.cell? ⟨bN, 0, none⟩ = some (.int .i64 (N : Int)) := cell_of_one (HBX.out.keep hI.out.2.2.1 hbp)
    by_cases hlt : m < N
    · have hba := HBY.out.drop a
      have hpk := peek_any hI.out.2.1
      have hle := hI.out.2.1.le
      obtain ⟨g, hg⟩ : ∃ g, vget 0 (xs.drop a) = g := ⟨_, rfl⟩
      have hget := fun w A n c h => get_any A n c (xs.drop a) w h hba
      rw [hg] at hget
      have hR1 := hI.out.2.2.2
      obtain ⟨v, mm, er⟩ := g
      have HPK := Lib.hid hpk
      by_cases he : er = 0
      · subst he
        have hgg := zrun_get hba (by rw [hg])
        rw [hg, List.length_drop, HLEN.out] at hgg
        dsimp only at hgg
        obtain ⟨m1, rfl⟩ := Int.eq_ofNat_of_zero_le (show 0 ≤ mm by have := hgg.2.2.1; omega)
        obtain ⟨hd0, rfl⟩ := Int.eq_ofNat_of_zero_le hgg.2.2.2.1
        simp only [Int.toNat_natCast] at hgg
        obtain ⟨hg1, hg2, _, _, hg5⟩ := hgg
        have hst := hstep_get k (N - m) hg
        rw [List.drop_drop] at hst
        have HST := Lib.hid hst
        have HGET := Lib.hid hget
        have HR1 := Lib.hid hR1
        clear hba hpk hg hget hR1 hst
        go_wp2_with fail
        refine HPK.out.mono ?_
        rintro e w4 ⟨A4, n4, c4, rfl, ho4, hb4⟩
        have HB4 := Lib.hid hb4
        have HO4 := Lib.hid (Rd.own ho4)
        clear ho4 hb4
        go_wp2_with fail
        refine (HGET.out _ _ _ _ HO4.out).mono ?_
        rintro e w5 ⟨rfl, rfl⟩
        go_wp2_with fail
        refine (throw_ok _).mono ?_
        rintro e w5 ⟨rfl, rfl⟩
        have HBK := Lib.hid (bytes_ok (hI.out.2.1.below HB4.out) m1 (by omega))
        go_wp2_with fail
        refine HBK.out.mono ?_
        rintro e w5 ⟨⟨A5, c5, rfl, _⟩, hcu5, hm5⟩
        have HC5 := Lib.hid hcu5
        have HM5 := Lib.hid (Mod.trans (Mod.trans hI.out.2.2.1 (.of_below HB4.out)) hm5)
        have HO5 := Lib.hid (owns_keep (owns_keep (S := fun _ _ => True) hI.out.1 (.of_below HB4.out) fun _ _ _ => trivial) hm5 fun g hg _ => by have h1 := (hI.out.1.lt g hg).1; have h2 := H.out.lt; show ¬ g = p; omega)
        clear hcu5 hm5
        by_cases h1 : hd0 ≤ 1
        · have HD2 := Lib.hid (show decide ((1 : Int) < (hd0 : Int)) = false by simp; omega)
          have hst1 := HST.out
          rw [hbody, if_pos h1] at hst1
          have hbad := HR1.out.trans (drun_bad l a (by omega) (by rw [hst1]; decide))
          rw [hst1] at hbad
          have HBAD := Lib.hid hbad
          clear hst1 hbad
          go_wp2_with fail
          rw [HD2.out]
          refine (check_false 7 _ (by decide)).mono ?_
          rintro e w6 ⟨rfl, rfl⟩
          exact ⟨rfl, HM5.out, .inr (by rw [HBAD.out]; exact ⟨by decide, rfl⟩)⟩
        · have HD2 := Lib.hid (show decide ((1 : Int) < (hd0 : Int)) = true by simp; omega)
          have hst1 := HST.out
          rw [hbody_raw, if_neg h1] at hst1
          obtain ⟨raw, hraw⟩ : ∃ raw, (if hd0 % 2 = 0 then rone k (N - m) (hd0 / 2) (xs.drop (a + m1)) else rpak k (N - m) (hd0 / 2) (xs.drop (a + m1))) = raw := ⟨_, rfl⟩
          have hfit : Fitl k raw.1 := by rw [← hraw]; split; exact raw_fit hk2; exact rawp_fit hk2
          rw [hraw] at hst1
          have HSTR := Lib.hid hst1
          have HRAW := Lib.hid hraw
          have HFIT := Lib.hid hfit
          have hand : bits .and .u64 (hd0 : Int) 1 = (hd0 : Int) % 2 := by have h2 := and_mask_u64 (hd0 : Int) 1 (by decide) (by omega) hg5; simpa using h2
          clear hst1 hraw hfit HST
          go_wp2_with fail
          rw [HD2.out]
          refine (check_true 7 _).mono ?_
          rintro e w6 ⟨rfl, rfl⟩
          go_upto_if 39 with fail
          have hef1 : ∀ args w, (callFunc 62 args).run Try.prog w = .ok (.enter 62 args) w := enters_f Try.func62 (by kernel_rfl) rfl
          have hef2 : ∀ args w, (callFunc 63 args).run Try.prog w = .ok (.enter 63 args) w := enters_f Try.func63 (by kernel_rfl) rfl
          have HEF := Lib.hid (And.intro hef1 hef2)
          clear hef1 hef2
          go_cut [9] from 18 to 60 (fun s9 wx => ∃ f : FuncId, s9 = .func (.func f) #[] #[] ∧ w5 = wx ∧ Hid ((∀ args w, (callFunc f args).run Try.prog w = .ok (.enter f args) w) ∧ Calls Try.prog f #[.pointer (some ⟨p, 0, none⟩), .int .u64 ((hd0 : Int) / 2), .int .i64 k, .int .i64 ((N : Int) - (m : Int))] w5 (RawP p A n c xs (a + m1) w5 raw)))
          case first =>
            by_cases h2 : hd0 % 2 = 0
            · have hb2 : ((hd0 : Int) % 2 == 1) = false := by simp; omega
              have h3 := one_any HC5.out (hd0 / 2) k (N - m) (by omega) hk2 (by omega)
              have h4 := HRAW.out
              rw [if_pos h2] at h4
              rw [h4, show ((hd0 / 2 : Nat) : Int) = (hd0 : Int) / 2 by omega, show ((N - m : Nat) : Int) = (N : Int) - (m : Int) by omega] at h3
              have H3 := Lib.hid h3
              clear h3 h4 h2
              go_wp2_with fail
              go_meet
              exact ⟨_, rfl, rfl, Lib.hid ⟨HEF.out.1, H3.out⟩⟩
            · have hb2 : ((hd0 : Int) % 2 == 1) = true := by simp; omega
              have h3 := packed_any HC5.out (hd0 / 2) k (N - m) (by omega) hk2 (by omega)
              have h4 := HRAW.out
              rw [if_neg h2] at h4
              rw [h4, show ((hd0 / 2 : Nat) : Int) = (hd0 : Int) / 2 by omega, show ((N - m : Nat) : Int) = (N : Int) - (m : Int) by omega] at h3
              have H3 := Lib.hid h3
              clear h3 h4 h2
              go_wp2_with fail
              go_meet
              exact ⟨_, rfl, rfl, Lib.hid ⟨HEF.out.2, H3.out⟩⟩
          case rest =>
            obtain ⟨f, rfl, rfl, hcf⟩ := hcut
            have hef := hcf.out.1
            have hcb5 : w5.cell? ⟨bN, 0, none⟩ = some (.int .i64 (N : Int)) := cell_of_one (HBX.out.keep HM5.out hbp)
            have HCF := Lib.hid hcf.out.2
            have HM5' := HM5
            clear hcf HEF
            go_wp2_with fail
            refine HCF.out.mono ?_
            rintro e w6 ⟨hm6, ⟨h0, ⟨A6, m6, c6, rfl, hr6, hn6⟩, hcu6⟩ | ⟨h0, rfl⟩⟩
            · have hs1 := HSTR.out
              unfold rlift at hs1
              rw [if_neg (by simp [h0])] at hs1
              have hok := hstep_ok hk2 (HBY.out.drop a) (show N - m ≠ 0 by omega) (by rw [hs1])
              rw [hs1] at hok
              simp only [List.length_map] at hok
              have hsr := HR1.out.trans (drun_step l a (show N - m ≠ 0 by omega) (by rw [hs1]) (by rw [hs1]; simp only [List.length_map]; exact hok.2.1))
              rw [hs1, List.drop_drop] at hsr
              simp only [List.length_map] at hsr
              obtain ⟨q, hq⟩ : ∃ q, raw.2.1 = q := ⟨_, rfl⟩
              obtain ⟨us, hus⟩ : ∃ us, raw.1 = us := ⟨_, rfl⟩
              have hfu := HFIT.out
              rw [hq] at hsr hcu6
              rw [hus] at hsr hr6 hok hfu
              have hrl := hr6.len
              rw [hrl] at hsr hok
              have HO6 := Lib.hid (owns_keep HO5.out hm6 fun g hg _ => by have h1 := (HO5.out.lt g hg).1; have h2 := H.out.lt; show ¬ g = p; omega)
              have HN6 := Lib.hid (show ∀ b, (∃ o, A6 = some ⟨b, o, none⟩) → b < w6.heap.size ∧ (Value.slice A' m c').ownBlock ≠ some b from fun b ⟨o, e⟩ => ⟨by
                obtain ⟨b', o', e', hb', _⟩ := hr6.get (by omega)
                rw [e] at e'; injection e' with e'; injection e' with e1 e2; omega, fun e2 => by
                have h1 := (HO5.out.lt b e2).2
                have h2 := hn6 b o e
                omega⟩)
              have HM6 := Lib.hid (Mod.trans HM5.out hm6)
              have HC6 := Lib.hid hcu6
              have HR6 := Lib.hid hr6
              have HSR := Lib.hid hsr
              have HFU := Lib.hid (And.intro hfu hrl)
              obtain ⟨hm61, hm62, _, _⟩ := hok
              clear hs1 hsr hq hus hfu hr6 hcu6 hm6 hn6 hrl h0 HSTR HRAW HFIT
              go_wp2_with fail
              go_loopg [5, 51] m6 (fun g v5 v51 wr => ∃ i : Nat, v51 = .int .i64 i ∧ i ≤ m6 ∧ g = m6 - i ∧ ∃ A2 c2, v5 = .slice A2 (m + i) c2 ∧ Hid (Owns wr w.heap.size 2 .i64 A2 (m + i) c2 (l ++ (us.take i).map zag) ∧ Cur wr p A n c xs (a + m1 + q) ∧ Mod (· = p) w wr ∧ Rd wr .u64 A6 m6 c6 us ∧ ∀ b, (∃ o, A6 = some ⟨b, o, none⟩) → b < wr.heap.size ∧ (Value.slice A2 (m + i) c2).ownBlock ≠ some b))
              case atStart => exact ⟨0, rfl, by omega, by omega, A', c', rfl, Lib.hid ⟨by simpa using HO6.out, HC6.out, HM6.out, HR6.out, HN6.out⟩⟩
              case round =>
                obtain ⟨i, rfl, hi, rfl, A2, c2, rfl, hJ⟩ := hrel
                by_cases hlt2 : i < m6
                · obtain ⟨b', o, rfl, hbl, hc⟩ := hJ.out.2.2.2.1.get (by omega)
                  have hcell := hc i hlt2
                  rw [List.getD_eq_getElem?_getD] at hcell
                  have e1 := map_take_snoc (l := us) (k := i) zag (by rw [HFU.out.2]; omega)
                  have hx := HFU.out.1 (us[i]?.getD 0) (by rw [List.getElem?_eq_getElem (by rw [HFU.out.2]; omega)]; exact List.getElem_mem _)
                  obtain ⟨x, hxe⟩ : ∃ x, us[i]?.getD 0 = x := ⟨_, rfl⟩
                  rw [hxe] at hcell e1 hx
                  have HZ := Lib.hid (fun w => zag_any x w hx.1 (zag_fit hx.1 hx.2 hk2))
                  have E1 := Lib.hid e1
                  clear hc e1 hx hxe
                  go_wp2_with fail
                  refine (HZ.out _).mono ?_
                  rintro e w7 ⟨rfl, rfl⟩
                  go_wp2_with (at_builtin; refine wpList_append_r rfl rfl elemI64 (hJ.out.1.alloc _) rfl (RdV.one (Box.new _ _ _)) rfl one_one (by omega) (by omega) (by have := hJ.out.2.2.1.size; simp; omega) ?_; intro A3 c3 w8 hown hg hat)
                  have hgr := Cu.grown H.out (Mod.trans hJ.out.2.2.1 (.alloc _ _ _)) (hJ.out.2.1.alloc' _) (hJ.out.1.alloc _) (Nat.le_refl _) hg
                  have hne := fun b hb => own_ne hat (hJ.out.2.2.2.2 b hb).2 (by have := (hJ.out.2.2.2.2 b hb).1; simp; omega)
                  have hr8 := (hJ.out.2.2.2.1.alloc _).keep hg.size (fun b hb he => hg.block b hb (fun e => (hJ.out.2.2.2.2 b he).2 e.symm))
                  have hsz := hg.size
                  have HSZ := Lib.hid hsz
                  have HG := Lib.hid hgr
                  have HNE := Lib.hid hne
                  have HR8 := Lib.hid hr8
                  have HO8 := Lib.hid (owns_snoc hown)
                  clear hgr hown hg hat hne hr8 hsz
                  go_roundg (m6 - (i + 1))
                  case measure => omega
                  case rel => exact ⟨i + 1, by go_num, by omega, rfl, A3, c3, rfl, Lib.hid ⟨by rw [← E1.out, ← List.append_assoc]; exact HO8.out, HG.out.1, HG.out.2, HR8.out, fun b hb => ⟨by have h1 := (hJ.out.2.2.2.2 b hb).1; have h2 := HSZ.out; simp at h2; omega, HNE.out b hb⟩⟩⟩
                · obtain rfl : i = m6 := by omega
                  go_wp2_with fail
                  go_roundg (N - (m + i))
                  case measure => omega
                  case rel =>
                    refine ⟨m + i, A2, c2, l ++ us.map zag, a + (m1 + q), rfl, by omega, rfl, Lib.hid ⟨?_, ?_, hJ.out.2.2.1, ?_⟩⟩
                    · have h1 := hJ.out.1
                      rwa [List.take_of_length_le (by rw [HFU.out.2]; exact Nat.le_refl _)] at h1
                    · rw [← Nat.add_assoc]; exact hJ.out.2.1
                    · rw [HSR.out, Nat.sub_add_eq]
            · have hst2 := HSTR.out
              unfold rlift at hst2
              rw [if_pos h0] at hst2
              have hbad := HR1.out.trans (drun_bad l a (by omega) (by rw [hst2]; exact h0))
              rw [hst2] at hbad
              exact ⟨rfl, Mod.trans HM5.out hm6, .inr (by rw [hbad]; exact ⟨h0, rfl⟩)⟩
      · have H0 := Lib.hid he
        have hgl := hstep_eq k (N - m) (xs.drop a)
        rw [hg, if_pos he] at hgl
        have hbad := hR1.trans (drun_bad l a (by omega) (by rw [hgl]; exact he))
        rw [hgl] at hbad
        have HBAD := Lib.hid hbad
        have HGET := Lib.hid hget
        clear hba hpk hg hget hR1 hgl hbad he
        go_wp2_with fail
        refine HPK.out.mono ?_
        rintro e w4 ⟨A4, n4, c4, rfl, ho4, hb4⟩
        have HB4 := Lib.hid hb4
        have HO4 := Lib.hid (Rd.own ho4)
        clear ho4 hb4
        go_wp2_with fail
        refine (HGET.out _ _ _ _ HO4.out).mono ?_
        rintro e w5 ⟨rfl, rfl⟩
        go_wp2_with fail
        refine (throw_any _ _ H0.out).mono ?_
        rintro e w5 ⟨rfl, rfl⟩
        exact ⟨rfl, Mod.trans hI.out.2.2.1 (.of_below HB4.out), .inr (by rw [HBAD.out]; exact ⟨H0.out, rfl⟩)⟩
    · obtain rfl : m = N := by omega
      have hR1 := hI.out.2.2.2
      rw [Nat.sub_self, drun_end] at hR1
      have HR1 := Lib.hid hR1
      clear hR1
      go_wp2
      go_ret
      exact ⟨hI.out.2.2.1, .inl (by rw [HR1.out]; exact ⟨rfl, ⟨A', m, c', rfl, hI.out.1⟩, hI.out.2.1⟩)⟩
end Go.Proofs.Ytbfnaigefmdcdaa

namespace Go.Proofs.Ytbfnaigefmdcdaa
open Go.RowKit Go.Cor Go.Free

set_option maxRecDepth 100000 in
set_option maxHeartbeats 2000000 in
theorem hDecode_any (w : World) (A : Option Addr) (n c : Nat) (ys : List Int) (N : Int) (h : Rd w .u8 A n c ys) (hby : By ys) (hn : n ≤ 100000) :
    Calls Try.prog 31 #[.agg #[], .slice A n c, .int .i64 N] w (DecG w.heap.size w hdec ys N) := by
  have hmf : ∀ (fn : Fn) (first cap : Array Value) (w : World), (Instr.makeFunc fn first cap).run Try.prog w = .ok (.func fn first cap) w := fun _ _ _ _ => rfl
  obtain ⟨w2, hw2⟩ : ∃ w2, (w.alloc (.cells #[] 47)).alloc (.cells #[.int .i64 N] 3) = w2 := ⟨_, rfl⟩
  have hb2 : Below w.heap.size w w2 := by rw [← hw2]; exact ((Below.refl _ _).alloc (Nat.le_refl _) _).alloc (by simp) _
  have hbx : Box w2 (w.heap.size + 1) 3 (.int .i64 N) := by rw [← hw2]; have := Box.new (w.alloc (.cells #[] 47)) 3 (.int .i64 N); rwa [World.size_alloc] at this
  have hs2 : w2.heap.size = w.heap.size + 2 := by rw [← hw2]; simp
  have hcell := cell_of_one hbx
  have eg1 : ∀ args w, (callFunc 55 args).run Try.prog w = .ok (.enter 55 args) w := enters_f Try.func55 (by kernel_rfl) rfl
  have hrd := read_any w2 A n c ys (h.below hb2) hn hby N 55 #[.pointer (some ⟨w.heap.size + 1, 0, none⟩)] (hrun N.toNat ys).1 (hrun N.toNat ys).2.1 (hrun N.toNat ys).2.2 eg1
    (fun hbk w4 p A1 c1 hb4 hcu hp => by
      have hN := of_decide_eq_true hbk
      obtain ⟨M, rfl⟩ := Int.eq_ofNat_of_zero_le (show 0 ≤ N by omega)
      exact hdec1 hcu (hbx.below hb4 (by omega)) (by omega) (by omega))
  have HP := Lib.hid (show hdec ys N = (rlist N n (hrun N.toNat ys).2.1 (hrun N.toNat ys).2.2 (hrun N.toNat ys).1, rerr N n (hrun N.toNat ys).2.1 (hrun N.toNat ys).2.2) by unfold hdec decOf; rw [h.len])
  have HR := Lib.hid hrd
  have HB2 := Lib.hid hb2
  clear h hby hn hb2 hbx hs2 eg1 hrd
  go_enter Try.func31, Try.ntmps31
  go_wp2_with fail
  refine HR.out.mono ?_
  rintro e w5 ⟨A', m, c', rfl, hown, hb5⟩
  have HO := Lib.hid (owns_weak hown HB2.out.size)
  have HB5 := Lib.hid (HB2.out.trans (hb5.mono HB2.out.size))
  clear hown hb5
  go_wp2
  go_ret2
  exact ⟨A', m, c', by rw [HP.out]; rfl, by rw [HP.out]; exact HO.out, HB5.out⟩
theorem hybD : Decer 47 31 hdec :=
  ⟨mh_decode, mh_ahead, enters_f Try.func31 (by kernel_rfl) rfl, fun w A n c ys N h hb hn => hDecode_any w A n c ys N h hb hn⟩
end Go.Proofs.Ytbfnaigefmdcdaa
