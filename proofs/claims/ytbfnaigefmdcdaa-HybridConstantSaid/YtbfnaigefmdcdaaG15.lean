/-
  Chapter 10: Takes, Size.
  Chapter 10: Encode.
-/
import Derived.Test.YtbfnaigefmdcdaaG7
import Derived.Test.YtbfnaigefmdcdaaG14
namespace Go.Cor
open Go Go.RowKit
/-- the bytes of the runs that were told -/
def hbytes (k : Nat) (zs : List Int) (pre : List (Nat × Nat × Nat)) : List Int := (pre.map fun x => hput k x.1 ((zs.drop x.2.1).take x.2.2)).flatten
theorem hbytes_snoc (k : Nat) (zs : List Int) (pre : List (Nat × Nat × Nat)) (x : Nat × Nat × Nat) : hbytes k zs (pre ++ [x]) = hbytes k zs pre ++ hput k x.1 ((zs.drop x.2.1).take x.2.2) := by simp [hbytes]
theorem hbytes_all (k : Nat) (zs : List Int) : hbytes k zs (hlist 0 zs) = hrest k zs := by
  have := hlist_rest k zs _ 0 rfl
  rw [List.drop_zero] at this; exact this
theorem hbytes_le {k : Nat} {zs : List Int} {pre : List (Nat × Nat × Nat)} (h : pre <+: hlist 0 zs) (hk : k ≤ 64) (hz : zs.length ≤ 1024) : (hbytes k zs pre).length ≤ 17474 := by
  obtain ⟨r, hr⟩ := h
  have h1 := hrest_len hk _ zs rfl (by omega)
  rw [← hbytes_all, ← hr] at h1
  unfold hbytes at h1 ⊢
  rw [List.map_append, List.flatten_append, List.length_append] at h1
  omega
theorem run_in {zs : List Int} {pre : List (Nat × Nat × Nat)} {x : Nat × Nat × Nat} (h : (pre ++ [x]) <+: hlist 0 zs) : x.1 ≤ zs.length ∧ 0 < x.2.2 ∧ x.2.1 + x.2.2 ≤ zs.length := by
  have h1 := hlist_in _ 0 rfl x (zs := zs) (by rw [List.drop_zero]; exact h.subset (by simp))
  exact h1
/-- the size so far -/
def hsum (k : Nat) (zs : List Int) (pre : List (Nat × Nat × Nat)) : Int := 1 + (hbytes k zs pre).length
/-- a row that is not empty, of the call's own -/
theorem owns_addr {w : World} {B : Nat} {E : TypeId} {k : IntKind} {A : Option Addr} {n c : Nat} {xs : List Int} (h : Owns w B E k A n c xs) (hn : 0 < n) : ∃ g, A = some ⟨g, 0, none⟩ ∧ B ≤ g ∧ g < w.heap.size := by
  rcases h.2 with ⟨h1, h2⟩ | ⟨g, cap, cur, h1, hB, hg, _⟩
  · omega
  · injection h1 with e1 e2 e3
    exact ⟨g, e1, hB, lt_of_block hg⟩
end Go.Cor
namespace Go.Proofs.Ytbfnaigefmdcdaa
open Go.RowKit Go.Cor Go.Free
attribute [local go_sem] Oper.semAt_some

theorem runs_any (A : Option Addr) (n c : Nat) (w : World) :
    Calls Try.prog 48 #[.slice A n c] w fun e w' => e = .returned (.func (.func 75) #[] #[.pointer (some ⟨w.heap.size, 0, none⟩)]) ∧ w.alloc (.cells #[.slice A n c] 62) = w' := by
  go_enter Try.func48, Try.ntmps48
  go_wp2
  go_ret
  exact ⟨rfl, rfl⟩
theorem hTakes_any (A : Option Addr) (n c : Nat) (w : World) : Calls Try.prog 34 #[.agg #[], .slice A n c] w fun e w' => e = .returned (.bool (blk n)) ∧ Below w.heap.size w w' := by
  go_enter Try.func34, Try.ntmps34
  go_wp2_with fail
  refine (block_any n _).mono ?_
  rintro e w' ⟨rfl, rfl⟩
  go_wp2
  go_ret
  exact ⟨rfl, (Below.refl _ _).alloc (Nat.le_refl _) _⟩
theorem mh_takes (w : World) : (method 248 47 (.agg #[]) "Takes").run Try.prog w = .ok (34, .agg #[]) w := by kernel_rfl
theorem mh_encode (w : World) : (method 248 47 (.agg #[]) "Encode").run Try.prog w = .ok (33, .agg #[]) w := by kernel_rfl
theorem mh_size (w : World) : (method 248 47 (.agg #[]) "Size").run Try.prog w = .ok (26, .agg #[]) w := by kernel_rfl
theorem mh_decode (w : World) : (method 248 47 (.agg #[]) "Decode").run Try.prog w = .ok (31, .agg #[]) w := by kernel_rfl
theorem mh_ahead (w : World) : (nilAhead 248 47 (.agg #[]) "Decode").run Try.prog w = .ok (some false) w := by kernel_rfl
theorem hybT : Taker 47 34 tkAll :=
  ⟨mh_takes, enters_f Try.func34 (by kernel_rfl) rfl, fun w A n c xs h _ _ => by rw [tak_all, h.len]; exact hTakes_any A n c w⟩

set_option maxRecDepth 100000 in
set_option maxHeartbeats 2000000 in
theorem hSize_any (w : World) (A : Option Addr) (n c : Nat) (xs : List Int) (h : Rd w .i64 A n c xs) (hi : In .i64 xs) (hn : n ≤ 1100) :
    Calls Try.prog 26 #[.agg #[], .slice A n c] w fun e w' => e = .returned (.int .i64 (if tak tkAll xs then ((hform xs).length : Int) else 0)) ∧ Below w.heap.size w w' := by
  have hk : tak tkAll xs = blk n := by rw [tak_all, h.len]
  have ht := hTakes_any A n c
  rw [hk]
  obtain ⟨q, hq⟩ : ∃ q, blk n = q := ⟨_, rfl⟩
  rw [hq] at ht ⊢
  have HT := Lib.hid ht
  cases q with
  | false =>
    clear ht hq h hi hk
    go_enter Try.func26, Try.ntmps26
    go_wp2_with fail
    refine (HT.out _).mono ?_
    rintro e w1 ⟨rfl, hb⟩
    go_wp2
    go_ret
    exact ⟨rfl, ((Below.refl _ _).alloc (Nat.le_refl _) _).trans (hb.mono (by simp))⟩
  | true =>
    have hN := of_decide_eq_true hq
    have hn2 : n ≤ 1024 := by omega
    have hlen := h.len
    have hz := zigs_any A n c xs
    have hzl : (xs.map zig).length = n := by simp [hlen]
    have hmb := most_bd (zigs_u64 hi)
    have hfit := most_fit (zigs_fit xs)
    have hform_eq : hform xs = most (xs.map zig) :: hrest (most (xs.map zig)).toNat (xs.map zig) := rfl
    obtain ⟨zs, hzs⟩ : ∃ zs, xs.map zig = zs := ⟨_, rfl⟩
    rw [hzs] at hz hzl hmb hfit hform_eq
    obtain ⟨k, hke⟩ := Int.eq_ofNat_of_zero_le hmb.1
    have hk64 : k ≤ 64 := by omega
    have HZ := Lib.hid (fun w h => hz w h hi (by omega))
    unfold RetZig at HZ
    rw [hke] at HZ hform_eq hfit
    rw [Int.toNat_natCast] at hform_eq hfit
    have HF := Lib.hid hform_eq
    have HL := Lib.hid hzl
    have H := Lib.hid h
    have hn0 : 0 < n := by omega
    clear ht hq hk h hi hlen hz hzs hmb hfit hke hform_eq hzl hN hn
    refine (callsIn_wide (n := 0)).1 (callsIn_of_wp_marks (F := Fence.wide) Try.func26 rfl trivial ?_ rfl)
    simp only [Try.ntmps26, List.size_toArray, List.length_cons, List.length_nil, Nat.reduceAdd, Nat.reduceSub, Array.replicate_succ, Array.replicate_zero, List.push_toArray, List.append_toArray, List.nil_append, List.cons_append]
    gi_wp2_with (first
      | (refine ⟨trivial, rfl, ?_⟩; gi_at_call 34; refine (callsIn_wide.2 (HT.out _)).mono ?_; rintro e w1 ⟨rfl, hb1⟩; have HB1 := Lib.hid (((Below.refl w.heap.size w).alloc (Nat.le_refl _) (.cells #[] 47)).trans (hb1.mono (by simp))); clear hb1)
      | (refine ⟨trivial, rfl, ?_⟩; gi_at_call 47; refine (callsIn_wide.2 (HZ.out _ (H.out.below HB1.out))).mono ?_; rintro e w2 ⟨A2, n2, c2, rfl, ho2, hb2⟩; have HO2 := Lib.hid (owns_weak ho2 HB1.out.size); have HB2 := Lib.hid (HB1.out.trans (hb2.mono HB1.out.size)); clear ho2 hb2)
      | (refine ⟨trivial, rfl, ?_⟩; gi_at_call 48; refine (callsIn_wide.2 (runs_any _ _ _ _)).mono ?_; rintro e w3 ⟨rfl, rfl⟩))
    obtain rfl : n2 = n := by have h1 := row_len HO2.out; have := HL.out; omega
    obtain ⟨g, rfl, hgB, hgl⟩ := owns_addr HO2.out hn0
    obtain ⟨p, hp⟩ : ∃ p, w2.heap.size = p := ⟨_, rfl⟩
    obtain ⟨W0, hW0⟩ : ∃ W0, ((w2.alloc (.cells #[.int .i64 k] 3)).alloc (.cells #[.int .i64 1] 3)).alloc (.cells #[.slice (some ⟨g, 0, none⟩) n2 c2] 62) = W0 := ⟨_, rfl⟩
    have hs0 : W0.heap.size = p + 3 := by rw [← hW0, ← hp]; simp
    have hb6 : Box W0 p 3 (.int .i64 (k : Int)) := by rw [← hW0, ← hp]; exact ((Box.new _ _ _).alloc _).alloc _
    have hb7 : Box W0 (p + 1) 3 (.int .i64 1) := by rw [← hW0, ← hp]; have h1 := (Box.new (w2.alloc (.cells #[.int .i64 k] 3)) 3 (.int .i64 1)).alloc (.cells #[.slice (some ⟨g, 0, none⟩) n2 c2] 62); rwa [World.size_alloc] at h1
    have hbb : Box W0 (p + 2) 62 (.slice (some ⟨g, 0, none⟩) n2 c2) := by rw [← hW0, ← hp]; have h1 := Box.new ((w2.alloc (.cells #[.int .i64 k] 3)).alloc (.cells #[.int .i64 1] 3)) 62 (.slice (some ⟨g, 0, none⟩) n2 c2); rwa [World.size_alloc, World.size_alloc] at h1
    have hbl : Below w.heap.size w W0 := by
      have hsz := HB2.out.size
      rw [← hW0]; exact ((HB2.out.alloc hsz _).alloc (by simp; omega) _).alloc (by simp; omega) _
    have hwp : w.heap.size ≤ p := by rw [← hp]; exact HB2.out.size
    rw [hp] at hgl
    have hoz : Owns W0 w.heap.size 45 .u64 (some ⟨g, 0, none⟩) n2 c2 zs := by rw [← hW0]; exact ((HO2.out.alloc _).alloc _).alloc _
    rw [hp, hW0]
    have hit := runs_iter g 0 c2 n2 zs (p + 2) W0 (Rd.own hoz) hbb (by omega) (by omega)
    have HFO := Lib.hid (show 0 < p by omega)
    clear HB2 HO2 HB1 hW0 hp hbb
    refine wpIn_range (w0 := W0) (encs := runE g 0 c2) rfl (enters_f Try.func75 (by kernel_rfl) rfl) hit (Keep.refl _ _) (fun k hk => by rcases hk with hk | hk <;> omega) (fun k hk => by omega) (fun _ => rfl)
      (fun pre W => Box W p 3 (.int .i64 (k : Int)) ∧ Box W (p + 1) 3 (.int .i64 (hsum k zs pre)) ∧ Below w.heap.size w W) ?stab ?start ?round ?done
    case stab =>
      rintro pre W W' ⟨h1, h2, h4⟩ hk
      exact ⟨h1.keep hk ⟨by omega, fun h => h1.cells h.2⟩, h2.keep hk ⟨by omega, fun h => h2.cells h.2⟩, h4.trans (below_keep hk (by have := h4.size; omega) (fun k hk => ⟨by omega, fun h => by omega⟩))⟩
    case start => exact ⟨hb6, hb7, hbl⟩
    case round =>
      intro l pre x W hpre hI hsz
      obtain ⟨h1, h2, h3⟩ := run_in hpre
      have hpl := hbytes_le hpre hk64 (by have := HL.out; omega)
      have hsn := hbytes_snoc k zs pre x
      have hsn2 := congrArg List.length hsn
      rw [List.length_append] at hsn2
      obtain ⟨o, f, m⟩ := x
      simp only at h1 h2 h3 hsn2
      have hul : ((zs.drop f).take m).length = m := by rw [List.length_take, List.length_drop]; omega
      have HSZ := Lib.hid (fun w => rsize_any o (some ⟨g, 0 + f, none⟩) m (c2 - f) ((zs.drop f).take m) k w hul hk64 (by have := HL.out; omega) (by have := HL.out; omega))
      obtain ⟨q, hq⟩ : ∃ q, (hput k o ((zs.drop f).take m)).length = q := ⟨_, rfl⟩
      rw [hq] at HSZ hsn2
      obtain ⟨S, hS⟩ : ∃ S, hsum k zs pre = S := ⟨_, rfl⟩
      obtain ⟨S', hS'⟩ : ∃ S', hsum k zs (pre ++ [(o, f, m)]) = S' := ⟨_, rfl⟩
      have hsum1 : S' = S + q ∧ 0 ≤ S ∧ S' ≤ 17475 := by rw [← hS, ← hS']; unfold hsum; omega
      rw [hS']
      have HS := Lib.hid (And.intro hsum1 hS)
      have HI1 := Lib.hid hI
      have hWp : p + 3 ≤ W.heap.size := by omega
      clear hpre hpl hsn hsn2 h1 h2 h3 hul hq hS hS' hsum1 hI hsz hit hoz hb7 hb6 hbl
      unfold runE runV
      gi_wp2
      refine ⟨?_, ?_, ?_⟩
      · exact Keep.alloc _ _ _
      · exact ⟨HI1.out.1.alloc _, HI1.out.2.1.alloc _, HI1.out.2.2.alloc HI1.out.2.2.size _⟩
      rintro W2 ⟨b6, b7, bl⟩ hst
      rw [HS.out.2] at b7
      obtain ⟨r, hr⟩ : ∃ r, W.heap.size = r := ⟨_, rfl⟩
      have hrun : W2.heap[r]? = some (.cells #[.int .i64 (o : Int), .slice (some ⟨g, f, none⟩) m (c2 - f)] 69 (0, 0)) := by
        have h1 : (W.alloc (.cells #[.int .i64 (o : Int), .slice (some ⟨g, f, none⟩) m (c2 - f)] 69)).heap[r]? = some (.cells #[.int .i64 (o : Int), .slice (some ⟨g, f, none⟩) m (c2 - f)] 69 (0, 0)) := by rw [← hr]; exact heap_alloc_new W _
        refine (hst.block r (by simp; omega) ⟨fun h => h, fun h => ?_⟩).trans h1
        obtain ⟨ob, ho1, ho2⟩ := h.2
        rw [h1] at ho1; cases ho1; simp [Obj.isCells] at ho2
      rw [hr]
      have hrp : p + 3 ≤ r := by omega
      have hr2 : r < W2.heap.size := lt_of_block hrun
      have hp2 : p + 1 < W2.heap.size := by omega
      have c6 := cell_of_one b6
      have c7 := cell_of_one b7
      have r0 : W2.cell? ⟨r, 0, none⟩ = some (.int .i64 (o : Int)) := by simp [World.cell?, hrun]
      have r1 : W2.cell? ⟨r, 1, none⟩ = some (.slice (some ⟨g, f, none⟩) m (c2 - f)) := by simp [World.cell?, hrun]
      obtain ⟨⟨hs1, hs2, hs3⟩, _⟩ := HS.out
      have B7 := Lib.hid b7
      have B6 := Lib.hid b6
      have BL := Lib.hid bl
      rw [Nat.zero_add] at HSZ
      clear b6 b7 bl hst hrun hr HI1 hWp HS
      gi_wp2
      refine wpIn_region_free 5 (by kernel_rfl) (by kernel_rfl) (by kernel_rfl) ?_
      refine chain_val (.int .i64 S) (S := [7]) rfl ?_ ?_
      · intro ρ w' hE hB hs
        have h7 : ρ (.tmp 7) = .pointer (some ⟨p + 1, 0, none⟩) := hs 7 (by decide)
        clear hs
        refine if_t (by rfl) ?_
        have hcl := (hB.cell (p := ⟨p + 1, 0, none⟩) hp2).trans c7
        go_simp
      refine chain_val (runV o (some ⟨g, f, none⟩) m (c2 - f)) (S := [8]) rfl ?_ ?_
      · intro ρ w' hE hB hs
        have h8 : ρ (.tmp 8) = .pointer (some ⟨r, 0, none⟩) := hs 8 (by decide)
        clear hs
        refine if_t (by rfl) ?_
        have hcl := (hB.cell (p := ⟨r, 0, none⟩) hr2).trans r0
        have hcl1 := (hB.cell (p := ⟨r, 1, none⟩) hr2).trans r1
        unfold runV
        go_simp
      refine chain_val (.int .i64 (k : Int)) (S := [6]) rfl ?_ ?_
      · intro ρ w' hE hB hs
        have h6 : ρ (.tmp 6) = .pointer (some ⟨p, 0, none⟩) := hs 6 (by decide)
        clear hs
        refine if_t (by rfl) ?_
        have hcl := (hB.cell (p := ⟨p, 0, none⟩) (show p < W2.heap.size by omega)).trans c6
        go_simp
      refine chain_static (fun v__ _ => v__ = .int .i64 (q : Int)) (stable_eq _) (S := [22, 23]) rfl (Go.Cor.enters_f Try.func49 (by kernel_rfl) rfl) rfl ?_ ?_
      · intro ρ w' hE hB hs
        have h22 : ρ (.tmp 22) = runV o (some ⟨g, f, none⟩) m (c2 - f) := hs 22 (by decide)
        have h23 : ρ (.tmp 23) = .int .i64 (k : Int) := hs 23 (by decide)
        clear hs
        refine ⟨(by rfl), ?_⟩
        simp only [List.map_toArray, List.map_cons, List.map_nil, h22, h23]
        refine (HSZ.out _).mono ?_
        rintro e w3 ⟨rfl, hb⟩
        exact ⟨_, rfl, hb, rfl⟩
      refine chain_val (.int .i64 (S + (q : Int))) (S := [21, 24]) rfl ?_ ?_
      · intro ρ w' hE hB hs
        have h21 : ρ (.tmp 21) = .int .i64 S := hs 21 (by decide)
        have h24 : ρ (.tmp 24) = .int .i64 (q : Int) := hs 24 (by decide)
        clear hs
        refine if_t (by rfl) ?_
        (go_simp <;> exact wrapi64_in _ (by omega) (by omega))
      intro w1 hB1
      simp only [List.reverse_cons, List.reverse_nil, List.nil_append, List.cons_append, Go.Free.Ends, forall_eq, Act.put, List.setIfInBounds_toArray, List.set_cons_zero, List.set_cons_succ]
      have b7 := B7.out.below hB1 hp2
      have b6 := B6.out.below hB1 (show p < W2.heap.size by omega)
      have c7' := cell_of_one b7
      have f7' := free_of_one b7
      have B7' := Lib.hid b7
      have B6' := Lib.hid b6
      have BL' := Lib.hid (BL.out.trans (hB1.mono BL.out.size))
      have HB1 := Lib.hid hB1
      clear b7 b6 hB1 c7 c6 r0 r1
      gi_wp2
      refine ⟨?_, ?_, ?_, ?_⟩
      · refine RoundKeep.trans (.of_below HB1.out) (.setCell _ ?_ _)
        rintro (h | h)
        · simp only at h; omega
        · exact B7'.out.cells h
      · exact B6'.out.far (by simp) _
      · rw [hs1]; exact one_setCell B7'.out
      · exact BL'.out.setCell (p := ⟨p + 1, 0, none⟩) (by simp only; omega) _
    case done =>
      rintro D W hD ⟨h1, h2, h4⟩ hK
      have hc := cell_of_one h2
      rw [show hsum k zs (hlist 0 zs) = ((hform xs).length : Int) by unfold hsum; rw [hbytes_all, HF.out, List.length_cons]; omega] at hc
      gi_wp2
      refine leaves_mark hK (results_tmp rfl _ _ _) ⟨rfl, ?_⟩
      exact h4.trans (below_keep (S := fun _ k => k < w.heap.size) (.putObj _ (by omega) _) (by have := h4.size; omega) (fun k hk => hk))
theorem hybS : Sizer 47 26 tkAll hform :=
  ⟨mh_size, enters_f Try.func26 (by kernel_rfl) rfl, hSize_any⟩
end Go.Proofs.Ytbfnaigefmdcdaa

namespace Go.Cor
open Go Go.RowKit
theorem runs_fit {k : Nat} {zs : List Int} (h : Fitl k zs) (f m : Nat) : Fitl k ((zs.drop f).take m) := (h.drop f).take m
theorem runs_in {zs : List Int} (h : In .u64 zs) (f m : Nat) : In .u64 ((zs.drop f).take m) := fun x hx => h x (List.mem_of_mem_drop (List.mem_of_mem_take hx))
end Go.Cor
namespace Go.Proofs.Ytbfnaigefmdcdaa
open Go.RowKit Go.Cor Go.Free
attribute [local go_sem] Oper.semAt_some

set_option maxRecDepth 100000 in
set_option maxHeartbeats 4000000 in
theorem hEncode_any (w : World) (A : Option Addr) (n c : Nat) (xs : List Int) (h : Rd w .i64 A n c xs) (hi : In .i64 xs) (hn : n ≤ 1100) :
    Calls Try.prog 33 #[.agg #[], .slice A n c] w (EncG w.heap.size w tkAll hform xs) := by
  have hk : tak tkAll xs = blk n := by rw [tak_all, h.len]
  have hkw : wrg tkAll xs = if blk n then 0 else 7 := by rw [wrg_all, h.len]
  have hw := fun w h => wrongG hybT A n c xs w h hi hn
  rw [hkw] at hw
  have HK := Lib.hid hk
  have HKW := Lib.hid hkw
  obtain ⟨q, hq⟩ : ∃ q, blk n = q := ⟨_, rfl⟩
  rw [hq] at hw HK HKW
  have HW := Lib.hid hw
  cases q with
  | false =>
    have H := Lib.hid h
    clear hw hq h hi hk hkw
    go_enter Try.func33, Try.ntmps33
    go_wp2_with fail
    refine (HW.out _ (H.out.alloc _)).mono ?_
    rintro e w1 ⟨rfl, hb⟩
    go_wp2
    go_ret2
    exact ⟨none, 0, 0, by rw [HKW.out]; rfl, by rw [HK.out]; exact owns_nil _ _ _ _, ((Below.refl _ _).alloc (Nat.le_refl _) _).trans (hb.mono (by simp))⟩
  | true =>
    have hN := of_decide_eq_true hq
    have hn2 : n ≤ 1024 := by omega
    have hlen := h.len
    have hz := zigs_any A n c xs
    have hzl : (xs.map zig).length = n := by simp [hlen]
    have hmb := most_bd (zigs_u64 hi)
    have hfit := most_fit (zigs_fit xs)
    have hzu : In .u64 (xs.map zig) := fun x hx => zigs_u64 hi x hx
    have hform_eq : hform xs = most (xs.map zig) :: hrest (most (xs.map zig)).toNat (xs.map zig) := rfl
    obtain ⟨zs, hzs⟩ : ∃ zs, xs.map zig = zs := ⟨_, rfl⟩
    rw [hzs] at hz hzl hmb hfit hform_eq hzu
    obtain ⟨k, hke⟩ := Int.eq_ofNat_of_zero_le hmb.1
    have hk64 : k ≤ 64 := by omega
    have HZ := Lib.hid (fun w h => hz w h hi (by omega))
    unfold RetZig at HZ
    rw [hke] at HZ hform_eq hfit
    rw [Int.toNat_natCast] at hform_eq hfit
    have HF := Lib.hid hform_eq
    have HL := Lib.hid hzl
    have HFIT := Lib.hid (And.intro hfit hzu)
    have H := Lib.hid h
    have hn0 : 0 < n := by omega
    have ek : IntKind.u8.wrap (k : Int) = (k : Int) := wrapu8_in _ (by omega) (by omega)
    have ek2 : (k : Int) % 256 = (k : Int) := by omega
    clear hw hq hk h hi hlen hz hzs hmb hfit hke hform_eq hzl hN hn hkw hzu
    refine (callsIn_wide (n := 0)).1 (callsIn_of_wp_marks (F := Fence.wide) Try.func33 rfl trivial ?_ rfl)
    simp only [Try.ntmps33, List.size_toArray, List.length_cons, List.length_nil, Nat.reduceAdd, Nat.reduceSub, Array.replicate_succ, Array.replicate_zero, List.push_toArray, List.append_toArray, List.nil_append, List.cons_append]
    gi_wp2_with (first
      | (refine ⟨trivial, rfl, ?_⟩; gi_at_call 38; refine (callsIn_wide.2 (HW.out _ (H.out.alloc _))).mono ?_; rintro e w1 ⟨rfl, hb1⟩; have HB1 := Lib.hid (((Below.refl w.heap.size w).alloc (Nat.le_refl _) (.cells #[] 47)).trans (hb1.mono (by simp))); clear hb1)
      | (refine ⟨trivial, rfl, ?_⟩; gi_at_call 47; refine (callsIn_wide.2 (HZ.out _ (H.out.below HB1.out))).mono ?_; rintro e w2 ⟨A2, n2, c2, rfl, ho2, hb2⟩; have HO2 := Lib.hid (owns_weak ho2 HB1.out.size); have HB2 := Lib.hid (HB1.out.trans (hb2.mono HB1.out.size)); clear ho2 hb2)
      | (refine ⟨trivial, rfl, ?_⟩; gi_at_call 48; refine (callsIn_wide.2 (runs_any _ _ _ _)).mono ?_; rintro e w3 ⟨rfl, rfl⟩))
    obtain rfl : n2 = n := by have h1 := row_len HO2.out; have := HL.out; omega
    obtain ⟨g, rfl, hgB, hgl⟩ := owns_addr HO2.out hn0
    obtain ⟨p, hp⟩ : ∃ p, w2.heap.size = p := ⟨_, rfl⟩
    obtain ⟨W0, hW0⟩ : ∃ W0, (((w2.alloc (.cells #[.int .i64 k] 3)).alloc (.cells #[.int .u8 k] 5)).alloc (.cells #[.slice (some ⟨w2.heap.size + 1, 0, none⟩) 1 1] 29)).alloc (.cells #[.slice (some ⟨g, 0, none⟩) n2 c2] 62) = W0 := ⟨_, rfl⟩
    have hs0 : W0.heap.size = p + 4 := by rw [← hW0, ← hp]; simp
    have hwp : w.heap.size ≤ p := by rw [← hp]; exact HB2.out.size
    have hb8 : Box W0 p 3 (.int .i64 (k : Int)) := by rw [← hW0, ← hp]; exact (((Box.new _ _ _).alloc _).alloc _).alloc _
    have hrw : Owns W0 w.heap.size 5 .u8 (some ⟨p + 1, 0, none⟩) 1 1 [(k : Int)] := by
      rw [← hW0, ← hp]
      have h1 := owns_lit1 (w := w2.alloc (.cells #[.int .i64 k] 3)) (B := w.heap.size) (E := 5) (u := .int .u8 (k : Int)) (by simp; omega)
      rw [World.size_alloc] at h1
      exact (h1.alloc _).alloc _
    have hb9 : Box W0 (p + 2) 29 (.slice (some ⟨p + 1, 0, none⟩) 1 1) := by
      rw [← hW0, ← hp]
      have h1 := (Box.new ((w2.alloc (.cells #[.int .i64 k] 3)).alloc (.cells #[.int .u8 k] 5)) 29 (.slice (some ⟨w2.heap.size + 1, 0, none⟩) 1 1)).alloc (.cells #[.slice (some ⟨g, 0, none⟩) n2 c2] 62)
      rwa [World.size_alloc, World.size_alloc] at h1
    have hbb : Box W0 (p + 3) 62 (.slice (some ⟨g, 0, none⟩) n2 c2) := by
      rw [← hW0, ← hp]
      have h1 := Box.new (((w2.alloc (.cells #[.int .i64 k] 3)).alloc (.cells #[.int .u8 k] 5)).alloc (.cells #[.slice (some ⟨w2.heap.size + 1, 0, none⟩) 1 1] 29)) 62 (.slice (some ⟨g, 0, none⟩) n2 c2)
      rwa [World.size_alloc, World.size_alloc, World.size_alloc] at h1
    have hbl : Below w.heap.size w W0 := by
      have hsz := HB2.out.size
      rw [← hW0]; exact (((HB2.out.alloc hsz _).alloc (by simp; omega) _).alloc (by simp; omega) _).alloc (by simp; omega) _
    rw [hp] at hgl
    have hoz : Owns W0 w.heap.size 45 .u64 (some ⟨g, 0, none⟩) n2 c2 zs := by rw [← hW0]; exact (((HO2.out.alloc _).alloc _).alloc _).alloc _
    rw [hp] at hW0
    rw [hp, hW0]
    have hit := runs_iter g 0 c2 n2 zs (p + 3) W0 (Rd.own hoz) hbb (by omega) (by omega)
    clear HB2 HO2 HB1 hW0 hp hbb
    refine wpIn_range (w0 := W0) (encs := runE g 0 c2) rfl (enters_f Try.func75 (by kernel_rfl) rfl) hit (Keep.refl _ _) (fun k hk => by rcases hk with hk | hk <;> omega) (fun k hk => by omega) (fun _ => rfl)
      (fun pre W => Box W p 3 (.int .i64 (k : Int)) ∧ (∃ A m c r, A = some ⟨r, 0, none⟩ ∧ Box W (p + 2) 29 (.slice A m c) ∧ Owns W w.heap.size 5 .u8 A m c ((k : Int) :: hbytes k zs pre) ∧ p < r ∧ r ≠ p + 2 ∧ r ≠ p + 3) ∧ Owns W w.heap.size 45 .u64 (some ⟨g, 0, none⟩) n2 c2 zs ∧ Below w.heap.size w W) ?stab ?start ?round ?done
    case stab =>
      rintro pre W W' ⟨h1, ⟨A, m, c, r, rfl, h2, h3, e1, e2, e3⟩, h4, h5⟩ hk
      refine ⟨h1.keep hk ⟨by omega, fun h => h1.cells h.2⟩, ⟨_, m, c, r, rfl, h2.keep hk ⟨by omega, fun h => h2.cells h.2⟩, owns_keep h3 hk (fun g' hg' hc => ⟨fun e => ?_, fun h => hc h.2⟩), e1, e2, e3⟩, owns_keep h4 hk (fun g' hg' hc => ⟨fun e => ?_, fun h => hc h.2⟩), h5.trans (below_keep hk (by have := h5.size; omega) (fun k hk => ⟨by omega, fun h => by omega⟩))⟩
      · injection hg' with hg'; simp only at hg'; omega
      · injection hg' with hg'; simp only at hg'; omega
    case start => exact ⟨hb8, ⟨_, 1, 1, p + 1, rfl, hb9, by simpa [hbytes] using hrw, by omega, by omega, by omega⟩, hoz, hbl⟩
    case round =>
      intro l pre x W hpre hI hsz
      obtain ⟨h1, h2, h3⟩ := run_in hpre
      have hpl := hbytes_le hpre hk64 (by have := HL.out; omega)
      have hsn := hbytes_snoc k zs pre x
      have hsn2 := congrArg List.length hsn
      rw [List.length_append] at hsn2
      obtain ⟨o, f, m⟩ := x
      simp only at h1 h2 h3 hsn2 hsn
      have HSN := Lib.hid (And.intro hsn (And.intro (show (hbytes k zs pre).length ≤ 17474 by omega) (And.intro h1 (And.intro h2 h3))))
      have HI1 := Lib.hid hI
      have hWp : p + 4 ≤ W.heap.size := by omega
      clear hpre hpl hsn hsn2 h1 h2 h3 hI hsz hit hoz hb9 hb8 hbl hrw
      unfold runE runV
      gi_wp2
      refine ⟨?_, ?_, ?_⟩
      · exact Keep.alloc _ _ _
      · obtain ⟨q1, ⟨A', m', c', r', e0, q2, q3, e1, e2, e3⟩, q4, q5⟩ := HI1.out
        exact ⟨q1.alloc _, ⟨A', m', c', r', e0, q2.alloc _, q3.alloc _, e1, e2, e3⟩, q4.alloc _, q5.alloc q5.size _⟩
      rintro W2 ⟨b8, ⟨A', m', c', r', rfl, b9, o9, e1, e2, e3⟩, oz, bl⟩ hst
      obtain ⟨r, hr⟩ : ∃ r, W.heap.size = r := ⟨_, rfl⟩
      have hrun : W2.heap[r]? = some (.cells #[.int .i64 (o : Int), .slice (some ⟨g, f, none⟩) m (c2 - f)] 69 (0, 0)) := by
        have h1 : (W.alloc (.cells #[.int .i64 (o : Int), .slice (some ⟨g, f, none⟩) m (c2 - f)] 69)).heap[r]? = some (.cells #[.int .i64 (o : Int), .slice (some ⟨g, f, none⟩) m (c2 - f)] 69 (0, 0)) := by rw [← hr]; exact heap_alloc_new W _
        refine (hst.block r (by simp; omega) ⟨fun h => h, fun h => ?_⟩).trans h1
        obtain ⟨ob, ho1, ho2⟩ := h.2
        rw [h1] at ho1; cases ho1; simp [Obj.isCells] at ho2
      rw [hr]
      have hr2 : r < W2.heap.size := lt_of_block hrun
      have hrp : p + 4 ≤ r := by omega
      have c8 := cell_of_one b8
      have c9 := cell_of_one b9
      have r0 : W2.cell? ⟨r, 0, none⟩ = some (.int .i64 (o : Int)) := by simp [World.cell?, hrun]
      have r1 : W2.cell? ⟨r, 1, none⟩ = some (.slice (some ⟨g, f, none⟩) m (c2 - f)) := by simp [World.cell?, hrun]
      obtain ⟨hsn, hsl, h1, h2, h3⟩ := HSN.out
      have hur : Rd W2 .u64 (some ⟨g, f, none⟩) m (c2 - f) ((zs.drop f).take m) := by
        have q1 := ((Rd.own oz).from_ (i := f) (by have := HL.out; omega)).take (m := m) (by have := HL.out; omega)
        rw [Nat.zero_add] at q1; exact q1
      have hm' : m' ≤ 17475 := by have q1 := row_len o9; rw [List.length_cons] at q1; omega
      have hput := rput_any o (some ⟨g, f, none⟩) m (c2 - f) ((zs.drop f).take m) k (some ⟨r', 0, none⟩) m' c' ((k : Int) :: hbytes k zs pre) W2 hur (runs_in HFIT.out.2 f m) (runs_fit HFIT.out.1 f m) h2 hk64 (by have := HL.out; omega) (by have := HL.out; omega) (Rd.own o9) (by omega)
      rw [List.cons_append, ← hsn] at hput
      have HPUT := Lib.hid hput
      have B9 := Lib.hid b9
      have B8 := Lib.hid b8
      have BL := Lib.hid bl
      have OZ := Lib.hid oz
      unfold runV at HPUT
      clear b8 b9 bl oz o9 hst hrun hr HI1 hsn hsl h1 h2 h3 hur hput HSN
      gi_wp2_with (refine ⟨trivial, rfl, ?_⟩; gi_at_call 67; refine CallsIn.inRound l (callsIn_wide.2 (HPUT.out.mono ?_)); rintro e w5 ⟨A5, m5, c5, rfl, ho5, hb5⟩; have hc5 := cell_of_one (B9.out.below hb5 (lt_of_block B9.out)); have hf5 := free_of_one (B9.out.below hb5 (lt_of_block B9.out)))
      have hm5 : 0 < m5 := by have q1 := row_len ho5; rw [List.length_cons] at q1; omega
      obtain ⟨r5, rfl, hr5, _⟩ := owns_addr ho5 hm5
      have b9' := B9.out.below hb5 (lt_of_block B9.out)
      refine ⟨?_, (B8.out.below hb5 (lt_of_block B8.out)).far (p := ⟨p + 2, 0, none⟩) (show p ≠ p + 2 by omega) _, ⟨_, m5, c5, r5, rfl, one_setCell b9', ?_, by omega, by omega, by omega⟩, ?_, ?_⟩
      · refine RoundKeep.trans (.of_below hb5) (.setCell _ ?_ _)
        rintro (h | h)
        · simp only at h; omega
        · exact b9'.cells h
      · exact ownsRow_setCell_other (owns_weak ho5 BL.out.size) (a := ⟨p + 2, 0, none⟩) (fun e => by injection e with e; simp only at e; omega) _
      · exact ownsRow_setCell_other (Owns.below OZ.out hb5) (a := ⟨p + 2, 0, none⟩) (fun e => by injection e with e; simp only at e; omega) _
      · exact (BL.out.trans (hb5.mono BL.out.size)).setCell (p := ⟨p + 2, 0, none⟩) (by simp only; omega) _
    case done =>
      rintro D W hD ⟨h1, ⟨A', m', c', r', rfl, h2, h3, e1, e2, e3⟩, h4, h5⟩ hK
      have hc := cell_of_one h2
      rw [hbytes_all, ← HF.out] at h3
      have H3 := Lib.hid h3
      have H5 := Lib.hid h5
      clear h1 h3 h4 h5
      gi_wp2
      refine leaves_mark hK (results_tmp2 rfl _ _ _) ⟨_, m', c', by rw [HKW.out]; rfl, ?_, ?_⟩
      · rw [HK.out, if_pos rfl]
        exact owns_keep H3.out (S := fun W k => ¬ NonCell W k) (.putObj _ (fun h => h ⟨_, hK, rfl⟩) _) (fun _ _ h => h)
      · exact H5.out.trans (below_keep (S := fun _ k => k < w.heap.size) (.putObj _ (by omega) _) (by have := H5.out.size; omega) (fun k hk => hk))
theorem hybE : Encer 47 33 tkAll hform :=
  ⟨mh_encode, enters_f Try.func33 (by kernel_rfl) rfl, hEncode_any⟩
end Go.Proofs.Ytbfnaigefmdcdaa
