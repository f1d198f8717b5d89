/-
  Chapter 9: the table of shapes; fits, selector, zigs, Takes.
  Chapter 9: zigs, Takes, Size.
  Chapter 9: Decode's reading: a word.
  Chapter 9: Decode's reading: words until all is there.
  Chapter 9: Decode.
-/
import Derived.Deep.MidRow
import Derived.Test.YtaohdbagcfgoeaaDoorG5
import Derived.Test.YtaohdbagcfgoeaaDoorG12
import Derived.Test.YtaohdbagcfgoeaaDoorG13
import Derived.Test.YtaohdbagcfgoeaaDoorG17
import Derived.Test.YtaohdbagcfgoeaaDoorG18
namespace Go.Cor
open Go Go.RowKit
def shpL : List Value := (shp.map fun s => [Value.int .i64 s.1, Value.int .i64 s.2]).flatten
/-- the table of shapes (the program's variable number G) reads as listed -/
def ShpG (G : Nat) (w : World) : Prop := G < w.heap.size ∧ w.rangeAt G 0 shpL
theorem ShpG.keep {G : Nat} (w w' : World) (h : ShpG G w) (hb : Below w.heap.size w w') : ShpG G w' :=
  ⟨Nat.lt_of_lt_of_le h.1 hb.size, fun j v hv => (hb.cell (p := ⟨G, 0 + j, none⟩) h.1).trans (h.2 j v hv)⟩
theorem shpL_at : ∀ k, k < 16 → shpL[k * 2]? = some (.int .i64 (smany k)) ∧ shpL[k * 2 + 1]? = some (.int .i64 (sbits k)) := by
  intro k hk
  have h : k = 0 ∨ k = 1 ∨ k = 2 ∨ k = 3 ∨ k = 4 ∨ k = 5 ∨ k = 6 ∨ k = 7 ∨ k = 8 ∨ k = 9 ∨ k = 10 ∨ k = 11 ∨ k = 12 ∨ k = 13 ∨ k = 14 ∨ k = 15 := by omega
  rcases h with rfl | rfl | rfl | rfl | rfl | rfl | rfl | rfl | rfl | rfl | rfl | rfl | rfl | rfl | rfl | rfl <;> exact ⟨rfl, rfl⟩
theorem ShpG.many {G : Nat} {w : World} (h : ShpG G w) {k : Nat} (hk : k < 16) : w.cell? ⟨G, k * 2, none⟩ = some (.int .i64 (smany k)) := by
  have := h.2 (k * 2) _ (shpL_at k hk).1; rwa [Nat.zero_add] at this
theorem ShpG.bits {G : Nat} {w : World} (h : ShpG G w) {k : Nat} (hk : k < 16) : w.cell? ⟨G, k * 2 + 1, none⟩ = some (.int .i64 (sbits k)) := by
  have := h.2 (k * 2 + 1) _ (shpL_at k hk).2; rwa [Nat.zero_add] at this
end Go.Cor
namespace Go.Proofs.YtaohdbagcfgoeaaDoor
open Go.RowKit Go.Cor Go.Free

/-- the table reads as listed -/
abbrev Shp : World → Prop := ShpG 0
theorem shpKeep : KeepJ Shp := fun w w' h hb => ShpG.keep w w' h hb

set_option maxRecDepth 100000 in
set_option maxHeartbeats 2000000 in
theorem sfits_any (k : Nat) (hk : k < 16) (A : Option Addr) (n c : Nat) (us : List Int) (w : World) (h : Rd w .u64 A n c us) (hu : In .u64 us) :
    Calls Tryd.prog 39 #[.agg #[.int .i64 (smany k), .int .i64 (sbits k)], .slice A n c] w fun e w' => e = .returned (.bool (sfit k us)) ∧ Below w.heap.size w w' := by
  have hl := h.len
  have hq := shp_ok k hk
  obtain ⟨m, hm⟩ : ∃ m, smany k = m := ⟨_, rfl⟩
  obtain ⟨b, hb⟩ : ∃ b, sbits k = b := ⟨_, rfl⟩
  have hF : sfit k us = decide (m ≤ n ∧ ∀ v ∈ us.take m, if b = 0 then v = 1 else v.toNat < 2 ^ b) := by unfold sfit; rw [hm, hb, hl]
  rw [hm, hb] at hq ⊢
  obtain ⟨F, hFe⟩ : ∃ F, sfit k us = F := ⟨_, rfl⟩
  rw [hFe] at hF ⊢
  obtain ⟨hq1, hq2, hq3, _⟩ := hq
  have HF := Lib.hid hF
  have H := Lib.hid h
  have HU := Lib.hid (And.intro hu hl)
  clear h hu hl hm hb hF hFe
  by_cases hmn : n < m
  · have hd : decide ((n : Int) < (m : Int)) = true := by simp; omega
    obtain rfl : F = false := by rw [HF.out]; simp; omega
    go_enter Tryd.func39, Tryd.ntmps39
    go_wp2
    go_ret
    exact ⟨rfl, (Below.refl _ _).alloc (Nat.le_refl _) _⟩
  · have hd : decide ((n : Int) < (m : Int)) = false := by simp; omega
    have hcap := H.out.cap
    go_enter Tryd.func39, Tryd.ntmps39
    go_wp2_with (refine wpList_slice_h (o := ⟨some 15, _, _, _, _, _⟩) rfl rfl elemU64 H.out rfl (kh := .i64) (j := m) rfl (by omega) ?_; intro hrd; clear hrd)
    obtain ⟨W0, hW0⟩ : ∃ W0, w.alloc (.cells #[.int .i64 m, .int .i64 b] 67) = W0 := ⟨_, rfl⟩
    obtain ⟨p, hp⟩ : ∃ p, w.heap.size = p := ⟨_, rfl⟩
    have hbl : Below w.heap.size w W0 := by rw [← hW0]; exact (Below.refl _ _).alloc (Nat.le_refl _) _
    have hc1 : W0.cell? ⟨p, 1, none⟩ = some (.int .i64 b) := by rw [← hW0, ← hp]; unfold World.cell?; simp only [heap_alloc_new]; rfl
    rw [hW0, hp]
    have HB := Lib.hid hbl
    clear hW0 hp hbl
    go_loopg [17] m (fun gg v17 wr => ∃ i : Nat, v17 = .int .i64 i ∧ i ≤ m ∧ gg = m - i ∧ W0 = wr ∧ Hid (∀ t, t < i → if b = 0 then us[t]?.getD 0 = 1 else (us[t]?.getD 0).toNat < 2 ^ b))
    case atStart => exact ⟨0, rfl, by omega, by omega, rfl, Lib.hid (fun t ht => by omega)⟩
    case round =>
      obtain ⟨i, rfl, hi, rfl, rfl, hI⟩ := hrel
      by_cases hlt : i < m
      · obtain ⟨b', o, rfl, hbl, hc⟩ := (H.out.below HB.out).get (by omega)
        have hcell := hc i (by omega)
        rw [List.getD_eq_getElem?_getD] at hcell
        have hxu := HU.out.1 (us[i]?.getD 0) (by rw [List.getElem?_eq_getElem (by have := HU.out.2; omega)]; exact List.getElem_mem _)
        obtain ⟨x, hx⟩ := Int.eq_ofNat_of_zero_le hxu.1
        rw [hx] at hcell hxu
        have hx64 := hxu.2
        have HX := Lib.hid hx
        have hmem : us[i]?.getD 0 ∈ us.take m := by
          rw [List.getElem?_eq_getElem (by have := HU.out.2; omega)]
          exact List.mem_take_iff_getElem.2 ⟨i, by have := HU.out.2; omega, rfl⟩
        have HMEM := Lib.hid hmem
        clear hc hx hxu hmem
        by_cases hb0 : b = 0
        · subst hb0
          by_cases hx1 : x = 1
          · subst hx1
            go_wp2
            go_roundg (m - (i + 1))
            case measure => omega
            case rel =>
              refine ⟨i + 1, by go_num, by omega, rfl, rfl, Lib.hid (fun t ht => ?_)⟩
              by_cases hti : t < i
              · exact hI.out t hti
              · obtain rfl : t = i := by omega
                simpa using HX.out
          · have hne : ((x : Int) != 1) = true := by simp; omega
            have hne2 : ((x : Int) == 1) = false := by simp; omega
            obtain rfl : F = false := by
              rw [HF.out, decide_eq_false_iff_not]
              rintro ⟨_, h2⟩
              have h3 := h2 _ HMEM.out
              rw [if_pos rfl, HX.out] at h3
              omega
            go_wp2
            go_ret
            exact ⟨rfl, HB.out⟩
        · have hbe : ((b : Int) == 0) = false := by simp [hb0]
          have hbd : decide ((0 : Int) < (b : Int)) = true := by simp; omega
          have hsh := shr_nat x b
          obtain ⟨y, hy⟩ : ∃ y, x / 2 ^ b = y := ⟨_, rfl⟩
          rw [hy] at hsh
          have hyx : y = 0 ↔ x < 2 ^ b := by rw [← hy, Nat.div_eq_zero_iff]; have := pow_pos2 b; omega
          have HYX := Lib.hid (And.intro hyx hsh)
          clear hy hyx
          by_cases hy0 : y = 0
          · subst hy0
            go_wp2
            go_roundg (m - (i + 1))
            case measure => omega
            case rel =>
              refine ⟨i + 1, by go_num, by omega, rfl, rfl, Lib.hid (fun t ht => ?_)⟩
              by_cases hti : t < i
              · exact hI.out t hti
              · obtain rfl : t = i := by omega
                rw [if_neg hb0, HX.out, Int.toNat_natCast]
                first | exact HYX.out.1.1 rfl | exact HYX.out.1.1 trivial
          · have hyd : decide ((0 : Int) < (y : Int)) = true := by simp; omega
            obtain rfl : F = false := by
              rw [HF.out, decide_eq_false_iff_not]
              rintro ⟨_, h2⟩
              have h3 := h2 _ HMEM.out
              rw [if_neg hb0, HX.out, Int.toNat_natCast] at h3
              exact hy0 (HYX.out.1.2 h3)
            go_wp2
            go_ret
            exact ⟨rfl, HB.out⟩
      · obtain rfl : i = m := by omega
        obtain rfl : F = true := by
          rw [HF.out, decide_eq_true_iff]
          refine ⟨by omega, fun v hv => ?_⟩
          obtain ⟨t, ht, rfl⟩ := List.mem_take_iff_getElem.1 hv
          have h2 := hI.out t (by omega)
          rwa [List.getElem?_eq_getElem (by omega)] at h2
        go_wp2
        go_ret
        exact ⟨rfl, HB.out⟩

def shpS (k : Nat) : Value := .agg #[.int .i64 (smany k), .int .i64 (sbits k)]
set_option maxRecDepth 100000 in
theorem shp_index (k : Nat) (hk : k < 16) (w : World) : (Instr.index 68 (.agg shpL.toArray) (.int .i64 k)).run Tryd.prog w = .ok (shpS k) w := by
  have h := shpL_at k hk
  have hp : (part 67 shpL.toArray (k * 2)).run Tryd.prog w = .ok (.agg (shpL.toArray.extract (k * 2) (k * 2 + 2))) w := by
    have e1 : (isAgg 67).run Tryd.prog w = .ok true w := by kernel_rfl
    have e2 : (sizeOf 67).run Tryd.prog w = .ok 2 w := by kernel_rfl
    unfold part
    simp only [Sem.run_bind, e1, e2, Result.andThen_ok, if_true, Sem.run_pure]
  have hx : shpL.toArray.extract (k * 2) (k * 2 + 2) = #[.int .i64 (smany k), .int .i64 (sbits k)] := by
    have h0 : k = 0 ∨ k = 1 ∨ k = 2 ∨ k = 3 ∨ k = 4 ∨ k = 5 ∨ k = 6 ∨ k = 7 ∨ k = 8 ∨ k = 9 ∨ k = 10 ∨ k = 11 ∨ k = 12 ∨ k = 13 ∨ k = 14 ∨ k = 15 := by omega
    rcases h0 with rfl | rfl | rfl | rfl | rfl | rfl | rfl | rfl | rfl | rfl | rfl | rfl | rfl | rfl | rfl | rfl <;> rfl
  have e3 : (underlying 68).run Tryd.prog w = .ok (.array 16 67) w := by kernel_rfl
  have e4 : (sizeOf 67).run Tryd.prog w = .ok 2 w := by kernel_rfl
  unfold Instr.index
  simp only [asIntOf, Sem.run_bind, Sem.run_pure, Result.andThen_ok, e3, e4, Int.toNat_natCast]
  rw [if_pos (by omega)]
  simp only [Sem.run_bind, e4, Result.andThen_ok, hp, hx]
  rfl

set_option maxRecDepth 100000 in
set_option maxHeartbeats 2000000 in
theorem sel_any (A : Option Addr) (n c : Nat) (us : List Int) (w : World) (hj : Shp w) (h : Rd w .u64 A n c us) (hu : In .u64 us) :
    Calls Tryd.prog 21 #[.slice A n c] w fun e w' => e = .returned (.tuple #[.int .i64 (if sel us < 16 then (sel us : Nat) else 0), .int .i64 (if sel us < 16 then (smany (sel us) : Nat) else 0)]) ∧ Below w.heap.size w w' := by
  have HF := Lib.hid (fun k hk w h => sfits_any k hk A n c us w h hu)
  have hix := shp_index
  have HJ := Lib.hid hj
  obtain ⟨S1, hS1⟩ : ∃ s : Int, (if sel us < 16 then ((sel us : Nat) : Int) else 0) = s := ⟨_, rfl⟩
  obtain ⟨S2, hS2⟩ : ∃ s : Int, (if sel us < 16 then ((smany (sel us) : Nat) : Int) else 0) = s := ⟨_, rfl⟩
  rw [hS1, hS2]
  have HSS := Lib.hid (And.intro hS1 hS2)
  clear hS1 hS2
  have H := Lib.hid h
  have HIX := Lib.hid hix
  clear hj h hu hix
  go_enter Tryd.func21, Tryd.ntmps21
  go_wp2_with (refine wpList_load_mid rfl 68 (.global 0) rfl 0 0 rfl shpL _ HJ.out.2 Tryd.underlying68 rfl (by kernel_rfl) ?_)
  go_loopg [7] 16 (fun gg v7 wr => ∃ k : Nat, v7 = .int .i64 k ∧ k ≤ 16 ∧ gg = 16 - k ∧ Hid (Below w.heap.size w wr ∧ ∀ j, j < k → sfit j us = false))
  case atStart => exact ⟨0, rfl, by omega, rfl, Lib.hid ⟨Below.refl _ _, fun j hj => by omega⟩⟩
  case round =>
    obtain ⟨k, rfl, hk, rfl, hI⟩ := hrel
    obtain ⟨wo, rfl⟩ : ∃ wo, wo = wr := ⟨_, rfl⟩
    by_cases hlt : k < 16
    · have hd : decide (k < 16) = true := by simp; omega
      have hix := HIX.out k hlt
      unfold shpS at hix
      have hq := shp_ok k hlt
      have hf := HF.out k hlt
      obtain ⟨m, hm⟩ : ∃ m, smany k = m := ⟨_, rfl⟩
      obtain ⟨b, hb⟩ : ∃ b, sbits k = b := ⟨_, rfl⟩
      rw [hm, hb] at hf hix
      have HF2 := Lib.hid hf
      have HM := Lib.hid (And.intro hm hq)
      clear hf hq hm hb
      go_wp2_with fail
      refine (HF2.out _ ((H.out.below hI.out.1).alloc _)).mono ?_
      rintro e w3 ⟨rfl, hb3⟩
      obtain ⟨p, hp⟩ : ∃ p, wo.heap.size = p := ⟨_, rfl⟩
      have hsp : p < (wo.alloc (.cells #[.int .i64 (m : Int), .int .i64 (b : Int)] 67)).heap.size := by rw [World.size_alloc, hp]; omega
      have hc0 : w3.cell? ⟨p, 0, none⟩ = some (.int .i64 m) := by
        refine (hb3.cell (p := ⟨p, 0, none⟩) hsp).trans ?_
        rw [← hp]; unfold World.cell?; simp only [heap_alloc_new]; rfl
      rw [hp]
      have HB3 := Lib.hid ((hI.out.1.alloc hI.out.1.size _).trans (hb3.mono (by have := hI.out.1.size; simp; omega)))
      clear hb3 hsp hp
      by_cases hfk : sfit k us = true
      · have hs := sel_eq hlt hfk hI.out.2
        rw [hfk]
        have h12 := HSS.out
        rw [hs, if_pos hlt, if_pos hlt, HM.out.1] at h12
        obtain ⟨rfl, rfl⟩ := h12
        clear hs
        go_wp2
        go_quiet (fail)
        go_wp2
        go_ret2
        exact ⟨rfl, by have := HB3.out; exact ⟨this.os, this.tape, this.output, this.size, this.block⟩⟩
      · have hfk2 : sfit k us = false := by simpa using hfk
        rw [hfk2]
        go_wp2_with fail
        go_roundg (16 - (k + 1))
        case measure => omega
        case rel =>
          refine ⟨k + 1, by go_num, by omega, rfl, Lib.hid ⟨HB3.out, fun j hj => ?_⟩⟩
          by_cases hjk : j < k
          · exact hI.out.2 j hjk
          · obtain rfl : j = k := by omega
            exact hfk2
    · obtain rfl : k = 16 := by omega
      have hs := sel_none hI.out.2
      have h12 := HSS.out
      rw [hs, if_neg (by decide), if_neg (by decide)] at h12
      obtain ⟨rfl, rfl⟩ := h12
      clear hs
      go_wp2
      go_ret2
      exact ⟨rfl, hI.out.1⟩
end Go.Proofs.YtaohdbagcfgoeaaDoor

namespace Go.Cor
open Go Go.RowKit
theorem stk_false {xs : List Int} {i : Nat} (hi : i < xs.length) (h : ¬ zig (xs[i]?.getD 0) < 1152921504606846976) : stk xs = false := by
  unfold stk
  rw [decide_eq_false_iff_not]
  intro h2
  exact h (h2 _ (by rw [List.getElem?_eq_getElem hi]; exact List.getElem_mem _))
theorem stk_true {xs : List Int} (h : ∀ i, i < xs.length → zig (xs[i]?.getD 0) < 1152921504606846976) : stk xs = true := by
  unfold stk
  rw [decide_eq_true_iff]
  intro x hx
  obtain ⟨i, hi, rfl⟩ := List.mem_iff_getElem.1 hx
  have := h i hi
  rwa [List.getElem?_eq_getElem hi] at this
theorem zigs_in (xs : List Int) (h : In .i64 xs) : In .u64 (xs.map zig) := by
  intro u hu
  obtain ⟨x, hx, rfl⟩ := List.mem_map.1 hu
  exact ⟨zig_nonneg x, zig_max x (h x hx).1 (h x hx).2⟩
end Go.Cor
namespace Go.Proofs.YtaohdbagcfgoeaaDoor
open Go.RowKit Go.Cor Go.Free

set_option maxRecDepth 100000 in
set_option maxHeartbeats 1000000 in
theorem szigs_any (A : Option Addr) (n c : Nat) (xs : List Int) (w : World) (h : Rd w .i64 A n c xs) (hi : In .i64 xs) (hn : n ≤ 2000) :
    Calls Tryd.prog 20 #[.slice A n c] w (RetRow w.heap.size 48 .u64 w (xs.map zig)) := by
  have H := Lib.hid h
  have HI := Lib.hid hi
  clear h hi
  go_enter Tryd.func20, Tryd.ntmps20
  go_wp2
  go_loopg [3, 8] n (fun g v3 v8 wr => ∃ i : Nat, v8 = .int .i64 i ∧ i ≤ n ∧ g = n - i ∧ ∃ A' c', v3 = .slice A' i c' ∧ Hid (Owns wr w.heap.size 48 .u64 A' i c' ((xs.take i).map zig) ∧ Below w.heap.size w wr))
  case atStart => exact ⟨0, rfl, by omega, by omega, none, 0, rfl, Lib.hid ⟨owns_nil _ _ _ _, Below.refl _ _⟩⟩
  case round =>
    obtain ⟨i, rfl, hi, rfl, A', c', rfl, hI⟩ := hrel
    by_cases hlt : i < n
    · obtain ⟨b', o, rfl, hbl, hc⟩ := (H.out.below hI.out.2).get (by omega)
      have hcell := hc i hlt
      have hl := H.out.len
      have e1 := map_take_snoc (l := xs) (k := i) zig (by omega)
      rw [List.getD_eq_getElem?_getD] at hcell
      have hx := HI.out (xs[i]?.getD 0) (by rw [List.getElem?_eq_getElem (by omega)]; exact List.getElem_mem _)
      obtain ⟨x, hxe⟩ : ∃ x, xs[i]?.getD 0 = x := ⟨_, rfl⟩
      rw [hxe] at hcell e1 hx
      have HZ := Lib.hid (fun w => zig_any x w hx.1 hx.2)
      have E1 := Lib.hid e1
      obtain ⟨hx0, hx1⟩ := hx
      obtain ⟨z, hz⟩ : ∃ z, zig x = z := ⟨_, rfl⟩
      rw [hz] at HZ E1
      clear hc hl e1 hxe hz
      go_wp2_with fail
      refine (HZ.out _).mono ?_
      rintro e w2 ⟨rfl, rfl⟩
      go_wp2_with (at_builtin; refine wpList_append_r rfl rfl elemU64 (hI.out.1.alloc _) rfl (RdV.one (Box.new _ _ _)) rfl one_one (by omega) (by omega) (by have := hI.out.2.size; simp; omega) ?_; intro A2 c2 w3 hown hg _)
      have HB := Lib.hid (below_grown (hI.out.2.alloc hI.out.2.size _) (hI.out.1.alloc _) hg (by have := hI.out.2.size; simp; omega))
      have HO3 := Lib.hid (owns_snoc hown)
      clear hown hg
      go_roundg (n - (i + 1))
      case measure => omega
      case rel => exact ⟨i + 1, by go_num, by omega, rfl, A2, c2, rfl, Lib.hid ⟨by rw [← E1.out]; exact HO3.out, HB.out⟩⟩
    · obtain rfl : i = n := by omega
      have ho := hI.out.1
      rw [List.take_of_length_le (by have := H.out.len; omega)] at ho
      have HO := Lib.hid ho
      clear ho
      go_wp2
      go_ret
      exact ⟨A', i, c', rfl, HO.out, hI.out.2⟩

set_option maxRecDepth 100000 in
set_option maxHeartbeats 1000000 in
theorem sTakes_any (A : Option Addr) (n c : Nat) (xs : List Int) (w : World) (h : Rd w .i64 A n c xs) (hi : In .i64 xs) (hn : n ≤ 2000) :
    Calls Tryd.prog 18 #[.agg #[], .slice A n c] w fun e w' => e = .returned (.bool (tak stk xs)) ∧ Below w.heap.size w w' := by
  have hl := h.len
  obtain ⟨F, hF⟩ : ∃ F, tak stk xs = F := ⟨_, rfl⟩
  have HF := Lib.hid (show F = (blk n && stk xs) by rw [← hF]; unfold tak; rw [hl])
  rw [hF]
  have H := Lib.hid h
  have HI := Lib.hid (And.intro hi hl)
  clear h hi hl hF
  go_enter Tryd.func18, Tryd.ntmps18
  go_wp2
  obtain ⟨W0, hW0⟩ : ∃ W0, w.alloc (.cells #[] 24) = W0 := ⟨_, rfl⟩
  have HB := Lib.hid (show Below w.heap.size w W0 by rw [← hW0]; exact (Below.refl _ _).alloc (Nat.le_refl _) _)
  rw [hW0]
  clear hW0
  go_loopg [9] n (fun g v9 wr => ∃ i : Nat, v9 = .int .i64 i ∧ i ≤ n ∧ g = n - i ∧ W0 = wr ∧ Hid (∀ t, t < i → zig (xs[t]?.getD 0) < 1152921504606846976))
  case atStart => exact ⟨0, rfl, by omega, by omega, rfl, Lib.hid (fun t ht => by omega)⟩
  case round =>
    obtain ⟨i, rfl, hi, rfl, rfl, hI⟩ := hrel
    by_cases hlt : i < n
    · obtain ⟨b', o, rfl, hbl, hc⟩ := (H.out.below HB.out).get (by omega)
      have hcell := hc i hlt
      rw [List.getD_eq_getElem?_getD] at hcell
      have hx := HI.out.1 (xs[i]?.getD 0) (by rw [List.getElem?_eq_getElem (by have := HI.out.2; omega)]; exact List.getElem_mem _)
      obtain ⟨x, hxe⟩ : ∃ x, xs[i]?.getD 0 = x := ⟨_, rfl⟩
      rw [hxe] at hcell hx
      have hzz := zig_nonneg x
      have hzm := zig_max x hx.1 hx.2
      have hzg := fun w => zig_any x w hx.1 hx.2
      obtain ⟨z, hz⟩ := Int.eq_ofNat_of_zero_le hzz
      rw [hz] at hzm hzg
      have HZ := Lib.hid hzg
      have HX := Lib.hid (And.intro hxe hz)
      obtain ⟨hx0, hx1⟩ := hx
      clear hc hxe hzz hzg hz
      by_cases hbig : z < 1152921504606846976
      · have hy : (z : Int) / 1152921504606846976 = 0 := by omega
        go_wp2_with fail
        refine (HZ.out _).mono ?_
        rintro e w2 ⟨rfl, rfl⟩
        go_wp2_with fail
        go_roundg (n - (i + 1))
        case measure => omega
        case rel =>
          refine ⟨i + 1, by go_num, by omega, rfl, rfl, Lib.hid (fun t ht => ?_)⟩
          by_cases hti : t < i
          · exact hI.out t hti
          · obtain rfl : t = i := by omega
            rw [HX.out.1, HX.out.2]; omega
      · have hd : decide ((0 : Int) < (z : Int) / 1152921504606846976) = true := by simp; omega
        obtain rfl : F = false := by rw [HF.out, stk_false (i := i) (by have := HI.out.2; omega) (by rw [HX.out.1, HX.out.2]; omega), Bool.and_false]
        go_wp2_with fail
        refine (HZ.out _).mono ?_
        rintro e w2 ⟨rfl, rfl⟩
        go_wp2
        go_ret
        exact ⟨rfl, HB.out⟩
    · obtain rfl : i = n := by omega
      have ht : stk xs = true := stk_true (fun t ht => hI.out t (by have := HI.out.2; omega))
      have hF2 := HF.out
      rw [ht, Bool.and_true] at hF2
      subst hF2
      clear ht
      go_wp2_with fail
      refine (block_any i _).mono ?_
      rintro e w2 ⟨rfl, rfl⟩
      go_wp2
      go_ret
      exact ⟨rfl, HB.out⟩
theorem ms_takes (w : World) : (method 206 24 (.agg #[]) "Takes").run Tryd.prog w = .ok (18, .agg #[]) w := by kernel_rfl
theorem ms_encode (w : World) : (method 206 24 (.agg #[]) "Encode").run Tryd.prog w = .ok (17, .agg #[]) w := by kernel_rfl
theorem ms_size (w : World) : (method 206 24 (.agg #[]) "Size").run Tryd.prog w = .ok (8, .agg #[]) w := by kernel_rfl
theorem ms_decode (w : World) : (method 206 24 (.agg #[]) "Decode").run Tryd.prog w = .ok (14, .agg #[]) w := by kernel_rfl
theorem ms_ahead (w : World) : (nilAhead 206 24 (.agg #[]) "Decode").run Tryd.prog w = .ok (some false) w := by kernel_rfl
theorem simT : TakerJ Shp 24 18 stk :=
  ⟨ms_takes, enters_f Tryd.func18 (by kernel_rfl) rfl, fun w _ A n c xs h hi hn => sTakes_any A n c xs w h hi (by omega)⟩

/-- the next word's numbers -/
theorem sel_facts {us : List Int} {i : Nat} (hf : Fitl 60 us) (h : i < us.length) : ∃ k m, sel (us.drop i) = k ∧ smany k = m ∧ k < 16 ∧ 1 ≤ m ∧ i + m ≤ us.length ∧ srest (us.drop i) = leb (swd k (us.drop i)) 8 ++ srest (us.drop (i + m)) := by
  have hne : us.drop i ≠ [] := fun e => by have := congrArg List.length e; rw [List.length_drop] at this; simp at this; omega
  have hs := sel_lt (hf.drop i) hne
  have hfit := (fit_of (sel_fit hs)).1
  rw [List.length_drop] at hfit
  exact ⟨_, _, rfl, rfl, hs, shp_pos hs, by omega, srest_drop hf h⟩

set_option maxRecDepth 100000 in
set_option maxHeartbeats 2000000 in
theorem sSize_any (w : World) (hj : Shp w) (A : Option Addr) (n c : Nat) (xs : List Int) (h : Rd w .i64 A n c xs) (hi : In .i64 xs) (hn : n ≤ 1100) :
    Calls Tryd.prog 8 #[.agg #[], .slice A n c] w fun e w' => e = .returned (.int .i64 (if tak stk xs then ((sform xs).length : Int) else 0)) ∧ Below w.heap.size w w' := by
  have ht := fun w h => sTakes_any A n c xs w h hi (by omega)
  have hl := h.len
  obtain ⟨q, hq⟩ : ∃ q, tak stk xs = q := ⟨_, rfl⟩
  rw [hq] at ht ⊢
  have HT := Lib.hid ht
  have H := Lib.hid h
  have HJ := Lib.hid hj
  cases q with
  | false =>
    clear ht hq h hi hj hl
    go_enter Tryd.func8, Tryd.ntmps8
    go_wp2_with fail
    refine (HT.out _ (H.out.alloc _)).mono ?_
    rintro e w1 ⟨rfl, hb⟩
    go_wp2
    go_ret
    exact ⟨rfl, ((Below.refl _ _).alloc (Nat.le_refl _) _).trans (hb.mono (by simp))⟩
  | true =>
    have hst : stk xs = true := by unfold tak at hq; simp at hq; exact hq.2
    have hf := stk_fit hst
    have hzi := zigs_in xs hi
    have hul : (xs.map zig).length = n := by simp [hl]
    have HZ := Lib.hid (fun w h => szigs_any A n c xs w h hi (by omega))
    obtain ⟨T, hT⟩ : ∃ T, (sform xs).length = T := ⟨_, rfl⟩
    have hT2 : (srest (xs.map zig)).length = T := by rw [← hT]; unfold sform; rw [if_pos hst]
    have hTn := (srest_len _ (xs.map zig) hul).1
    rw [hT2] at hTn
    rw [hT, if_pos rfl]
    obtain ⟨us, hus⟩ : ∃ us, xs.map zig = us := ⟨_, rfl⟩
    rw [hus] at hf hzi hul hT2 HZ
    have HU := Lib.hid (And.intro hf (And.intro hzi (And.intro hul hT2)))
    clear ht hq h hi hj hl hst hf hzi hul hT hT2 hus
    go_enter Tryd.func8, Tryd.ntmps8
    go_wp2_with fail
    refine (HT.out _ (H.out.alloc _)).mono ?_
    rintro e w1 ⟨rfl, hb⟩
    have HB1 := Lib.hid (((Below.refl w.heap.size w).alloc (Nat.le_refl _) (.cells #[] 24)).trans (hb.mono (by simp)))
    clear hb
    go_wp2_with fail
    refine (HZ.out _ (H.out.below HB1.out)).mono ?_
    rintro e w2 ⟨A2, n2, c2, rfl, ho2, hb2⟩
    obtain rfl : n2 = n := by have h1 := row_len ho2; have := HU.out.2.2.1; omega
    have HB2 := Lib.hid (HB1.out.trans (hb2.mono HB1.out.size))
    have HR2 := Lib.hid (Rd.own ho2)
    clear ho2 hb2
    go_wp2_with fail
    go_loopg [5, 6] n2 (fun gg v5 v6 wr => ∃ (i s d : Nat) (A' : Option Addr) (c' : Nat), v5 = .int .i64 s ∧ s ≤ T ∧ d = gg ∧ v6 = .slice A' d c' ∧ Hid (d + i = n2 ∧ s + (srest (us.drop i)).length = T ∧ Rd w2 .u64 A' d c' (us.drop i) ∧ Below w2.heap.size w2 wr))
    case atStart => exact ⟨0, 0, n2, A2, c2, rfl, by omega, rfl, rfl, Lib.hid ⟨rfl, by rw [List.drop_zero, HU.out.2.2.2]; omega, by rw [List.drop_zero]; exact HR2.out, Below.refl _ _⟩⟩
    case round =>
      obtain ⟨i, s, d, A', c', rfl, hsT, hdg, rfl, hI⟩ := hrel
      subst hdg
      obtain ⟨wo, rfl⟩ : ∃ wo, wo = wr := ⟨_, rfl⟩
      by_cases hd0 : 0 < d
      · have hd : decide ((0 : Int) < (d : Int)) = true := by simp; omega
        obtain ⟨hdi, hsr, hrd, hbl⟩ := hI.out
        obtain ⟨k, m, hk, hm, hk16, hm1, him, hst⟩ := sel_facts HU.out.1 (i := i) (by have := HU.out.2.2.1; omega)
        have hsel := sel_any A' d c' (us.drop i) wo (HJ.out.keep _ _ (HB2.out.trans (hbl.mono HB2.out.size))) (hrd.below hbl) (fun x hx => HU.out.2.1 x (List.mem_of_mem_drop hx))
        rw [hk, if_pos hk16, if_pos hk16, hm] at hsel
        rw [hst, List.length_append, leb_len] at hsr
        have hml := HU.out.2.2.1
        have HSEL := Lib.hid hsel
        have HR := Lib.hid (And.intro hrd (And.intro hbl (And.intro hdi hsr)))
        have hmd : m ≤ d := by omega
        have hs8 : s + 8 ≤ T := by omega
        clear hdi hsr hrd hbl hk hm hst hsel him hI hml
        go_wp2_with fail
        refine HSEL.out.mono ?_
        rintro e w3 ⟨rfl, hb3⟩
        have HB3 := Lib.hid (HR.out.2.1.trans (hb3.mono HR.out.2.1.size))
        clear hb3
        go_wp2_with (refine wpList_slice_l (o := ⟨some 27, _, _, _, _, _⟩) rfl rfl elemU64 HR.out.1 rfl (kl := .i64) (l := m) rfl hmd ?_; intro A4 c4 hrd4; rw [List.drop_drop] at hrd4; have HRD4 := Lib.hid hrd4; clear hrd4)
        go_roundg (d - m)
        case measure => omega
        case rel => exact ⟨i + m, s + 8, d - m, A4, c4, by go_num, hs8, rfl, rfl, Lib.hid ⟨by have := HR.out.2.2.1; omega, by have := HR.out.2.2.2; omega, HRD4.out, HB3.out⟩⟩
      · obtain rfl : d = 0 := by omega
        obtain ⟨hdi, hsr, hrd, hbl⟩ := hI.out
        rw [List.drop_of_length_le (by have := HU.out.2.2.1; omega), srest_nil, List.length_nil] at hsr
        obtain rfl : s = T := by omega
        have HBL := Lib.hid (HB2.out.trans (hbl.mono HB2.out.size))
        clear hdi hsr hrd hbl hI
        go_wp2
        go_ret
        exact ⟨rfl, HBL.out⟩
theorem simS : SizerJ Shp 24 8 stk sform :=
  ⟨ms_size, enters_f Tryd.func8 (by kernel_rfl) rfl, sSize_any⟩
end Go.Proofs.YtaohdbagcfgoeaaDoor

namespace Go.Cor
open Go Go.RowKit
def wbody (lack w : Nat) : List Int × Int :=
  if lack < smany (w / 2 ^ 60) then ([], 7) else if w % 2 ^ 60 / 2 ^ (sbits (w / 2 ^ 60) * smany (w / 2 ^ 60)) ≠ 0 then ([], 3) else (svals (w / 2 ^ 60) (w % 2 ^ 60), 0)
/-- the numbers of the next word, or why not -/
def wstep (lack : Nat) (b : List Int) : List Int × Int := if b.length < 8 then ([], 1) else wbody lack (nums (b.take 8))
theorem sstep_w (lack : Nat) (b : List Int) : sstep lack b = ((wstep lack b).1.map zag, if (wstep lack b).2 = 0 then 8 else 0, (wstep lack b).2) := by
  unfold sstep wstep
  split
  · rfl
  · unfold sbody wbody
    split
    · rfl
    · split
      · rfl
      · rfl
theorem svals_take {k r i : Nat} (hi : i < smany k) : (svals k r).take i ++ [if sbits k = 0 then 1 else ((r / 2 ^ (sbits k * i) % 2 ^ sbits k : Nat) : Int)] = (svals k r).take (i + 1) := by
  have hin : i < (svals k r).length := by rw [svals_len]; exact hi
  rw [List.take_add_one, List.getElem?_eq_getElem hin]
  congr 1
  simp only [Option.toList_some, List.cons.injEq, and_true]
  by_cases hb : sbits k = 0
  · rw [if_pos hb]; simp [svals_zero k hb]
  · rw [if_neg hb]; simp [svals_pos k hb, unp]
theorem svals_fit {k r : Nat} (hk : k < 16) {u : Int} (hu : u ∈ svals k r) : 0 ≤ u ∧ u ≤ 18446744073709551615 := by
  unfold svals at hu
  split at hu
  · rw [List.eq_of_mem_replicate hu]; decide
  · have h3 := unp_fit _ _ _ u hu
    have h4 : 2 ^ sbits k ≤ 2 ^ 60 := pow_mono2 (shp_ok k hk).2.2.1
    rw [two60] at h4
    omega
theorem wstep_ok {lack : Nat} {b : List Int} (hb : ∀ x ∈ b, 0 ≤ x ∧ x ≤ 255) (he : (wstep lack b).2 = 0) : (wstep lack b).1.length ≤ lack ∧ 0 < (wstep lack b).1.length ∧ ∀ u ∈ (wstep lack b).1, 0 ≤ u ∧ u ≤ 18446744073709551615 := by
  unfold wstep at he ⊢
  split at he
  · simp at he
  · rename_i h8
    rw [if_neg h8]
    have hW := nums_lt (b := b.take 8) (fun x hx => hb x (List.mem_of_mem_take hx))
    have hl : (b.take 8).length = 8 := by rw [List.length_take]; omega
    rw [hl] at hW
    have e8 : (256 : Nat) ^ 8 = 16 * 2 ^ 60 := by decide
    have hk : nums (b.take 8) / 2 ^ 60 < 16 := by rw [Nat.div_lt_iff_lt_mul (pow_pos2 60)]; omega
    unfold wbody at he ⊢
    split at he
    · simp at he
    · rename_i h1
      rw [if_neg h1]
      split at he
      · simp at he
      · rename_i h2
        rw [if_neg h2]
        exact ⟨by rw [svals_len]; omega, by rw [svals_len]; exact shp_pos hk, fun u hu => svals_fit hk hu⟩
theorem ShpG.mod {G : Nat} {S : World → Nat → Prop} {w w' : World} (h : ShpG G w) (hk : Keep S w w') (hs : S w G) : ShpG G w' :=
  ⟨Nat.lt_of_lt_of_le h.1 hk.size, fun j v hv => by
    have e := hk.block G h.1 hs
    have h2 := h.2 j v hv
    unfold World.cell? at h2 ⊢
    simp only [e]
    exact h2⟩
end Go.Cor
namespace Go.Proofs.YtaohdbagcfgoeaaDoor
open Go.RowKit Go.Cor Go.Free

def WrdP (p : Nat) (A : Option Addr) (n c : Nat) (xs : List Int) (at_ : Nat) (w : World) (r : List Int × Int) (e : Ending) (w' : World) : Prop :=
  Mod (· = p) w w' ∧ ((r.2 = 0 ∧ (∃ A' m c', e = .returned (.slice A' m c') ∧ Owns w' w.heap.size 48 .u64 A' m c' r.1) ∧ Cur w' p A n c xs (at_ + 8)) ∨ (r.2 ≠ 0 ∧ e = Thr r.2))

set_option maxRecDepth 100000 in
set_option maxHeartbeats 4000000 in
theorem sword_any {w : World} {p : Nat} {A : Option Addr} {n c : Nat} {xs : List Int} {at_ : Nat} (hj : Shp w) (hpG : ¬ 0 = p) (h : Cur w p A n c xs at_) (lack : Nat) (hlack : lack ≤ 1024) :
    Calls Tryd.prog 32 #[.pointer (some ⟨p, 0, none⟩), .int .i64 lack] w (WrdP p A n c xs at_ w (wstep lack (xs.drop at_))) := by
  have hlen := h.rd.len
  have hby := h.bytes.drop at_
  by_cases h8 : n - at_ < 8
  · have HS := Lib.hid (U64_short h h8)
    have HR := Lib.hid (show wstep lack (xs.drop at_) = ([], 1) by unfold wstep; rw [if_pos (by rw [List.length_drop]; omega)])
    clear h hlen hby hj
    go_enter Tryd.func32, Tryd.ntmps32
    go_wp2_with fail
    refine HS.out.mono ?_
    rintro e w2 ⟨rfl, hb⟩
    exact ⟨rfl, .of_below hb, .inr (by rw [HR.out]; exact ⟨by decide, rfl⟩)⟩
  have hR : wstep lack (xs.drop at_) = wbody lack (nums ((xs.drop at_).take 8)) := by unfold wstep; rw [if_neg (by rw [List.length_drop]; omega)]
  have hu := U64_ok h (by omega)
  have hb8 : By ((xs.drop at_).take 8) := fun x hx => hby x (List.mem_of_mem_take hx)
  have hW := nums_lt hb8
  rw [show ((xs.drop at_).take 8).length = 8 by rw [List.length_take, List.length_drop]; omega, show (256 : Nat) ^ 8 = 18446744073709551616 by decide] at hW
  rw [← nums_eq hb8] at hu
  obtain ⟨W, hWe⟩ : ∃ W, nums ((xs.drop at_).take 8) = W := ⟨_, rfl⟩
  rw [hWe] at hR hu hW
  obtain ⟨k, hk⟩ : ∃ k, W / 2 ^ 60 = k := ⟨_, rfl⟩
  obtain ⟨V, hV⟩ : ∃ V, W % 2 ^ 60 = V := ⟨_, rfl⟩
  have hk16 : k < 16 := by rw [← hk, two60]; omega
  have hki : (W : Int) / 1152921504606846976 = (k : Int) := by rw [← hk, two60]; omega
  have hVi : (W : Int) * 16 % 18446744073709551616 / 16 = (V : Int) := by rw [← hV, two60]; omega
  have hV64 : V < 1152921504606846976 := by rw [← hV, two60]; omega
  unfold wbody at hR
  rw [hk, hV] at hR
  have hq := shp_ok k hk16
  have hm := fun w (hj : Shp w) => hj.many hk16
  have hbt := fun w (hj : Shp w) => hj.bits hk16
  have hsn := fun i => svals_take (k := k) (r := V) (i := i)
  have hsl := svals_len k V
  obtain ⟨m, hme⟩ : ∃ m, smany k = m := ⟨_, rfl⟩
  obtain ⟨b, hbe⟩ : ∃ b, sbits k = b := ⟨_, rfl⟩
  obtain ⟨sv, hsv⟩ : ∃ sv, svals k V = sv := ⟨_, rfl⟩
  rw [hme, hbe] at hq
  rw [hme, hbe, hsv] at hR hsn
  rw [hme] at hm
  rw [hbe] at hbt
  rw [hsv, hme] at hsl
  obtain ⟨hq1, hq2, hq3, hq4⟩ := hq
  obtain ⟨R, hRe⟩ : ∃ R, wstep lack (xs.drop at_) = R := ⟨_, rfl⟩
  rw [hRe] at hR ⊢
  have HU := Lib.hid hu
  have HR := Lib.hid hR
  have HSN := Lib.hid (And.intro hsn hsl)
  have HMB := Lib.hid (fun w hj => And.intro (hm w hj) (hbt w hj))
  have HJ := Lib.hid (fun w' (hm : Mod (· = p) w w') => ShpG.mod hj hm hpG)
  have HS := Lib.hid h.lt
  clear hby hb8 hWe hk hV hme hbe hsv hRe hu hR hsn hm hbt hj h hlen hsl h8
  go_enter Tryd.func32, Tryd.ntmps32
  go_wp2_with fail
  refine HU.out.mono ?_
  rintro e w2 ⟨rfl, hcu, hm⟩
  have HC2 := Lib.hid hcu
  have HM2 := Lib.hid hm
  have hcm := (HMB.out w2 (HJ.out w2 hm)).1
  have hcb := (HMB.out w2 (HJ.out w2 hm)).2
  clear hcu hm
  go_wp2_with fail
  by_cases hml : lack < m
  · have hd : decide (m ≤ lack) = false := by simp; omega
    have HRR := Lib.hid (HR.out.trans (if_pos hml))
    rw [hd]
    refine (check_false 7 _ (by decide)).mono ?_
    rintro e w3 ⟨rfl, rfl⟩
    exact ⟨rfl, Mod.trans HM2.out (.alloc _ _ _), .inr (by rw [HRR.out]; exact ⟨by decide, rfl⟩)⟩
  have hd : decide (m ≤ lack) = true := by simp; omega
  rw [hd]
  refine (check_true 7 _).mono ?_
  rintro e w3 ⟨rfl, rfl⟩
  obtain ⟨W0, hW0⟩ : ∃ W0, w2.alloc (.cells #[.int .i64 m, .int .i64 b] 67) = W0 := ⟨_, rfl⟩
  obtain ⟨q, hq⟩ : ∃ q, w2.heap.size = q := ⟨_, rfl⟩
  have hb0 : Below w2.heap.size w2 W0 := by rw [← hW0]; exact (Below.refl _ _).alloc (Nat.le_refl _) _
  have hqs : q < W0.heap.size := by rw [← hW0, World.size_alloc, hq]; omega
  have hc0 : W0.cell? ⟨q, 0, none⟩ = some (.int .i64 m) := by rw [← hW0, ← hq]; unfold World.cell?; simp only [heap_alloc_new]; rfl
  have hc1 : W0.cell? ⟨q, 1, none⟩ = some (.int .i64 b) := by rw [← hW0, ← hq]; unfold World.cell?; simp only [heap_alloc_new]; rfl
  have HB0 := Lib.hid hb0
  have HCB := Lib.hid (fun wr (hb : Below W0.heap.size W0 wr) => (hb.cell (p := ⟨q, 1, none⟩) hqs).trans hc1)
  rw [hW0, hq]
  clear hW0 hq hb0 hqs hcm hcb hc1
  have hwV : IntKind.u64.wrap ((W : Int) * 16) / 16 = (V : Int) := by rw [wrapu64]; exact hVi
  go_wp2_with fail
  have hsz0 : w.heap.size ≤ W0.heap.size := Nat.le_trans HM2.out.size HB0.out.size
  go_loopg [7, 8, 25] m (fun gg v7 v8 v25 wr => ∃ (i u : Nat) (A' : Option Addr) (c' : Nat), v25 = .int .i64 i ∧ i ≤ m ∧ gg = m - i ∧ v7 = .int .u64 u ∧ u < 1152921504606846976 ∧ v8 = .slice A' i c' ∧ Hid (u = V / 2 ^ (b * i) ∧ Owns wr W0.heap.size 48 .u64 A' i c' (sv.take i) ∧ Below W0.heap.size W0 wr))
  case atStart => exact ⟨0, V, none, 0, rfl, by omega, by omega, by first | rfl | rw [hwV], hV64, rfl, Lib.hid ⟨by simp, owns_nil _ _ _ _, Below.refl _ _⟩⟩
  case round =>
    obtain ⟨i, u, A', c', rfl, him, rfl, rfl, hu60, rfl, hI⟩ := hrel
    have hcb := HCB.out wr hI.out.2.2
    by_cases hlt : i < m
    · have hsn := HSN.out.1 i hlt
      by_cases hb0 : b = 0
      · subst hb0
        rw [if_pos rfl] at hsn
        have HSN1 := Lib.hid hsn
        clear hsn
        go_wp2_with (at_builtin; refine wpList_append_r rfl rfl elemU64 (hI.out.2.1.alloc _) rfl (RdV.one (Box.new _ _ _)) rfl one_one (by omega) (by omega) (by have := hI.out.2.2.size; simp; omega) ?_; intro A2 c2 w3 hown hg _)
        have HB := Lib.hid (below_grown (hI.out.2.2.alloc hI.out.2.2.size _) (hI.out.2.1.alloc _) hg (by have := hI.out.2.2.size; simp; omega))
        have HO3 := Lib.hid (owns_snoc hown)
        clear hown hg
        go_roundg (m - (i + 1))
        case measure => omega
        case rel => exact ⟨i + 1, u, A2, c2, by go_num, by omega, rfl, rfl, hu60, rfl, Lib.hid ⟨by have := hI.out.1; simpa using this, by rw [← HSN1.out]; exact HO3.out, HB.out⟩⟩
      · have hbe : ((b : Int) == 0) = false := by simp [hb0]
        rw [if_neg hb0, ← hI.out.1] at hsn
        have HSN1 := Lib.hid hsn
        clear hsn
        have hp60 : (2 : Int) ^ b ≤ 1152921504606846976 := by
          have h1 : (2 : Nat) ^ b ≤ 2 ^ 60 := pow_mono2 hq3
          rw [two60] at h1
          have h2 : ((2 ^ b : Nat) : Int) = (2 : Int) ^ b := by simp
          omega
        have hp1 : (1 : Int) ≤ 2 ^ b := by
          have h1 := pow_pos2 b
          have h2 : ((2 ^ b : Nat) : Int) = (2 : Int) ^ b := by simp
          omega
        have hbits : bits .and .u64 (u : Int) (IntKind.u64.wrap (IntKind.u64.wrap (2 ^ b) - 1)) = ((u % 2 ^ b : Nat) : Int) := by
          rw [wrapu64_in ((2 : Int) ^ b) (by omega) (by omega), wrapu64_in _ (by omega) (by omega), and_mask_u64 _ _ (by omega) (by omega) (by omega)]
          simp
        have hsh := shr_nat u b
        obtain ⟨y, hy⟩ : ∃ y, u % 2 ^ b = y := ⟨_, rfl⟩
        obtain ⟨z, hz⟩ : ∃ z, u / 2 ^ b = z := ⟨_, rfl⟩
        rw [hy] at hbits
        rw [hz] at hsh
        have hz60 : z < 1152921504606846976 := by have := Nat.div_le_self u (2 ^ b); omega
        have HZ := Lib.hid (show z = V / 2 ^ (b * (i + 1)) by rw [← hz, hI.out.1, div_step])
        have HSN2 := Lib.hid (show sv.take i ++ [(y : Int)] = sv.take (i + 1) by rw [← hy]; exact HSN1.out)
        clear hp60 hp1 hy hz
        go_wp2_with (at_builtin; (try rw [hbits]); refine wpList_append_r rfl rfl elemU64 (hI.out.2.1.alloc _) rfl (RdV.one (Box.new _ _ _)) rfl one_one (by omega) (by omega) (by have := hI.out.2.2.size; simp; omega) ?_; intro A2 c2 w3 hown hg _; have HB := Lib.hid (below_grown (hI.out.2.2.alloc hI.out.2.2.size _) (hI.out.2.1.alloc _) hg (by have := hI.out.2.2.size; simp; omega)); have HO3 := Lib.hid (owns_snoc hown); clear hown hg; have hcb3 := HCB.out w3 HB.out)
        go_roundg (m - (i + 1))
        case measure => omega
        case rel => exact ⟨i + 1, z, A2, c2, by go_num, by omega, rfl, by first | rfl | rw [hsh], hz60, rfl, Lib.hid ⟨HZ.out, by rw [← HSN2.out]; exact HO3.out, HB.out⟩⟩
    · obtain rfl : i = m := by omega
      have hvl := hI.out.1
      have ho := hI.out.2.1
      rw [List.take_of_length_le (by rw [HSN.out.2]; exact Nat.le_refl _)] at ho
      rw [Nat.mul_comm b] at hvl
      have hrr := HR.out
      rw [if_neg hml, Nat.mul_comm b, ← hvl] at hrr
      have HO := Lib.hid (owns_weak ho hsz0)
      have HRR := Lib.hid hrr
      clear ho hvl hrr
      by_cases hu0 : u = 0
      · subst hu0
        have HR3 := Lib.hid (HRR.out.trans (if_neg (by simp)))
        go_wp2_with fail
        refine (check_true 3 _).mono ?_
        rintro e w5 ⟨rfl, rfl⟩
        go_wp2
        go_ret
        exact ⟨Mod.trans (Mod.trans HM2.out (.of_below HB0.out)) (.of_below hI.out.2.2), .inl (by rw [HR3.out]; exact ⟨rfl, ⟨_, _, _, rfl, HO.out⟩, (HC2.out.below HB0.out).below hI.out.2.2⟩)⟩
      · have hd2 : ((u : Int) == 0) = false := by simp [hu0]
        have HR3 := Lib.hid (HRR.out.trans (if_pos hu0))
        go_wp2_with fail
        refine (check_false 3 _ (by decide)).mono ?_
        rintro e w5 ⟨rfl, rfl⟩
        exact ⟨rfl, Mod.trans (Mod.trans HM2.out (.of_below HB0.out)) (.of_below hI.out.2.2), .inr (by rw [HR3.out]; exact ⟨by decide, rfl⟩)⟩
end Go.Proofs.YtaohdbagcfgoeaaDoor

namespace Go.Proofs.YtaohdbagcfgoeaaDoor
open Go.RowKit Go.Cor Go.Free

set_option maxRecDepth 100000 in
set_option maxHeartbeats 4000000 in
theorem sdec1 {w : World} {p bN : Nat} {A : Option Addr} {n c : Nat} {xs : List Int} {N : Nat} (hj : Shp w) (hpG : ¬ 0 = p) (h : Cur w p A n c xs 0) (hb : Box w bN 3 (.int .i64 N)) (hbp : bN ≠ p) (hN : N ≤ 1024) :
    Calls Tryd.prog 31 #[.pointer (some ⟨p, 0, none⟩), .pointer (some ⟨bN, 0, none⟩)] w (Dec p A n c xs w (srun N xs).1 (srun N xs).2.1 (srun N xs).2.2) := by
  have hby := h.bytes
  have hR : srun N xs = dlift [] 0 (drun sstep N (xs.drop 0)) := drun_start N xs
  obtain ⟨R, hRe⟩ : ∃ R, srun N xs = R := ⟨_, rfl⟩
  rw [hRe] at hR ⊢
  have HR := Lib.hid hR
  have H := Lib.hid h
  have HBX := Lib.hid hb
  have HBY := Lib.hid hby
  have HJ := Lib.hid (fun w' (hm : Mod (· = p) w w') => ShpG.mod hj hm hpG)
  have hwb := lt_of_block hb
  clear h hb hby hR hRe hj
  go_enter Tryd.func31, Tryd.ntmps31
  go_wp2_with fail
  go_loopg [4] N (fun g v4 wr => ∃ (m : Nat) (A' : Option Addr) (c' : Nat) (l : List Int) (a : Nat), v4 = .slice A' m c' ∧ m ≤ N ∧ g = N - m ∧ Hid (Owns wr w.heap.size 2 .i64 A' m c' l ∧ Cur wr p A n c xs a ∧ Mod (· = p) w wr ∧ R = dlift l a (drun sstep (N - m) (xs.drop a))))
  case atStart => exact ⟨0, none, 0, [], 0, rfl, by omega, rfl, Lib.hid ⟨owns_nil _ _ _ _, H.out, .of_below (Below.refl w.heap.size w), HR.out⟩⟩
  case round =>
    obtain ⟨m, A', c', l, a, rfl, hm, rfl, hI⟩ := hrel
    obtain ⟨wo, rfl⟩ : ∃ wo, wo = wr := ⟨_, rfl⟩
    have hcb : wo.cell? ⟨bN, 0, none⟩ = some (.int .i64 (N : Int)) := cell_of_one (HBX.out.keep hI.out.2.2.1 hbp)
    by_cases hlt : m < N
    · have hd : decide (m < N) = true := by simp; omega
      have hsw := sword_any (HJ.out wo hI.out.2.2.1) hpG hI.out.2.1 (N - m) (by omega)
      rw [show ((N - m : Nat) : Int) = (N : Int) - (m : Int) by omega] at hsw
      have hok := fun he => wstep_ok (HBY.out.drop a) (lack := N - m) he
      have hst := fun he h1 => hI.out.2.2.2.trans (drun_step (step := sstep) l a (lack := N - m) (b := xs.drop a) (by omega) he h1)
      have hbd := fun he => hI.out.2.2.2.trans (drun_bad (step := sstep) l a (lack := N - m) (b := xs.drop a) (by omega) he)
      rw [sstep_w] at hst hbd
      obtain ⟨S, hS⟩ : ∃ S, wstep (N - m) (xs.drop a) = S := ⟨_, rfl⟩
      rw [hS] at hsw hok hst hbd
      simp only [List.drop_drop, List.length_map] at hst
      have HSW := Lib.hid hsw
      have HST := Lib.hid (And.intro hok (And.intro hst hbd))
      clear hsw hok hst hbd hS
      go_wp2_with fail
      refine HSW.out.mono ?_
      rintro e w6 ⟨hm6, ⟨h0, ⟨A6, m6, c6, rfl, ho6⟩, hcu6⟩ | ⟨h0, rfl⟩⟩
      · obtain ⟨h7, h8, h9⟩ := HST.out.1 h0
        have hsr := HST.out.2.1 h0 (by omega)
        rw [if_pos h0] at hsr
        obtain ⟨us, hus⟩ : ∃ us, S.1 = us := ⟨_, rfl⟩
        rw [hus] at hsr ho6 h7 h8 h9
        have hl6 := row_len ho6
        have HO6 := Lib.hid (owns_keep hI.out.1 hm6 fun g hg _ => by have h1 := (hI.out.1.lt g hg).1; have h2 := H.out.lt; show ¬ g = p; omega)
        have HN6 := Lib.hid (show ∀ b, (∃ o, A6 = some ⟨b, o, none⟩) → b < w6.heap.size ∧ (Value.slice A' m c').ownBlock ≠ some b from fun b ⟨o, e⟩ => by
          obtain ⟨g, hg1, hg2, hg3⟩ := owns_addr ho6 (by omega)
          rw [e] at hg1
          injection hg1 with hg1
          injection hg1 with e1 e2
          refine ⟨by omega, fun e2 => ?_⟩
          have h1 := (hI.out.1.lt b e2).2
          omega)
        have HM6 := Lib.hid (Mod.trans hI.out.2.2.1 hm6)
        have HC6 := Lib.hid hcu6
        have HR6 := Lib.hid (Rd.own ho6)
        rw [hl6] at hsr h7 h8
        have HSR := Lib.hid hsr
        have HFU := Lib.hid (And.intro h9 hl6)
        clear hsr hus ho6 hcu6 hm6 h0 h9 hl6 HST HSW
        go_wp2_with fail
        go_loopg [4, 18] m6 (fun g v4 v18 wr => ∃ i : Nat, v18 = .int .i64 i ∧ i ≤ m6 ∧ g = m6 - i ∧ ∃ A2 c2, v4 = .slice A2 (m + i) c2 ∧ Hid (Owns wr w.heap.size 2 .i64 A2 (m + i) c2 (l ++ (us.take i).map zag) ∧ Cur wr p A n c xs (a + 8) ∧ Mod (· = p) w wr ∧ Rd wr .u64 A6 m6 c6 us ∧ ∀ b, (∃ o, A6 = some ⟨b, o, none⟩) → b < wr.heap.size ∧ (Value.slice A2 (m + i) c2).ownBlock ≠ some b))
        case atStart => exact ⟨0, rfl, by omega, by omega, A', c', rfl, Lib.hid ⟨by simpa using HO6.out, HC6.out, HM6.out, HR6.out, HN6.out⟩⟩
        case round =>
          obtain ⟨i, rfl, hi, rfl, A2, c2, rfl, hJ⟩ := hrel
          by_cases hlt2 : i < m6
          · obtain ⟨b', o, rfl, hbl, hc⟩ := hJ.out.2.2.2.1.get (by omega)
            have hcell := hc i hlt2
            rw [List.getD_eq_getElem?_getD] at hcell
            have e1 := map_take_snoc (l := us) (k := i) zag (by rw [HFU.out.2]; omega)
            have hx := HFU.out.1 (us[i]?.getD 0) (by rw [List.getElem?_eq_getElem (by rw [HFU.out.2]; omega)]; exact List.getElem_mem _)
            obtain ⟨x, hxe⟩ : ∃ x, us[i]?.getD 0 = x := ⟨_, rfl⟩
            rw [hxe] at hcell e1 hx
            have HZ := Lib.hid (fun w => zag_any x w hx.1 hx.2)
            have E1 := Lib.hid e1
            clear hc e1 hx hxe
            go_wp2_with fail
            refine (HZ.out _).mono ?_
            rintro e w7 ⟨rfl, rfl⟩
            go_wp2_with (at_builtin; refine wpList_append_r rfl rfl elemI64 (hJ.out.1.alloc _) rfl (RdV.one (Box.new _ _ _)) rfl one_one (by omega) (by omega) (by have := hJ.out.2.2.1.size; simp; omega) ?_; intro A3 c3 w8 hown hg hat)
            have hgr := Cu.grown H.out (Mod.trans hJ.out.2.2.1 (.alloc _ _ _)) (hJ.out.2.1.alloc' _) (hJ.out.1.alloc _) (Nat.le_refl _) hg
            have hne := fun b hb => own_ne hat (hJ.out.2.2.2.2 b hb).2 (by have := (hJ.out.2.2.2.2 b hb).1; simp; omega)
            have hr8 := (hJ.out.2.2.2.1.alloc _).keep hg.size (fun b hb he => hg.block b hb (fun e => (hJ.out.2.2.2.2 b he).2 e.symm))
            have hsz := hg.size
            have HSZ := Lib.hid hsz
            have HG := Lib.hid hgr
            have HNE := Lib.hid hne
            have HR8 := Lib.hid hr8
            have HO8 := Lib.hid (owns_snoc hown)
            clear hgr hown hg hat hne hr8 hsz
            go_roundg (m6 - (i + 1))
            case measure => omega
            case rel => exact ⟨i + 1, by go_num, by omega, rfl, A3, c3, rfl, Lib.hid ⟨by rw [← E1.out, ← List.append_assoc]; exact HO8.out, HG.out.1, HG.out.2, HR8.out, fun b hb => ⟨by have h1 := (hJ.out.2.2.2.2 b hb).1; have h2 := HSZ.out; simp at h2; omega, HNE.out b hb⟩⟩⟩
          · obtain rfl : i = m6 := by omega
            go_wp2_with fail
            go_roundg (N - (m + i))
            case measure => omega
            case rel =>
              refine ⟨m + i, A2, c2, l ++ us.map zag, a + 8, rfl, by omega, rfl, Lib.hid ⟨?_, hJ.out.2.1, hJ.out.2.2.1, ?_⟩⟩
              · have h1 := hJ.out.1
                rwa [List.take_of_length_le (by rw [HFU.out.2]; exact Nat.le_refl _)] at h1
              · rw [HSR.out, Nat.sub_add_eq]
      · have hbad := HST.out.2.2 h0
        exact ⟨rfl, Mod.trans hI.out.2.2.1 hm6, .inr (by rw [hbad]; exact ⟨h0, rfl⟩)⟩
    · obtain rfl : m = N := by omega
      have hR1 := hI.out.2.2.2
      rw [Nat.sub_self, drun_end] at hR1
      have HR1 := Lib.hid hR1
      clear hR1
      go_wp2
      go_ret
      exact ⟨hI.out.2.2.1, .inl (by rw [HR1.out]; exact ⟨rfl, ⟨A', m, c', rfl, hI.out.1⟩, hI.out.2.1⟩)⟩
end Go.Proofs.YtaohdbagcfgoeaaDoor

namespace Go.Proofs.YtaohdbagcfgoeaaDoor
open Go.RowKit Go.Cor Go.Free

set_option maxRecDepth 100000 in
set_option maxHeartbeats 2000000 in
theorem sDecode_any (w : World) (hj : Shp w) (A : Option Addr) (n c : Nat) (ys : List Int) (N : Int) (h : Rd w .u8 A n c ys) (hby : By ys) (hn : n ≤ 100000) :
    Calls Tryd.prog 14 #[.agg #[], .slice A n c, .int .i64 N] w (DecG w.heap.size w sdec ys N) := by
  have hmf : ∀ (fn : Fn) (first cap : Array Value) (w : World), (Instr.makeFunc fn first cap).run Tryd.prog w = .ok (.func fn first cap) w := fun _ _ _ _ => rfl
  obtain ⟨w2, hw2⟩ : ∃ w2, (w.alloc (.cells #[] 24)).alloc (.cells #[.int .i64 N] 3) = w2 := ⟨_, rfl⟩
  have hb2 : Below w.heap.size w w2 := by rw [← hw2]; exact ((Below.refl _ _).alloc (Nat.le_refl _) _).alloc (by simp) _
  have hbx : Box w2 (w.heap.size + 1) 3 (.int .i64 N) := by rw [← hw2]; have := Box.new (w.alloc (.cells #[] 24)) 3 (.int .i64 N); rwa [World.size_alloc] at this
  have hs2 : w2.heap.size = w.heap.size + 2 := by rw [← hw2]; simp
  have hj2 := shpKeep _ _ hj hb2
  have hG := hj.1
  have hcell := cell_of_one hbx
  have eg1 : ∀ args w, (callFunc 31 args).run Tryd.prog w = .ok (.enter 31 args) w := enters_f Tryd.func31 (by kernel_rfl) rfl
  have hrd := read_any w2 A n c ys (h.below hb2) hn hby N 31 #[.pointer (some ⟨w.heap.size + 1, 0, none⟩)] (srun N.toNat ys).1 (srun N.toNat ys).2.1 (srun N.toNat ys).2.2 eg1
    (fun hbk w4 p A1 c1 hb4 hcu hp => by
      have hN := of_decide_eq_true hbk
      obtain ⟨M, rfl⟩ := Int.eq_ofNat_of_zero_le (show 0 ≤ N by omega)
      exact sdec1 (shpKeep _ _ hj2 hb4) (by omega) hcu (hbx.below hb4 (by omega)) (by omega) (by omega))
  have HP := Lib.hid (show sdec ys N = (rlist N n (srun N.toNat ys).2.1 (srun N.toNat ys).2.2 (srun N.toNat ys).1, rerr N n (srun N.toNat ys).2.1 (srun N.toNat ys).2.2) by unfold sdec decOf; rw [h.len])
  have HR := Lib.hid hrd
  have HB2 := Lib.hid hb2
  clear hj hj2 hG h hby hn hb2 hbx hs2 eg1 hrd
  go_enter Tryd.func14, Tryd.ntmps14
  go_wp2_with fail
  refine HR.out.mono ?_
  rintro e w5 ⟨A', m, c', rfl, hown, hb5⟩
  have HO := Lib.hid (owns_weak hown HB2.out.size)
  have HB5 := Lib.hid (HB2.out.trans (hb5.mono HB2.out.size))
  clear hown hb5
  go_wp2
  go_ret2
  exact ⟨A', m, c', by rw [HP.out]; rfl, by rw [HP.out]; exact HO.out, HB5.out⟩
theorem simD : DecerJ Shp 24 14 sdec :=
  ⟨ms_decode, ms_ahead, enters_f Tryd.func14 (by kernel_rfl) rfl, fun w hj A n c ys N h hb hn => sDecode_any w hj A n c ys N h hb hn⟩
end Go.Proofs.YtaohdbagcfgoeaaDoor
