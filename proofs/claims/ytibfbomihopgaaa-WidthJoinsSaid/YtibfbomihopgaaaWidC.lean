/-
  Chapter 6: how many numbers have each width (an array by value).
-/
import Derived.Test.YtibfbomihopgaaaWid
import Derived.Laws.Rows
import Derived.Laws.Tables
import Derived.Laws.CopyOwn
import Derived.ProofKit
import Derived.OpenShut
namespace Go.Cor
open Go Go.RowKit
def rowOf (xs : List Int) : Array Value := (xs.map (Value.int .i64)).toArray
/-- a block holds a whole array of ints -/
def Arr (w : World) (g : Nat) (t : TypeId) (xs : List Int) : Prop := w.heap[g]? = some (.cells (rowOf xs) t (0, 0))
theorem Arr.cell {w : World} {g : Nat} {t : TypeId} {xs : List Int} (h : Arr w g t xs) {k : Nat} (hk : k < xs.length) : w.cell? ⟨g, k, none⟩ = some (.int .i64 (xs[k]?.getD 0)) := by
  rw [cell_of_row w g k _ t _ h]; unfold rowOf; simp [hk]
theorem Arr.free {w : World} {g : Nat} {t : TypeId} {xs : List Int} (h : Arr w g t xs) (k : Nat) : w.frozen? ⟨g, k, none⟩ = false := by
  unfold Arr at h; simp [World.frozen?, h]
theorem Arr.set {w : World} {g : Nat} {t : TypeId} {xs : List Int} (h : Arr w g t xs) (k : Nat) (x : Int) : Arr (w.setCell ⟨g, k, none⟩ (.int .i64 x)) g t (xs.set k x) := by
  unfold Arr at *
  rw [setCell_eq_setRow w g k _ t _ _ h, setRow_heap w g _ _ t _ h]
  unfold rowOf
  simp
theorem Arr.alloc {w : World} {g : Nat} {t : TypeId} {xs : List Int} (h : Arr w g t xs) (o : Obj) : Arr (w.alloc o) g t xs := by
  unfold Arr at *; exact (Below.heap_alloc _ _ _ (lt_of_block h)).trans h
theorem Arr.new (w : World) (t : TypeId) (xs : List Int) : Arr (w.alloc (.cells (rowOf xs) t)) w.heap.size t xs := heap_alloc_new w _
theorem Arr.setRow {w : World} {g : Nat} {t : TypeId} {xs : List Int} (h : Arr w g t xs) (ys : List Int) : Arr (w.setRow g (rowOf ys)) g t ys := setRow_heap w g _ _ t _ h
theorem Arr.row_other {w : World} {g g' : Nat} {t : TypeId} {xs : List Int} (h : Arr w g t xs) (hne : g ≠ g') (cs : Array Value) : Arr (w.setRow g' cs) g t xs := by
  unfold Arr at *; rw [setRow_other w g' g cs hne]; exact h
theorem Arr.cell_other {w : World} {g g' : Nat} {t : TypeId} {xs : List Int} (h : Arr w g t xs) (hne : g ≠ g') (k : Nat) (u : Value) : Arr (w.setCell ⟨g', k, none⟩ u) g t xs := by
  unfold Arr at *; exact (Below.heap_setCell _ _ _ _ hne).trans h
theorem Arr.below {w w' : World} {g : Nat} {t : TypeId} {xs : List Int} (h : Arr w g t xs) {B : Nat} (hb : Below B w w') (hg : g < B) : Arr w' g t xs := (hb.block g hg).trans h
theorem rowOf_size (xs : List Int) : (rowOf xs).size = xs.length := by simp [rowOf]
theorem rowOf_one (xs : List Int) : (rowOf xs).all (·.oneCell') = true := by simp [rowOf, Value.oneCell']
theorem agg_cells (c : Array Value) : (Value.agg c).cells = c := rfl
end Go.Cor
namespace Go.Proofs.Ytibfbomihopgaaa
open Go.RowKit Go.Cor Go.Free

def zero65 : List Int := List.replicate 65 0
theorem zero65_run (w : World) : (zeroValue 52).run Try.prog w = .ok (.agg (rowOf zero65)) w := by
  have h : (Try.prog.info? 52).map (·.zero) = some (some (.agg (rowOf zero65))) := by kernel_rfl
  cases hq : Try.prog.info? 52 with
  | none => rw [hq] at h; cases h
  | some i =>
    rw [hq] at h
    have hz : i.zero = some (.agg (rowOf zero65)) := by simpa using h
    simp [zeroValue, typeInfo, hq, hz, Sem.run_bind]
theorem size65 : (Try.prog.info? 52).map (·.size) = some 65 := by kernel_rfl
theorem size65' (xs : List Int) (h : xs.length = 65) : (Try.prog.info? 52).map (·.size) = some (rowOf xs).size := by rw [rowOf_size, h]; exact size65

def cntUpd (cs : List Int) (x : Int) : List Int := cs.set (bw x).toNat (cs[(bw x).toNat]?.getD 0 + 1)

set_option maxHeartbeats 1000000 in
theorem count1_any (cs : List Int) (x : Int) (w : World) (hl : cs.length = 65) (hbd : ∀ y ∈ cs, 0 ≤ y ∧ y ≤ 1000000) (h0 : 0 ≤ x) (h1 : x ≤ 18446744073709551615) :
    Calls Try.prog 53 #[.agg (rowOf cs), .int .u64 x] w fun e w' => e = .returned (.agg (rowOf (cntUpd cs x))) ∧ Below w.heap.size w w' := by
  have hz := zero65_run
  have hzl : zero65.length = 65 := by decide
  obtain ⟨Z, hZ⟩ : ∃ Z, zero65 = Z := ⟨_, rfl⟩
  rw [hZ] at hz hzl
  have HZL := Lib.hid hzl
  have HL := Lib.hid hl
  obtain ⟨k, hk⟩ := Int.eq_ofNat_of_zero_le (bw_bound x h1).1
  have hk64 : k ≤ 64 := by have := (bw_bound x h1).2; omega
  have hof := of_any x
  rw [hk] at hof
  have hc1 := hbd (cs[k]?.getD 0) (by rw [List.getElem?_eq_getElem (by omega)]; exact List.getElem_mem _)
  have hupd : cntUpd cs x = cs.set k (cs[k]?.getD 0 + 1) := by unfold cntUpd; rw [hk]; rfl
  rw [hupd]
  obtain ⟨y, hy⟩ : ∃ y, cs[k]?.getD 0 = y := ⟨_, rfl⟩
  rw [hy] at hc1 ⊢
  obtain ⟨hy0, hy1⟩ := hc1
  have HY := Lib.hid hy
  have HOF := Lib.hid hof
  have HR : Hid (∀ ys : List Int, ys = ys) := Lib.hid fun _ => rfl
  obtain ⟨C, hC⟩ : ∃ C, rowOf cs = C := ⟨_, rfl⟩
  have HC := Lib.hid hC
  rw [hC]
  obtain ⟨ZZ, hZZ⟩ : ∃ ZZ, rowOf Z = ZZ := ⟨_, rfl⟩
  rw [hZZ] at hz
  have HZZ := Lib.hid hZZ
  clear hZ hzl hl hk hof hbd hupd hy hC hZZ
  go_enter Try.func53, Try.ntmps53
  go_wp2_with fail
  clear hz
  refine (HOF.out _ h0 h1).mono ?_
  rintro e w2 ⟨rfl, hw2⟩
  have ha : Arr w2 w.heap.size 52 cs := by rw [← hw2, ← HC.out]; exact (Arr.new _ _ _).alloc _
  have hr : Arr w2 (w.heap.size + 1) 52 Z := by
    rw [← hw2, ← HZZ.out]
    have := Arr.new (w.alloc (.cells C 52)) 52 Z
    rwa [World.size_alloc] at this
  have hb : Below w.heap.size w w2 := by rw [← hw2]; exact ((Below.refl _ _).alloc (Nat.le_refl _) _).alloc (by simp) _
  have hcell := ha.cell (k := k) (by rw [HL.out]; omega)
  rw [HY.out] at hcell
  have hfree := ha.free k
  have HA := Lib.hid ha
  have HRR := Lib.hid hr
  have HB := Lib.hid hb
  clear ha hr hb hw2
  have HL2 : Hid ((cs.set k (y + 1)).length = 65) := Lib.hid (by rw [List.length_set]; exact HL.out)
  have HA2 := Lib.hid (HA.out.set k (y + 1))
  have HR2 := Lib.hid (HRR.out.cell_other (g' := w.heap.size) (by omega) k (.int .i64 (y + 1)))
  have HB2 := Lib.hid (HB.out.setCell (p := ⟨w.heap.size, k, none⟩) (Nat.le_refl _) (.int .i64 (y + 1)))
  have hsz : (rowOf (cs.set k (y + 1))).size = 65 := by rw [rowOf_size]; exact HL2.out
  have HS := Lib.hid hsz
  clear hsz
  go_wp2_with (first | (refine wpList_load_row rfl 52 (.tmp 2) rfl w.heap.size rfl 52 (rowOf (cs.set k (y + 1))) (0, 0) _ HA2.out Try.underlying52 rfl (size65' _ HL2.out) ?_) | (refine wpList_store_row rfl 52 (.tmp 4) (.tmp 11) rfl (w.heap.size + 1) (rowOf (cs.set k (y + 1))) rfl rfl 52 (rowOf Z) HR2.out (size65' _ HL2.out) (by rw [rowOf_size, rowOf_size, HZL.out, HL2.out]) (rowOf_one _) ?_))
  (try simp only [Exit.inBlock, Exit.then])
  refine bodyPost_ret (results_cell_row (p := 4) (ty := 52) rfl _ _ (w.heap.size + 1) 52 (rowOf (cs.set k (y + 1))) (0, 0) _ rfl (HR2.out.setRow _) Try.underlying52 rfl (size65' _ HL2.out)) rfl ?_
  exact ⟨rfl, below_setRow HB2.out (by omega) _⟩

def counts (l : List Int) : List Int := l.foldl cntUpd zero65
theorem counts_snoc {l : List Int} {k : Nat} (h : k < l.length) : counts (l.take (k + 1)) = cntUpd (counts (l.take k)) (l[k]?.getD 0) := by
  unfold counts; rw [take_snoc h, List.foldl_append]; rfl
theorem cntUpd_len (c : List Int) (x : Int) : (cntUpd c x).length = c.length := by simp [cntUpd]
theorem counts_gen (l c : List Int) : (l.foldl cntUpd c).length = c.length ∧ (∀ b : Int, (∀ y ∈ c, 0 ≤ y ∧ y ≤ b) → 0 ≤ b → ∀ y ∈ l.foldl cntUpd c, 0 ≤ y ∧ y ≤ b + l.length) := by
  induction l generalizing c with
  | nil => exact ⟨rfl, fun b h _ y hy => by have := h y hy; simp; omega⟩
  | cons x r ih =>
    have := ih (cntUpd c x)
    refine ⟨this.1.trans (cntUpd_len c x), fun b h hb y hy => ?_⟩
    have h2 := this.2 (b + 1) (fun z hz => by
      unfold cntUpd at hz
      rcases List.mem_or_eq_of_mem_set hz with hz | rfl
      · have := h z hz; omega
      · by_cases hk : (bw x).toNat < c.length
        · have := h (c[(bw x).toNat]?.getD 0) (by rw [List.getElem?_eq_getElem hk]; exact List.getElem_mem _); omega
        · rw [List.getElem?_eq_none (by omega)]; simp; omega) (by omega) y hy
    simp; omega
theorem counts_len (l : List Int) : (counts l).length = 65 := (counts_gen l zero65).1
theorem counts_bd (l : List Int) : ∀ y ∈ counts l, 0 ≤ y ∧ y ≤ l.length := fun y hy => by
  have := (counts_gen l zero65).2 0 (fun z hz => by have : z = 0 := (List.mem_replicate.1 hz).2; omega) (by omega) y hy
  omega

set_option maxHeartbeats 2000000 in
theorem foldCount_any (A : Option Addr) (n c : Nat) (xs : List Int) (w : World) (h : Rd w .u64 A n c xs) (hn : n ≤ 1000) (hf : ∀ x ∈ xs, 0 ≤ x ∧ x ≤ 18446744073709551615) :
    Calls Try.prog 52 #[.slice A n c, .agg (rowOf zero65), .func (.func 53) #[] #[]] w fun e w' => e = .returned (.agg (rowOf (counts xs))) ∧ Below w.heap.size w w' := by
  have H := Lib.hid h
  have HF := Lib.hid hf
  have hz := zero65_run
  have hzl : zero65.length = 65 := by decide
  have h0 : counts (xs.take 0) = zero65 := rfl
  obtain ⟨Z, hZ⟩ : ∃ Z, zero65 = Z := ⟨_, rfl⟩
  rw [hZ] at hz hzl h0 ⊢
  have HZL := Lib.hid hzl
  have H0 := Lib.hid h0
  obtain ⟨ZZ, hZZ⟩ : ∃ ZZ, rowOf Z = ZZ := ⟨_, rfl⟩
  rw [hZZ] at hz ⊢
  have HZZ := Lib.hid hZZ
  clear h hf hzl hZ hZZ h0
  go_enter Try.func52, Try.ntmps52
  go_wp2
  clear hz
  go_loopw [8, 11, 12, 13, 14, 15, 16, 17, 18, 19] (fun _ v11 _ _ _ _ _ _ _ _ wr => ∃ i : Nat, v11 = .int .i64 i ∧ i ≤ n ∧ Hid (Arr wr w.heap.size 52 (counts (xs.take i)) ∧ Arr wr (w.heap.size + 1) 52 Z ∧ Below w.heap.size w wr)) (fun _ v11 _ _ _ _ _ _ _ _ _ => n - (intOf v11).toNat)
  case atStart =>
    refine ⟨0, rfl, by omega, Lib.hid ⟨?_, ?_, ((Below.refl _ _).alloc (Nat.le_refl _) _).alloc (by simp) _⟩⟩
    · rw [H0.out, ← HZZ.out]; exact (Arr.new _ _ _).alloc _
    · rw [← HZZ.out]
      have := Arr.new (w.alloc (.cells (rowOf Z) 52)) 52 Z
      rwa [World.size_alloc] at this
  case round =>
    obtain ⟨i, rfl, hi, hI⟩ := hrel
    have hcl := counts_len (xs.take i)
    by_cases hlt : i < n
    · obtain ⟨b', o, rfl, hbl, hc⟩ := (H.out.below hI.out.2.2).get (by omega)
      have hcell := hc i hlt
      rw [List.getD_eq_getElem?_getD] at hcell
      have hil : i < xs.length := by have := H.out.len; omega
      have e1 := counts_snoc (l := xs) (k := i) hil
      have hx1 := HF.out (xs[i]?.getD 0) (by rw [List.getElem?_eq_getElem hil]; exact List.getElem_mem _)
      obtain ⟨x, hx⟩ : ∃ x, xs[i]?.getD 0 = x := ⟨_, rfl⟩
      rw [hx] at hcell e1 hx1
      have hbd := counts_bd (xs.take i)
      have hbd2 : ∀ y ∈ counts (xs.take i), 0 ≤ y ∧ y ≤ 1000000 := fun y hy => by have := hbd y hy; have := List.length_take_le i xs; omega
      obtain ⟨cs, hcs⟩ : ∃ cs, counts (xs.take i) = cs := ⟨_, rfl⟩
      rw [hcs] at hcl hbd2 e1 hI
      have hcl2 : (cntUpd cs x).length = 65 := by rw [cntUpd_len, hcl]
      obtain ⟨ds, hds⟩ : ∃ ds, cntUpd cs x = ds := ⟨_, rfl⟩
      rw [hds] at e1 hcl2
      have hcount : ∀ w, Calls Try.prog 53 #[.agg (rowOf cs), .int .u64 x] w fun e w' => e = .returned (.agg (rowOf ds)) ∧ Below w.heap.size w w' := by
        intro w; have := count1_any cs x w hcl hbd2 hx1.1 hx1.2; rwa [hds] at this
      have E1 := Lib.hid e1
      have HCL := Lib.hid hcl
      have HCL2 := Lib.hid hcl2
      have HCO := Lib.hid hcount
      clear hc e1 hx hil hcl hcl2 hbd hbd2 hcs hds hcount hx1
      go_wp2_with (refine wpList_load_row rfl 52 (.tmp 4) rfl w.heap.size rfl 52 (rowOf cs) (0, 0) _ hI.out.1 Try.underlying52 rfl (size65' _ HCL.out) ?_)
      refine (HCO.out _).mono ?_
      rintro e w2 ⟨rfl, hb2⟩
      have hsz := hI.out.2.2.size
      have ha2 := hI.out.1.below hb2 (lt_of_block hI.out.1)
      have hr2 := hI.out.2.1.below hb2 (lt_of_block hI.out.2.1)
      have hb := hI.out.2.2.trans (hb2.mono hsz)
      have HA2 := Lib.hid ha2
      have HR2 := Lib.hid hr2
      have HB := Lib.hid hb
      clear ha2 hr2 hb hb2 hsz
      go_wp2_with (refine wpList_store_row rfl 52 (.tmp 4) (.tmp 18) rfl w.heap.size (rowOf ds) rfl rfl 52 (rowOf cs) HA2.out (size65' _ HCL2.out) (by rw [rowOf_size, rowOf_size, HCL.out, HCL2.out]) (rowOf_one _) ?_)
      go_roundw
      case rel => exact ⟨i + 1, by go_num, by omega, Lib.hid ⟨by rw [E1.out]; exact HA2.out.setRow _, HR2.out.row_other (by omega) _, below_setRow HB.out (Nat.le_refl _) _⟩⟩
      case measure => simp [intOf] <;> omega
    · obtain rfl : i = n := by omega
      have e : xs.take i = xs := List.take_of_length_le (by have := H.out.len; omega)
      rw [e] at hI hcl
      have HCL := Lib.hid hcl
      clear e hcl
      go_wp2_with (first | (refine wpList_load_row rfl 52 (.tmp 4) rfl w.heap.size rfl 52 (rowOf (counts xs)) (0, 0) _ hI.out.1 Try.underlying52 rfl (size65' _ HCL.out) ?_) | (refine wpList_store_row rfl 52 (.tmp 6) (.tmp 20) rfl (w.heap.size + 1) (rowOf (counts xs)) rfl rfl 52 (rowOf Z) hI.out.2.1 (size65' _ HCL.out) (by rw [rowOf_size, rowOf_size, HZL.out, HCL.out]) (rowOf_one _) ?_))
      (try simp only [Exit.inBlock, Exit.then])
      refine bodyPost_ret (results_cell_row (p := 6) (ty := 52) rfl _ _ (w.heap.size + 1) 52 (rowOf (counts xs)) (0, 0) _ rfl (hI.out.2.1.setRow _) Try.underlying52 rfl (size65' _ HCL.out)) rfl ?_
      exact ⟨rfl, below_setRow hI.out.2.2 (by omega) _⟩

theorem build65 (w : World) : True := trivial

set_option maxHeartbeats 1000000 in
theorem count_any (A : Option Addr) (n c : Nat) (xs : List Int) (w : World) (h : Rd w .u64 A n c xs) (hn : n ≤ 1000) (hf : ∀ x ∈ xs, 0 ≤ x ∧ x ≤ 18446744073709551615) :
    Calls Try.prog 38 #[.slice A n c] w fun e w' => e = .returned (.agg (rowOf (counts xs))) ∧ Below w.heap.size w w' := by
  have hfold : ∀ w', Rd w' .u64 A n c xs → Calls Try.prog 52 #[.slice A n c, .agg (rowOf zero65), .func (.func 53) #[] #[]] w' fun e w'' => e = .returned (.agg (rowOf (counts xs))) ∧ Below w'.heap.size w' w'' := fun w' h' => foldCount_any A n c xs w' h' hn hf
  have H := Lib.hid h
  have hz := zero65_run
  have hzl : zero65.length = 65 := by decide
  have hbuilt : (Try.prog.built 52 []) = some (rowOf zero65) := by kernel_rfl
  obtain ⟨Z, hZ⟩ : ∃ Z, zero65 = Z := ⟨_, rfl⟩
  rw [hZ] at hz hzl hbuilt hfold
  obtain ⟨ZZ, hZZ⟩ : ∃ ZZ, rowOf Z = ZZ := ⟨_, rfl⟩
  rw [hZZ] at hz hbuilt hfold
  have HFO := Lib.hid hfold
  have HZL := Lib.hid hzl
  have HZZ := Lib.hid hZZ
  have HCL := Lib.hid (counts_len xs)
  have HBU := Lib.hid hbuilt
  clear h hf hZ hZZ hzl hfold hn hbuilt
  go_enter Try.func38, Try.ntmps38
  go_wp2_with (refine wpList_build rfl 52 #[] rfl (by show (Try.prog.built _ []).isSome = true; rw [HBU.out]; rfl) ?_; rw [show (Try.prog.built 52 ((#[] : Array (Nat × Operand)).map fun (i, x) => (i, Act.eval _ x)).toList) = some ZZ from HBU.out]; simp only [Option.getD_some])
  clear hz
  refine (HFO.out _ (H.out.alloc _)).mono ?_
  rintro e w2 ⟨rfl, hb2⟩
  have hr : Arr w2 w.heap.size 52 Z := by
    have := Arr.new w 52 Z
    rw [HZZ.out] at this
    exact this.below hb2 (by simp)
  have HR := Lib.hid hr
  have HB := Lib.hid (((Below.refl w.heap.size w).alloc (Nat.le_refl _) _).trans (hb2.mono (by simp)))
  clear hr hb2
  go_wp2_with (refine wpList_store_row rfl 52 (.tmp 2) (.tmp 5) rfl w.heap.size (rowOf (counts xs)) rfl rfl 52 (rowOf Z) HR.out (size65' _ HCL.out) (by rw [rowOf_size, rowOf_size, HZL.out, HCL.out]) (rowOf_one _) ?_)
  (try simp only [Exit.inBlock, Exit.then])
  refine bodyPost_ret (results_cell_row (p := 2) (ty := 52) rfl _ _ w.heap.size 52 (rowOf (counts xs)) (0, 0) _ rfl (HR.out.setRow _) Try.underlying52 rfl (size65' _ HCL.out)) rfl ?_
  exact ⟨rfl, below_setRow HB.out (Nat.le_refl _) _⟩
end Go.Proofs.Ytibfbomihopgaaa
