/-
  WidthTells: for every input the law returns true; each argument reads behind the call as it read before. No condition. (Printed by wip/genTells.py.)
-/
import Derived.Test.YtibfbomihopgaaaWidA
import Derived.Test.YtibfbomihopgaaaWidF
import Derived.Test.YtibfbomihopgaaaWidC
import Derived.ChangeKeysEq
import Derived.ChangeOld
namespace Go.Proofs.Ytibfbomihopgaaa
open Go.RowKit Go.Cor Go.Free

theorem plain_int : Try.prog.plainKey 3 = true := by kernel_rfl
theorem items65 (xs : List Int) (hl : xs.length = 65) (w : World) : ∀ is : List Nat, (∀ i ∈ is, i < 65) → (Op.eqItems 9999 3 1 (rowOf xs) (rowOf xs) is).run Try.prog w = .ok true w
  | [], _ => by simp [Op.eqItems]
  | i :: is, h => by
    have hi := h i (by simp)
    have hx : (rowOf xs)[i * 1]? = some (.int .i64 (xs[i]?.getD 0)) := by
      unfold rowOf; rw [Nat.mul_one]; simp [hl, hi]
    have p := run_part_plain (P := Try.prog) w plain_int hx
    have q := run_equalIn_int (P := Try.prog) w 9998 3 .i64 .i64 (xs[i]?.getD 0) (xs[i]?.getD 0) Try.underlying3
    simp only [Op.eqItems, Sem.run_bind, p, Result.andThen_ok, q]
    simp only [beq_self_eq_true, Bool.not_true, Bool.false_eq_true, if_false]
    exact items65 xs hl w is (fun j hj => h j (by simp [hj]))
theorem cells_int : Try.prog.cellsOf 3 = 1 := by kernel_rfl
theorem equal65 (xs : List Int) (hl : xs.length = 65) (w : World) : (Op.equal 52 (.agg (rowOf xs)) (.agg (rowOf xs))).run Try.prog w = .ok true w := by
  unfold Op.equal
  show (Op.equalIn (9999 + 1) _ _ _).run _ _ = _
  cases hq : Try.prog.info? 3 with
  | none => have h : (Try.prog.info? 3).isSome = true := by kernel_rfl
            rw [hq] at h; cases h
  | some i =>
    rw [run_equalIn_array (P := Try.prog) w 9999 _ _ Try.underlying52 hq, cells_int]
    exact items65 xs hl w _ (fun j hj => List.mem_range.1 hj)
theorem guard65 (x y : Operand) (a b : Array Value) (w : World) : (eqGuard .eql 52 x y (.agg a) (.agg b)).run Try.prog w = .ok () w := by
  have h : Try.prog.eqGuardType Try.prog.depth 52 = false := by kernel_rfl
  unfold eqGuard
  simp [Sem.run_bind, h, go_sem]

set_option maxRecDepth 100000 in
set_option maxHeartbeats 4000000 in
theorem WidthTells_walk (W : World) (A : Option Addr) (n c : Nat) (xs : List Int) (h : Rd W .u64 A n c xs) (hi : In .u64 xs) :
    Calls Try.prog 10 #[.slice A n c] W fun e w' => e = .returned (.bool true) ∧ Below W.heap.size W w' := by
  by_cases hn : 200 < n
  · clear h hi
    go_enter Try.func10, Try.ntmps10
    go_wp2
    go_ret
    exact ⟨rfl, Below.refl _ _⟩
  have hn2 : n ≤ 200 := by omega
  clear hn
  have hf : ∀ x ∈ xs, 0 ≤ x ∧ x ≤ 18446744073709551615 := hi
  have H := Lib.hid h
  have HF := Lib.hid hf
  have hz := zero65_run
  have h0 : counts (xs.take 0) = zero65 := rfl
  obtain ⟨Z, hZ⟩ : ∃ Z, zero65 = Z := ⟨_, rfl⟩
  rw [hZ] at hz h0
  have H0 := Lib.hid h0
  obtain ⟨ZZ, hZZ⟩ : ∃ ZZ, rowOf Z = ZZ := ⟨_, rfl⟩
  rw [hZZ] at hz
  have HZZ := Lib.hid hZZ
  clear h hi hf hZ h0 hZZ
  go_enter Try.func10, Try.ntmps10
  go_wp2
  clear hz
  go_loopw [4, 8, 9, 10, 11, 12, 13, 14, 15, 16, 17, 18, 19, 20, 21, 22, 23, 24, 25, 26, 27, 28, 29, 30, 31, 32, 33] (fun v4 _ _ _ _ _ _ _ _ _ _ _ _ _ _ _ _ _ _ _ _ _ _ _ _ _ _ wr => ∃ i : Nat, v4 = .int .i64 i ∧ i ≤ n ∧ Hid (Arr wr W.heap.size 52 (counts (xs.take i)) ∧ Below W.heap.size W wr)) (fun v4 _ _ _ _ _ _ _ _ _ _ _ _ _ _ _ _ _ _ _ _ _ _ _ _ _ _ _ => n - (intOf v4).toNat)
  case atStart =>
    refine ⟨0, rfl, by omega, Lib.hid ⟨?_, (Below.refl _ _).alloc (Nat.le_refl _) _⟩⟩
    rw [H0.out, ← HZZ.out]; exact Arr.new _ _ _
  case round =>
    obtain ⟨i, rfl, hi, hI⟩ := hrel
    have hcl := counts_len (xs.take i)
    by_cases hlt : i < n
    · obtain ⟨b, o, rfl, hbl, hc⟩ := (H.out.below hI.out.2).get (by omega)
      have hcell := hc i hlt
      rw [List.getD_eq_getElem?_getD] at hcell
      have hil : i < xs.length := by have := H.out.len; omega
      have e1 := counts_snoc (l := xs) (k := i) hil
      have hx1 := HF.out (xs[i]?.getD 0) (by rw [List.getElem?_eq_getElem hil]; exact List.getElem_mem _)
      obtain ⟨x, hx⟩ : ∃ x, xs[i]?.getD 0 = x := ⟨_, rfl⟩
      rw [hx] at hcell e1 hx1
      obtain ⟨hx0, hx2⟩ := hx1
      have hbd := counts_bd (xs.take i)
      have hbd2 : ∀ y ∈ counts (xs.take i), 0 ≤ y ∧ y ≤ 1000000 := fun y hy => by have := hbd y hy; have := List.length_take_le i xs; omega
      obtain ⟨cs, hcs⟩ : ∃ cs, counts (xs.take i) = cs := ⟨_, rfl⟩
      rw [hcs] at hcl hbd2 e1 hI
      obtain ⟨k, hk⟩ := Int.eq_ofNat_of_zero_le (bw_bound x hx2).1
      have hk64 : k ≤ 64 := by have := (bw_bound x hx2).2; omega
      have hc1 := hbd2 (cs[k]?.getD 0) (by rw [List.getElem?_eq_getElem (by omega)]; exact List.getElem_mem _)
      have hupd : cntUpd cs x = cs.set k (cs[k]?.getD 0 + 1) := by unfold cntUpd; rw [hk]; rfl
      rw [hupd] at e1
      have hof := of_any x
      have hrof := refOf_any x
      rw [hk] at hof hrof
      obtain ⟨y, hy⟩ : ∃ y, cs[k]?.getD 0 = y := ⟨_, rfl⟩
      rw [hy] at hc1 e1
      obtain ⟨hy0, hy1⟩ := hc1
      have HY := Lib.hid hy
      have E1 := Lib.hid e1
      have HCL := Lib.hid hcl
      have HOF := Lib.hid hof
      have HROF := Lib.hid hrof
      have HC := Lib.hid hcell
      clear hc e1 hx hil hcl hbd hbd2 hcs hk hof hrof hupd hy hcell
      go_wp2_with fail
      refine wp_region_free 11 (by kernel_rfl) (by kernel_rfl) ?_
      refine chain_val (.slice (some ⟨b, o, none⟩) n c) (S := [0]) rfl ?_ ?_
      · intro ρ w' hE hB hs
        have h0 : ρ (.tmp 0) = .slice (some ⟨b, o, none⟩) n c := hs 0 (by decide)
        clear hs
        refine if_t (by rfl) ?_
        (go_simp <;> exact wrapi64_in _ (by omega) (by omega))
      refine chain_val (.int .i64 (i : Int)) (S := [4]) rfl ?_ ?_
      · intro ρ w' hE hB hs
        have h4 : ρ (.tmp 4) = .int .i64 (i : Int) := hs 4 (by decide)
        clear hs
        refine if_t (by rfl) ?_
        (go_simp <;> exact wrapi64_in _ (by omega) (by omega))
      refine chain_val (.pointer (some ⟨b, o + i, none⟩)) (S := [14, 15]) rfl ?_ ?_
      · intro ρ w' hE hB hs
        have h14 : ρ (.tmp 14) = .slice (some ⟨b, o, none⟩) n c := hs 14 (by decide)
        have h15 : ρ (.tmp 15) = .int .i64 (i : Int) := hs 15 (by decide)
        clear hs
        refine if_t (by rfl) ?_
        (go_simp <;> (intro hh; omega))
      refine chain_val (.int .u64 x) (S := [16]) rfl ?_ ?_
      · intro ρ w' hE hB hs
        have h16 : ρ (.tmp 16) = .pointer (some ⟨b, o + i, none⟩) := hs 16 (by decide)
        clear hs
        refine if_t (by rfl) ?_
        have hcl := (hB.cell (p := ⟨b, o + i, none⟩) hbl).trans HC.out
        go_simp
      refine chain_static (fun v__ _ => v__ = .int .i64 (k : Int)) (stable_eq _) (S := [17]) rfl (Go.Cor.enters_f Try.func34 (by kernel_rfl) rfl) rfl ?_ ?_
      · intro ρ w' hE hB hs
        have h17 : ρ (.tmp 17) = .int .u64 x := hs 17 (by decide)
        clear hs
        refine ⟨(by rfl), ?_⟩
        simp only [List.map_toArray, List.map_cons, List.map_nil, h17]
        refine (HOF.out w' hx0 hx2).mono ?_
        rintro e w'' ⟨rfl, rfl⟩
        exact ⟨_, rfl, Below.refl _ _, rfl⟩
      refine chain_val (.slice (some ⟨b, o, none⟩) n c) (S := [0]) rfl ?_ ?_
      · intro ρ w' hE hB hs
        have h0 : ρ (.tmp 0) = .slice (some ⟨b, o, none⟩) n c := hs 0 (by decide)
        clear hs
        refine if_t (by rfl) ?_
        (go_simp <;> exact wrapi64_in _ (by omega) (by omega))
      refine chain_val (.int .i64 (i : Int)) (S := [4]) rfl ?_ ?_
      · intro ρ w' hE hB hs
        have h4 : ρ (.tmp 4) = .int .i64 (i : Int) := hs 4 (by decide)
        clear hs
        refine if_t (by rfl) ?_
        (go_simp <;> exact wrapi64_in _ (by omega) (by omega))
      refine chain_val (.pointer (some ⟨b, o + i, none⟩)) (S := [19, 20]) rfl ?_ ?_
      · intro ρ w' hE hB hs
        have h19 : ρ (.tmp 19) = .slice (some ⟨b, o, none⟩) n c := hs 19 (by decide)
        have h20 : ρ (.tmp 20) = .int .i64 (i : Int) := hs 20 (by decide)
        clear hs
        refine if_t (by rfl) ?_
        (go_simp <;> (intro hh; omega))
      refine chain_val (.int .u64 x) (S := [21]) rfl ?_ ?_
      · intro ρ w' hE hB hs
        have h21 : ρ (.tmp 21) = .pointer (some ⟨b, o + i, none⟩) := hs 21 (by decide)
        clear hs
        refine if_t (by rfl) ?_
        have hcl := (hB.cell (p := ⟨b, o + i, none⟩) hbl).trans HC.out
        go_simp
      refine chain_static (fun v__ _ => v__ = .int .i64 (k : Int)) (stable_eq _) (S := [22]) rfl (Go.Cor.enters_f Try.func35 (by kernel_rfl) rfl) rfl ?_ ?_
      · intro ρ w' hE hB hs
        have h22 : ρ (.tmp 22) = .int .u64 x := hs 22 (by decide)
        clear hs
        refine ⟨(by rfl), ?_⟩
        simp only [List.map_toArray, List.map_cons, List.map_nil, h22]
        refine (HROF.out w' hx0 hx2).mono ?_
        rintro e w'' ⟨rfl, rfl⟩
        exact ⟨_, rfl, Below.refl _ _, rfl⟩
      refine chain_val (.bool false) (S := [18, 23]) rfl ?_ ?_
      · intro ρ w' hE hB hs
        have h18 : ρ (.tmp 18) = .int .i64 (k : Int) := hs 18 (by decide)
        have h23 : ρ (.tmp 23) = .int .i64 (k : Int) := hs 23 (by decide)
        clear hs
        refine if_t (by rfl) ?_
        (go_simp <;> exact wrapi64_in _ (by omega) (by omega))
      intro w1 hB1
      simp only [List.reverse_cons, List.reverse_nil, List.nil_append, List.cons_append, Go.Free.Ends, forall_eq, Act.put, List.setIfInBounds_toArray, List.set_cons_zero, List.set_cons_succ]
      have hxc := (hB1.cell (p := ⟨b, o + i, none⟩) hbl).trans HC.out
      have ha := hI.out.1.below hB1 (lt_of_block hI.out.1)
      have HA := Lib.hid ha
      have HB2 := Lib.hid (hI.out.2.trans (hB1.mono hI.out.2.size))
      have hcell := ha.cell (k := k) (by rw [HCL.out]; omega)
      rw [HY.out] at hcell
      have hfree := ha.free k
      clear ha hB1
      go_wp2_with fail
      refine (HROF.out w1 hx0 hx2).mono ?_
      rintro e w2 ⟨rfl, rfl⟩
      go_wp2
      go_roundw
      case rel => exact ⟨i + 1, by go_num, by omega, Lib.hid ⟨by rw [E1.out]; exact HA.out.set k (y + 1), HB2.out.setCell (p := ⟨W.heap.size, k, none⟩) (Nat.le_refl _) _⟩⟩
      case measure => simp [intOf] <;> omega
    · obtain rfl : i = n := by omega
      have e : xs.take i = xs := List.take_of_length_le (by have := H.out.len; omega)
      rw [e] at hI hcl
      have hmost := fun w h' => most_any A i c xs w h' (by omega) HF.out
      have hrmost := fun w h' => refMost_any A i c xs w h' (by omega) HF.out
      have hcount := fun w h' => count_any A i c xs w h' (by omega) HF.out
      have heq := fun w => equal65 (counts xs) hcl w
      obtain ⟨m, hm⟩ : ∃ m, most xs = m := ⟨_, rfl⟩
      obtain ⟨cs, hcs⟩ : ∃ cs, counts xs = cs := ⟨_, rfl⟩
      rw [hm] at hmost hrmost
      rw [hcs] at hcount heq hcl hI
      have HMO := Lib.hid hmost
      have HRMO := Lib.hid hrmost
      have HCO := Lib.hid hcount
      have HEQ := Lib.hid heq
      have HCL := Lib.hid hcl
      have HH := Lib.hid (H.out.below hI.out.2)
      clear hmost hrmost hcount heq hcl hm hcs e
      go_wp2_with fail
      refine wp_region_free 14 (by kernel_rfl) (by kernel_rfl) ?_
      refine chain_val (.slice A i c) (S := [0]) rfl ?_ ?_
      · intro ρ w' hE hB hs
        have h0 : ρ (.tmp 0) = .slice A i c := hs 0 (by decide)
        clear hs
        refine if_t (by rfl) ?_
        (go_simp <;> exact wrapi64_in _ (by omega) (by omega))
      refine chain_static (fun v__ _ => v__ = .int .i64 m) (stable_eq _) (S := [34]) rfl (Go.Cor.enters_f Try.func36 (by kernel_rfl) rfl) rfl ?_ ?_
      · intro ρ w' hE hB hs
        have h34 : ρ (.tmp 34) = .slice A i c := hs 34 (by decide)
        clear hs
        refine ⟨(by rfl), ?_⟩
        simp only [List.map_toArray, List.map_cons, List.map_nil, h34]
        refine (HMO.out w' (HH.out.below hB)).mono ?_
        rintro e w'' ⟨rfl, rfl⟩
        exact ⟨_, rfl, Below.refl _ _, rfl⟩
      refine chain_val (.slice A i c) (S := [0]) rfl ?_ ?_
      · intro ρ w' hE hB hs
        have h0 : ρ (.tmp 0) = .slice A i c := hs 0 (by decide)
        clear hs
        refine if_t (by rfl) ?_
        (go_simp <;> exact wrapi64_in _ (by omega) (by omega))
      refine chain_static (fun v__ _ => v__ = .int .i64 m) (stable_eq _) (S := [36]) rfl (Go.Cor.enters_f Try.func37 (by kernel_rfl) rfl) rfl ?_ ?_
      · intro ρ w' hE hB hs
        have h36 : ρ (.tmp 36) = .slice A i c := hs 36 (by decide)
        clear hs
        refine ⟨(by rfl), ?_⟩
        simp only [List.map_toArray, List.map_cons, List.map_nil, h36]
        refine (HRMO.out w' (HH.out.below hB)).mono ?_
        rintro e w'' ⟨rfl, rfl⟩
        exact ⟨_, rfl, Below.refl _ _, rfl⟩
      refine chain_val (.bool true) (S := [35, 37]) rfl ?_ ?_
      · intro ρ w' hE hB hs
        have h35 : ρ (.tmp 35) = .int .i64 m := hs 35 (by decide)
        have h37 : ρ (.tmp 37) = .int .i64 m := hs 37 (by decide)
        clear hs
        refine if_t (by rfl) ?_
        (go_simp <;> exact wrapi64_in _ (by omega) (by omega))
      refine chain_val (.bool true) (S := [38]) rfl ?_ ?_
      · intro ρ w' hE hB hs
        have h38 : ρ (.tmp 38) = .bool true := hs 38 (by decide)
        clear hs
        refine if_t (by rfl) ?_
        (go_simp <;> exact wrapi64_in _ (by omega) (by omega))
      refine chain_val (.slice A i c) (S := [0, 39]) rfl ?_ ?_
      · intro ρ w' hE hB hs
        have h0 : ρ (.tmp 0) = .slice A i c := hs 0 (by decide)
        have h39 : ρ (.tmp 39) = .bool true := hs 39 (by decide)
        clear hs
        refine if_t (by simp [Region.wanted, yieldedR, h39]) ?_
        (go_simp <;> exact wrapi64_in _ (by omega) (by omega))
      refine chain_static (fun v__ _ => v__ = .agg (rowOf cs)) (stable_eq _) (S := [40, 39]) rfl (Go.Cor.enters_f Try.func38 (by kernel_rfl) rfl) rfl ?_ ?_
      · intro ρ w' hE hB hs
        have h39 : ρ (.tmp 39) = .bool true := hs 39 (by decide)
        have h40 : ρ (.tmp 40) = .slice A i c := hs 40 (by decide)
        clear hs
        refine ⟨(by simp [Region.wanted, yieldedR, h39]), ?_⟩
        simp only [List.map_toArray, List.map_cons, List.map_nil, h40]
        refine (HCO.out w' (HH.out.below hB)).mono ?_
        rintro e w'' ⟨rfl, hb⟩
        exact ⟨_, rfl, hb, rfl⟩
      refine chain_val (.agg (rowOf cs)) (S := [3, 39]) rfl ?_ ?_
      · intro ρ w' hE hB hs
        have h3 : ρ (.tmp 3) = .pointer (some ⟨W.heap.size, 0, none⟩) := hs 3 (by decide)
        have h39 : ρ (.tmp 39) = .bool true := hs 39 (by decide)
        clear hs
        refine if_t (by simp [Region.wanted, yieldedR, h39]) ?_
        have hl := run_loadVar_row (P := Try.prog) w' W.heap.size 52 52 (rowOf cs) (0, 0) _ (hI.out.1.below hB (lt_of_block hI.out.1)) Try.underlying52 rfl (size65' _ HCL.out)
        unfold execOp
        simp only [h3, Instr.loadAt, Instr.sureAddr, Sem.run_bind, Sem.run_pure, Result.andThen_ok, hl]
      refine chain_val (.bool true) (S := [41, 42, 39]) rfl ?_ ?_
      · intro ρ w' hE hB hs
        have h39 : ρ (.tmp 39) = .bool true := hs 39 (by decide)
        have h41 : ρ (.tmp 41) = .agg (rowOf cs) := hs 41 (by decide)
        have h42 : ρ (.tmp 42) = .agg (rowOf cs) := hs 42 (by decide)
        clear hs
        refine if_t (by simp [Region.wanted, yieldedR, h39]) ?_
        have he : (Op.equalIn 10000 52 (.agg (rowOf cs)) (.agg (rowOf cs))).run Try.prog w' = .ok true w' := HEQ.out w'
        have hg := fun x y => guard65 x y (rowOf cs) (rowOf cs) w'
        go_simp
      refine chain_val (.bool true) (S := [39, 43]) rfl ?_ ?_
      · intro ρ w' hE hB hs
        have h39 : ρ (.tmp 39) = .bool true := hs 39 (by decide)
        have h43 : ρ (.tmp 43) = .bool true := hs 43 (by decide)
        clear hs
        have hc := hE.const
        refine if_t (by rfl) ?_
        (go_simp <;> exact wrapi64_in _ (by omega) (by omega))
      refine chain_val (.bool true) (S := [44]) rfl ?_ ?_
      · intro ρ w' hE hB hs
        have h44 : ρ (.tmp 44) = .bool true := hs 44 (by decide)
        clear hs
        refine if_t (by rfl) ?_
        (go_simp <;> exact wrapi64_in _ (by omega) (by omega))
      refine chain_static (fun v__ _ => v__ = .bool true) (stable_eq _) (S := [45]) rfl (Go.Cor.enters_f Try.func28 (by kernel_rfl) rfl) rfl ?_ ?_
      · intro ρ w' hE hB hs
        have h45 : ρ (.tmp 45) = .bool true := hs 45 (by decide)
        clear hs
        refine ⟨(by simp [Region.wanted, yieldedR, h45]), ?_⟩
        simp only [List.map_toArray, List.map_cons, List.map_nil, ]
        refine (awake06 w').mono ?_
        rintro e w'' ⟨rfl, hb⟩
        exact ⟨_, rfl, hb, rfl⟩
      refine chain_val (.bool true) (S := [45, 46]) rfl ?_ ?_
      · intro ρ w' hE hB hs
        have h45 : ρ (.tmp 45) = .bool true := hs 45 (by decide)
        have h46 : ρ (.tmp 46) = .bool true := hs 46 (by decide)
        clear hs
        have hc := hE.const
        refine if_t (by rfl) ?_
        (go_simp <;> exact wrapi64_in _ (by omega) (by omega))
      intro w1 hB1
      simp only [List.reverse_cons, List.reverse_nil, List.nil_append, List.cons_append, Go.Free.Ends, forall_eq, Act.put, List.setIfInBounds_toArray, List.set_cons_zero, List.set_cons_succ]
      go_wp2
      go_ret
      exact ⟨rfl, hI.out.2.trans (hB1.mono hI.out.2.size)⟩

namespace widthTells
open Go.ChangeShapes Go.WideShapes Go.ChangeAt Go.RowKit Go.Cor
set_option linter.unusedVariables false

set_option maxRecDepth 100000 in
theorem lifted (os : Os) (started : os.Started) (H : Type) (enc : TypeId × Value → H) :
    ReturnsInHanded {} Try.checked os 10 .any (Rows.widthTellsSpec.pre6 enc Try.prog Try.f10 Rows.widthTellsRow.domain false) (Rows.widthTellsSpec.post enc Try.prog Try.f10 false true false false) := by
  refine returnsInHanded_of_change (C := Try.checked) (by kernel_rfl : ownKnob Try.prog.godebug = none) started (by kernel_rfl) Try.func10
    (ChangeSpec.witness6 (enc := enc) (C := Try.checked) false ⟨#[], #[.slice none 0 0], []⟩ 8 (by kernel_rfl) (by kernel_rfl) (by kernel_rfl) (by kernel_rfl)) ?_
  intro W base args ds gs before hval0 hW hcnd _
  have hval : ∀ (j : Nat) t v, Try.f10.params[j]? = some t → args[j]? = some v → Value.okWide Try.prog W .any base t v := hval0
  have hW' := hW
  obtain ⟨p, q, hA0, hV, rfl, hfz, hnd⟩ := hW
  have hA : DataW.TrodAll enc Try.prog W 0 (fun _ => true) true Try.f10.params.toList args.toList ds p := hA0
  rw [Try.params10] at hA hval
  obtain ⟨v0, vs0, d0, ds0, p0, q0, hargs, rfl, rfl, h0, r0⟩ := trodAll_cons hA
  obtain ⟨rfl, rfl, rfl⟩ := trodAll_nil r0
  obtain rfl : args = #[v0] := by cases args; simp_all
  obtain ⟨rfl, rfl⟩ := trodVars_none hV
  obtain ⟨a0, len0, cap0, rfl⟩ := okWide_slice Try.underlying40 (hval 0 40 v0 rfl rfl)
  have k0 := h0
  have lt0 : ∀ x ∈ p0, x.block < W.heap.size := by obtain ⟨m, hm⟩ := k0; exact DataW.trod_lt m _ _ _ hm
  obtain ⟨x0, g0, b0⟩ : ∃ xs, Rd W .u64 a0 len0 cap0 xs ∧ In .u64 xs := by
    obtain ⟨fuel, hf⟩ := h0
    rcases open_ints Try.underlying40 Try.underlying23 (by kernel_rfl) hf with ⟨hcs, _⟩ | ⟨x, l, c, zs, hcs, _, hl, hm, hz, _, hcell, hwz⟩
    · simp [Value.cells] at hcs
      obtain ⟨rfl, rfl, rfl⟩ := hcs
      exact ⟨[], Rd.nilv _ _, fun _ h => by cases h⟩
    · simp [Value.cells] at hcs
      obtain ⟨rfl, rfl, rfl⟩ := hcs
      exact Rd.of_row hl hm hz hcell hwz
  clear hA0 hval0
  refine (WidthTells_walk W a0 len0 cap0 x0 g0 b0).mono fun e W' ⟨he, bel⟩ => ?_
  subst he
  exact ⟨_, rfl, _, _, _, [], _, [], hW', trodAll_mk1 (shut_bool Try.underlying4 _), (trodAll_cons_mk (Below.trod (by kernel_rfl : laidOutB Try.prog = true) (by kernel_rfl) (of_decide_eq_true (by kernel_rfl)) k0 bel lt0) trodAll_mk0), rfl, bel.frame _, fun h => by cases h⟩

theorem proved : Rows.WidthTellsSaid :=
  OpenClaim.holds_of_wide 10 Try.f10 rfl rfl rfl rfl rfl rfl rfl ⟨rfl, rfl, rfl, rfl, rfl⟩ rfl rfl rfl rfl rfl (by kernel_rfl) Try.func10 (by kernel_rfl)
    (of_decide_eq_true (by kernel_rfl)) (by unfold Func.isWrapper; first | (rw [if_pos (by decide +kernel)]; kernel_rfl) | (rw [if_neg (by decide +kernel)]; exact ⟨rfl, rfl⟩))
    (fun os started H enc _ => lifted os started H enc)
#print axioms proved
end widthTells
end Go.Proofs.Ytibfbomihopgaaa
