/-
  Chapter 9: what the row lists of the table of shapes, opened; the door's own heap meets it.
-/
import Derived.Test.YtaohdbagcfgoeaaDoorRows
import Derived.ProofKit
import Derived.LaidMore
import Derived.OpenShut
import Derived.ChangeSame
import Derived.Stop.Joined
import Derived.Test.YtaohdbagcfgoeaaDoorG19
namespace Go.Cor
open Go Go.RowKit
theorem shp_at {i : Nat} (h : i < 16) : shp[i]? = some (smany i, sbits i) := by
  unfold smany sbits
  rw [List.getElem?_eq_getElem (show i < shp.length from h)]; rfl
end Go.Cor
namespace Go.Proofs.YtaohdbagcfgoeaaDoor
open Go.ChangeShapes Go.WideShapes Go.ChangeAt Go.RowKit Go.Cor

/-- what the row lists -/
abbrev laidS : List (String × DataW Unit) := [("corduroy/simple.shapes", Rows.laid_corduroy_simple_shapes)]
theorem gShapes : Tryd.prog.globalNamed "corduroy/simple.shapes" = some 0 := by kernel_rfl
theorem tShapes : (Tryd.prog.globals[0]?).map (·.type) = some 68 := by kernel_rfl
theorem laid_shp {H : Type} : (Rows.laid_corduroy_simple_shapes : DataW H) = .agg (shp.map fun s => .agg [.lit (.int .i64 s.1), .lit (.int .i64 s.2)]) := rfl
set_option maxRecDepth 100000 in
theorem of_laid {W : World} (h : laidMetH Tryd.prog laidS W) : Shp W := by
  rw [MakeChecks.laidMetH_plain _ _ _ (by kernel_rfl)] at h
  obtain ⟨ps, ⟨g0, t0, cs0, f0, p0, q0, hg0, ht0, hv0, hd0, _, _⟩, _, _⟩ := h
  obtain rfl := Option.some.inj (gShapes.symm.trans hg0)
  obtain rfl := Option.some.inj (tShapes.symm.trans ht0)
  obtain ⟨xs, m1, rfl, hx1, hlen, hn, hel⟩ := DataW.trod_array Tryd.underlying68 hd0
  have c2 : Tryd.prog.cellsOf 67 = 2 := by kernel_rfl
  have c1 : Tryd.prog.cellsOf 3 = 1 := by kernel_rfl
  rw [laid_shp] at hx1
  simp only [Prod.mk.injEq, DataW.agg.injEq] at hx1
  have hcell : ∀ j, W.cell? ⟨0, j, none⟩ = cs0[j]? := World.var?_cell hg0 hv0
  have key : ∀ i, i < 16 → cs0.toList[i * 2]? = some (.int .i64 (smany i)) ∧ cs0.toList[i * 2 + 1]? = some (.int .i64 (sbits i)) := by
    intro i hi
    have h1 := hel i hi
    obtain ⟨y, hy⟩ : ∃ y, xs[i]? = some y := ⟨_, List.getElem?_eq_getElem (by omega)⟩
    have h2 := congrArg (fun l => l[i]?) hx1.1
    simp only [List.getElem?_map, shp_at hi, hy, Option.map_some, Option.some.injEq] at h2
    rw [hy, c2] at h1
    obtain ⟨y0, y1, n, e1, _, e3, e4⟩ := trod_struct2 Tryd.underlying67 h1
    rw [e1] at h2
    simp only [DataW.agg.injEq, List.cons.injEq, and_true] at h2
    obtain ⟨a0, b0, d0, _⟩ := DataW.trod_int Tryd.underlying3 (show DataW.trod _ Tryd.prog W 0 _ _ n 3 _ = some y0 from e3)
    obtain ⟨a1, b1, d1, _⟩ := DataW.trod_int Tryd.underlying3 (show DataW.trod _ Tryd.prog W 0 _ _ n 3 _ = some y1 from e4)
    rw [d0, d1] at h2
    simp only [DataW.lit.injEq, Lit.int.injEq, true_and] at h2
    have q0 : ((cs0.toList.drop (i * 2)).take 2)[0]? = some (.int .i64 a0) := by
      have := congrArg (fun l => l[0]?) b0
      simpa [c1] using this
    have q1 : ((cs0.toList.drop (i * 2)).take 2)[1]? = some (.int .i64 a1) := by
      have := congrArg (fun l => l[0]?) b1
      simpa [c1] using this
    rw [List.getElem?_take_of_lt (by decide), List.getElem?_drop] at q0 q1
    exact ⟨by rw [h2.1]; exact q0, by rw [h2.2]; exact q1⟩
  refine ⟨?_, fun j v hv => ?_⟩
  · have h0 := (key 0 (by decide)).1
    exact World.block_lt_of_cell? W ⟨0, 0, none⟩ (by rw [hcell]; simpa using h0)
  · have hj : j < 32 := (List.getElem?_eq_some_iff.1 hv).1
    rw [Nat.zero_add, hcell, ← Array.getElem?_toList]
    have hk := key (j / 2) (by omega)
    have hs := shpL_at (j / 2) (by omega)
    rcases Nat.mod_two_eq_zero_or_one j with e | e
    · have ej : j / 2 * 2 = j := by omega
      rw [ej] at hk hs
      rw [hk.1, ← hs.1, hv]
    · have ej : j / 2 * 2 + 1 = j := by omega
      rw [ej] at hk hs
      rw [hk.2, ← hs.2, hv]
/-- the door's own heap meets it -/
theorem door_met (os : Os) (args : Array Value) : laidMetH Tryd.prog laidS ((World.doorLaid Tryd.prog 400 os).forCall (fun _ _ => 0) ⟨#[], args, []⟩).memory :=
  laidMetH_of_parts3 (fuel := 8) (laidMet_of_run' 8 (by kernel_rfl) (by kernel_rfl)) (by kernel_rfl) (by kernel_rfl)
end Go.Proofs.YtaohdbagcfgoeaaDoor
