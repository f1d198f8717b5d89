/-
  An argument that is a slice of structs of four integers, opened.
-/
import Derived.Test.YthpndhdpohmoaaaZoneE
import Derived.Deep.Slices
import Derived.ChangeArms
namespace Go.Cor
open Go Go.RowKit Go.ChangeShapes Go.WideShapes Go.Deep
section
variable {H : Type} {enc : TypeId × Value → H} {P : Program} {w : World} {base : Nat} {spare : Nat → Bool} {held : Bool}
/-- four cells that read as a struct of four integers -/
theorem open_four {e : TypeId} {f0 f1 f2 f3 : Field} {fuel : Nat} {cs : List Value} {x : DataW H × List MemPlace} (he : P.underlying e = some (.struct #[f0, f1, f2, f3]))
    (ce : P.cellsOf e = 4) (o0 : f0.offset = 0) (o1 : f1.offset = 1) (o2 : f2.offset = 2) (o3 : f3.offset = 3) (c0 : P.cellsOf f0.type = 1) (c1 : P.cellsOf f1.type = 1) (c2 : P.cellsOf f2.type = 1) (c3 : P.cellsOf f3.type = 1)
    (u0 : P.underlying f0.type = some (.int .i64)) (u1 : P.underlying f1.type = some (.int .i64)) (u2 : P.underlying f2.type = some (.int .i64)) (u3 : P.underlying f3.type = some (.int .i64))
    (h : DataW.trod enc P w base spare held fuel e cs = some x) : ∃ z : Zn, cs = (zr z).toList ∧ ZFit z := by
  obtain ⟨xs, k, hk, hxy, hcl, hxl, hf⟩ := DataW.trod_struct he h
  rw [ce] at hcl
  match xs, hxl, cs, hcl with
  | [y0, y1, y2, y3], _, [v0, v1, v2, v3], _ =>
    have g0 := hf 0 f0 rfl
    have g1 := hf 1 f1 rfl
    have g2 := hf 2 f2 rfl
    have g3 := hf 3 f3 rfl
    simp [o0, o1, o2, o3, c0, c1, c2, c3] at g0 g1 g2 g3
    obtain ⟨n0, e0, _, w0⟩ := DataW.trod_int u0 g0
    obtain ⟨n1, e1, _, w1⟩ := DataW.trod_int u1 g1
    obtain ⟨n2, e2, _, w2⟩ := DataW.trod_int u2 g2
    obtain ⟨n3, e3, _, w3⟩ := DataW.trod_int u3 g3
    simp at e0 e1 e2 e3
    subst e0 e1 e2 e3
    exact ⟨⟨n0, n1, n2, n3⟩, rfl, ⟨fits_of_wf w0, fits_of_wf w1, fits_of_wf w2, fits_of_wf w3⟩⟩
theorem open_zones {t e : TypeId} {f0 f1 f2 f3 : Field} {fuel : Nat} {cs : List Value} {x : DataW H × List MemPlace} (ht : P.underlying t = some (.slice e)) (he : P.underlying e = some (.struct #[f0, f1, f2, f3]))
    (ce : P.cellsOf e = 4) (o0 : f0.offset = 0) (o1 : f1.offset = 1) (o2 : f2.offset = 2) (o3 : f3.offset = 3) (c0 : P.cellsOf f0.type = 1) (c1 : P.cellsOf f1.type = 1) (c2 : P.cellsOf f2.type = 1) (c3 : P.cellsOf f3.type = 1)
    (u0 : P.underlying f0.type = some (.int .i64)) (u1 : P.underlying f1.type = some (.int .i64)) (u2 : P.underlying f2.type = some (.int .i64)) (u3 : P.underlying f3.type = some (.int .i64))
    (h : DataW.trod enc P w base spare held fuel t cs = some x) : ∃ A n c zs, cs = [.slice A n c] ∧ RdZ w A n c zs ∧ ∀ z ∈ zs, ZFit z := by
  rcases open_slice ht h with ⟨rfl, _⟩ | ⟨a, len, cap, m, n, D, Pl, rfl, hb, hl, hm, hmm, rfl, hx⟩
  · exact ⟨none, 0, 0, [], rfl, ⟨rfl, Nat.le_refl _, by simp [maxLen], fun _ => rfl, fun h => by omega⟩, fun z hz => by cases hz⟩
  have hlm : len ≤ m := by rw [hmm]; split <;> omega
  have each : ∀ i, i < len → ∃ z : Zn, (∀ k, k < 4 → w.cell? (a.add (i * 4 + k)) = (zr z).toList[k]?) ∧ ZFit z := by
    intro i hi
    obtain ⟨cs', h1, h2⟩ := hx i (by omega)
    rw [ce] at h1
    obtain ⟨_, hlen, hcell⟩ := World.cells?_some h1
    obtain ⟨z, rfl, hz⟩ := open_four he ce o0 o1 o2 o3 c0 c1 c2 c3 u0 u1 u2 u3 h2
    exact ⟨z, fun k hk => by rw [← add_add]; exact hcell k hk, hz⟩
  have : Inhabited Zn := ⟨⟨0, 0, 0, 0⟩⟩
  obtain ⟨q, hq⟩ := choose_lt each
  refine ⟨some a, len, cap, (List.range len).map q, rfl, ⟨?_, hl, hm, fun h => (by cases h), fun hp => ?_⟩, ?_⟩
  · rw [zcells_len]; simp
  · obtain ⟨b, o, spot⟩ := a
    have h0 := (hq 0 hp).1 0 (by decide)
    have hs : spot = none := by simpa [Addr.add] using World.cell?_spot (w := w) (a := (⟨b, o, spot⟩ : Addr).add (0 * 4 + 0)) h0
    subst hs
    refine ⟨b, o, rfl, World.block_lt_of_cell? w _ h0, fun j u hu => ?_⟩
    have hj : j < len * 4 := by have := (List.getElem?_eq_some_iff.1 hu).1; rw [zcells_len] at this; simpa using this
    have hg := zcells_get ((List.range len).map q) (j / 4) (j % 4) (q (j / 4)) (by rw [List.getElem?_map, List.getElem?_range (by omega)]; rfl) (by omega)
    rw [show j / 4 * 4 + j % 4 = j by omega, hu] at hg
    have hc := (hq (j / 4) (by omega)).1 (j % 4) (by omega)
    rw [show j / 4 * 4 + j % 4 = j by omega, Addr.add_lit] at hc
    rw [hc, ← hg]
  · intro z hz
    obtain ⟨i, hi, rfl⟩ := List.mem_map.1 hz
    exact (hq i (by simpa using hi)).2
end
end Go.Cor
