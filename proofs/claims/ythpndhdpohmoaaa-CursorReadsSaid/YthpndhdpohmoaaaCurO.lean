/-
  An argument that is a slice of structs of a byte and an integer, opened.
-/
import Derived.Test.YthpndhdpohmoaaaCurA
import Derived.Deep.Slices
import Derived.ChangeArms
namespace Go.Cor
open Go Go.RowKit Go.ChangeShapes Go.WideShapes Go.Deep
def acells (ax : List (Int × Int)) : List Value := (ax.map fun a => [Value.int .u8 a.1, Value.int .i64 a.2]).flatten
theorem acells_len (ax : List (Int × Int)) : (acells ax).length = ax.length * 2 := by
  induction ax with
  | nil => rfl
  | cons z r ih => unfold acells at *; simp at *; omega
theorem acells_get : ∀ (ax : List (Int × Int)) (i k : Nat) (a : Int × Int), ax[i]? = some a → k < 2 → (acells ax)[i * 2 + k]? = [Value.int .u8 a.1, Value.int .i64 a.2][k]?
  | [], i, k, a, h, hk => by simp at h
  | b :: r, 0, k, a, h, hk => by
    simp at h; subst h
    show ([Value.int .u8 b.1, Value.int .i64 b.2] ++ acells r)[0 * 2 + k]? = _
    rw [List.getElem?_append_left (by simp; omega)]
    simp
  | b :: r, i + 1, k, a, h, hk => by
    show ([Value.int .u8 b.1, Value.int .i64 b.2] ++ acells r)[(i + 1) * 2 + k]? = _
    rw [List.getElem?_append_right (by simp; omega), ← acells_get r i k a (by simpa using h) hk]
    congr 1
    simp; omega
abbrev RdA (w : World) (A : Option Addr) (n c : Nat) (ax : List (Int × Int)) : Prop := RdV w 2 A n c (acells ax)
def AFit (a : Int × Int) : Prop := 0 ≤ a.1 ∧ a.1 ≤ 255 ∧ -9223372036854775808 ≤ a.2 ∧ a.2 ≤ 9223372036854775807
section
variable {H : Type} {enc : TypeId × Value → H} {P : Program} {w : World} {base : Nat} {spare : Nat → Bool} {held : Bool}
theorem open_two {e : TypeId} {f0 f1 : Field} {fuel : Nat} {cs : List Value} {x : DataW H × List MemPlace} (he : P.underlying e = some (.struct #[f0, f1]))
    (ce : P.cellsOf e = 2) (o0 : f0.offset = 0) (o1 : f1.offset = 1) (c0 : P.cellsOf f0.type = 1) (c1 : P.cellsOf f1.type = 1)
    (u0 : P.underlying f0.type = some (.int .u8)) (u1 : P.underlying f1.type = some (.int .i64))
    (h : DataW.trod enc P w base spare held fuel e cs = some x) : ∃ z : Int × Int, cs = [Value.int .u8 z.1, Value.int .i64 z.2] ∧ AFit z := by
  obtain ⟨xs, k, hk, hxy, hcl, hxl, hf⟩ := DataW.trod_struct he h
  rw [ce] at hcl
  match xs, hxl, cs, hcl with
  | [y0, y1], _, [v0, v1], _ =>
    have g0 := hf 0 f0 rfl
    have g1 := hf 1 f1 rfl
    simp [o0, o1, c0, c1] at g0 g1
    obtain ⟨n0, e0, _, w0⟩ := DataW.trod_int u0 g0
    obtain ⟨n1, e1, _, w1⟩ := DataW.trod_int u1 g1
    simp at e0 e1
    subst e0 e1
    have q0 := fits_of_wf w0
    have q1 := fits_of_wf w1
    exact ⟨⟨n0, n1⟩, rfl, q0.1, q0.2, q1.1, q1.2⟩
theorem open_acts {t e : TypeId} {f0 f1 : Field} {fuel : Nat} {cs : List Value} {x : DataW H × List MemPlace} (ht : P.underlying t = some (.slice e)) (he : P.underlying e = some (.struct #[f0, f1]))
    (ce : P.cellsOf e = 2) (o0 : f0.offset = 0) (o1 : f1.offset = 1) (c0 : P.cellsOf f0.type = 1) (c1 : P.cellsOf f1.type = 1)
    (u0 : P.underlying f0.type = some (.int .u8)) (u1 : P.underlying f1.type = some (.int .i64))
    (h : DataW.trod enc P w base spare held fuel t cs = some x) : ∃ A n c zs, cs = [.slice A n c] ∧ RdA w A n c zs ∧ ∀ z ∈ zs, AFit z := by
  rcases open_slice ht h with ⟨rfl, _⟩ | ⟨a, len, cap, m, n, D, Pl, rfl, hb, hl, hm, hmm, rfl, hx⟩
  · exact ⟨none, 0, 0, [], rfl, ⟨rfl, Nat.le_refl _, by simp [maxLen], fun _ => rfl, fun h => by omega⟩, fun z hz => by cases hz⟩
  have hlm : len ≤ m := by rw [hmm]; split <;> omega
  have each : ∀ i, i < len → ∃ z : Int × Int, (∀ k, k < 2 → w.cell? (a.add (i * 2 + k)) = [Value.int .u8 z.1, Value.int .i64 z.2][k]?) ∧ AFit z := by
    intro i hi
    obtain ⟨cs', h1, h2⟩ := hx i (by omega)
    rw [ce] at h1
    obtain ⟨_, hlen, hcell⟩ := World.cells?_some h1
    obtain ⟨z, rfl, hz⟩ := open_two he ce o0 o1 c0 c1 u0 u1 h2
    exact ⟨z, fun k hk => by rw [← add_add]; exact hcell k hk, hz⟩
  obtain ⟨q, hq⟩ := choose_lt each
  refine ⟨some a, len, cap, (List.range len).map q, rfl, ⟨?_, hl, hm, fun h => (by cases h), fun hp => ?_⟩, ?_⟩
  · rw [acells_len]; simp
  · obtain ⟨b, o, spot⟩ := a
    have h0 := (hq 0 hp).1 0 (by decide)
    have hs : spot = none := by simpa [Addr.add] using World.cell?_spot (w := w) (a := (⟨b, o, spot⟩ : Addr).add (0 * 2 + 0)) h0
    subst hs
    refine ⟨b, o, rfl, World.block_lt_of_cell? w _ h0, fun j u hu => ?_⟩
    have hj : j < len * 2 := by have := (List.getElem?_eq_some_iff.1 hu).1; rw [acells_len] at this; simpa using this
    have hg := acells_get ((List.range len).map q) (j / 2) (j % 2) (q (j / 2)) (by rw [List.getElem?_map, List.getElem?_range (by omega)]; rfl) (by omega)
    rw [show j / 2 * 2 + j % 2 = j by omega, hu] at hg
    have hc := (hq (j / 2) (by omega)).1 (j % 2) (by omega)
    rw [show j / 2 * 2 + j % 2 = j by omega, Addr.add_lit] at hc
    rw [hc, ← hg]
  · intro z hz
    obtain ⟨i, hi, rfl⟩ := List.mem_map.1 hz
    exact (hq i (by simpa using hi)).2
/-- the two cells of an act -/
theorem rdA_at {A : Option Addr} {n c i : Nat} {ax : List (Int × Int)} (h : RdA w A n c ax) (hi : i < n) : ∃ b o d m, A = some ⟨b, o, none⟩ ∧ b < w.heap.size ∧ ax[i]? = some (d, m) ∧ w.cell? ⟨b, o + i * 2, none⟩ = some (.int .u8 d) ∧ w.cell? ⟨b, o + i * 2 + 1, none⟩ = some (.int .i64 m) := by
  have hl := h.len
  rw [acells_len] at hl
  obtain ⟨b, o, e, hb, hc⟩ := h.get (by omega)
  have hz : ax[i]? = some ax[i] := List.getElem?_eq_getElem (by omega)
  have g0 := acells_get ax i 0 _ hz (by decide)
  have g1 := acells_get ax i 1 _ hz (by decide)
  exact ⟨b, o, _, _, e, hb, hz, hc _ _ g0, by have := hc _ _ g1; simpa [Nat.add_assoc] using this⟩
theorem rdA_cell {b o n c i : Nat} {d m : Int} {ax : List (Int × Int)} (h : RdA w (some ⟨b, o, none⟩) n c ax) (hz : ax[i]? = some (d, m)) : w.cell? ⟨b, o + i * 2, none⟩ = some (.int .u8 d) ∧ w.cell? ⟨b, o + i * 2 + 1, none⟩ = some (.int .i64 m) := by
  have hl := h.len
  rw [acells_len] at hl
  have hi : i < ax.length := (List.getElem?_eq_some_iff.1 hz).1
  obtain ⟨b', o', e, hb, hc⟩ := h.get (by omega)
  injection e with e
  injection e with e1 e2
  subst e1 e2
  exact ⟨hc _ _ (acells_get ax i 0 _ hz (by decide)), by have := hc _ _ (acells_get ax i 1 _ hz (by decide)); simpa [Nat.add_assoc] using this⟩
theorem Cu.keep0 {S : World → Nat → Prop} {w' : World} {T : TypeId} {p n c at_ : Nat} {A : Option Addr} {xs : List Int} (h : Cu w T p A n c xs at_) (hk : Keep S w w') (hp : S w p) (hA : 0 < n → ∀ b o, A = some ⟨b, o, none⟩ → S w b) : Cu w' T p A n c xs at_ := by
  by_cases hn : 0 < n
  · exact h.keep hk hp (hA hn)
  · exact ⟨(hk.block p (lt_of_block h.blk) hp).trans h.blk, ⟨h.rd.len, h.rd.cap, h.rd.max, h.rd.nil, fun h => absurd h hn⟩, h.ne, h.le, h.small, h.bytes⟩
end
end Go.Cor
