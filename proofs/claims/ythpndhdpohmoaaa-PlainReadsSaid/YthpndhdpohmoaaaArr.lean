/-
  Arguments that are arrays of three numbers, opened. Nothing here speaks of a program.
-/
import Derived.Test.YthpndhdpohmoaaaBase
import Derived.ChangeSame
import Derived.JoinedOf
import Derived.JoinedAt
import Derived.RowKit3
import Derived.Laws.IdiomArrays
namespace Go.Cor
open Go Go.RowKit Go.ChangeShapes Go.WideShapes
theorem list3 {α : Type} (l : List α) (h : (⟨l⟩ : Array α).size = 3) : ∃ a b c, l = [a, b, c] := by
  match l, h with
  | [a, b, c], _ => exact ⟨a, b, c, rfl⟩
theorem open_arr3 {H : Type} {enc : TypeId × Value → H} {P : Program} {w : World} {base b0 : Nat} {spare : Nat → Bool} {held : Bool} {r : Reach} {t e : TypeId} {k : IntKind} {v : Value} {d : DataW H} {ps : List MemPlace}
    (ht : P.underlying t = some (.array 3 e)) (he : P.underlying e = some (.int k)) (hce : P.cellsOf e = 1) (hct : P.cellsOf t = 3) (hval : Value.okWide P w r b0 t v) (hd : DataW.Trod enc P w base spare held t v d ps) :
    ∃ x0 x1 x2, v = .agg #[.int k x0, .int k x1, .int k x2] ∧ Fits k x0 ∧ Fits k x1 ∧ Fits k x2 := by
  obtain ⟨cs, rfl, hsz, _⟩ : ∃ cs, v = .agg cs ∧ cs.size = P.cellsOf t ∧ Row.okWide P w r b0 t cs := by
    have := hval
    simpa [Value.okWide, ht] using this
  rw [hct] at hsz
  obtain ⟨l⟩ := cs
  obtain ⟨c0, c1, c2, rfl⟩ := list3 l hsz
  obtain ⟨fuel, hf⟩ := hd
  obtain ⟨y0, y1, y2, m, hx, hy0, hy1, hy2⟩ := trod_array3 ht hce hf
  obtain ⟨x0, e0, rfl, w0⟩ := DataW.trod_int he hy0
  obtain ⟨x1, e1, rfl, w1⟩ := DataW.trod_int he hy1
  obtain ⟨x2, e2, rfl, w2⟩ := DataW.trod_int he hy2
  simp at e0 e1 e2
  subst e0 e1 e2
  exact ⟨_, _, _, rfl, fits_of_wf w0, fits_of_wf w1, fits_of_wf w2⟩
end Go.Cor
