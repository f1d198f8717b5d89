/-
  Facts for regions that draw their order: slices that read as numbers, rows of the call's own; append onto an empty literal.
-/
import Derived.Test.YthpndhdpohmoaaaFree
import Derived.Test.YthpndhdpohmoaaaApp
namespace Go.Free
open Go Go.RowKit Go.Cor

def RdF (k : IntKind) (xs : List Int) : Fact := fun v w => ∃ A n c, v = .slice A n c ∧ Rd w k A n c xs
theorem RdF.stable (k : IntKind) (xs : List Int) : Stable (RdF k xs) := fun _ _ _ ⟨A, n, c, h1, h2⟩ hb => ⟨A, n, c, h1, h2.below hb⟩
def OwF (B : Nat) (E : TypeId) (k : IntKind) (xs : List Int) : Fact := fun v w => ∃ A n c, v = .slice A n c ∧ Owns w B E k A n c xs
theorem OwF.stable (B : Nat) (E : TypeId) (k : IntKind) (xs : List Int) : Stable (OwF B E k xs) := fun _ _ _ ⟨A, n, c, h1, h2⟩ hb =>
  ⟨A, n, c, h1, owns_keep (S := fun _ _ => True) h2 (.of_below hb) (fun _ _ _ => trivial)⟩
def LitF (B : Nat) (E : TypeId) : Fact := fun v w => ∃ g, v = .slice (some ⟨g, 0, none⟩) 0 0 ∧ B ≤ g ∧ w.heap[g]? = some (.cells #[] E (0, 0))
theorem LitF.stable (B : Nat) (E : TypeId) : Stable (LitF B E) := fun _ _ _ ⟨g, h1, h2, h3⟩ hb => ⟨g, h1, h2, (hb.block g (Array.getElem?_eq_some_iff.1 h3).1).trans h3⟩

theorem chain_append0 {P : Program} {ops : Array Oper} {a0 : Act} {w0 : World} {E : List Oper → Act → World → Prop} {n : Nat} {done : Done} {o : Oper} {rest : List Oper} {S : List Tmp} {base : Nat} {e t : TypeId} {k : IntKind} {xs : List Int} {z : Value} {bytes : Nat} {s x : Tmp}
    (ht : ElemT P t e z 1 bytes) (ho : o.op = .call { callee := .builtin .append, args := #[.tmp s, .tmp x], argTypes := #[t, t] }) (hS : o.looksAt ops = S) (hbase : base ≤ w0.heap.size)
    (h : ∀ ρ w, Env ρ → Below w0.heap.size w0 w → (∀ s ∈ S, look a0 done s (ρ (.tmp s)) w) → Region.wanted o (yieldedR ops ρ) = true ∧ LitF base e (ρ (.tmp s)) w ∧ RdF k xs (ρ (.tmp x)) w)
    (hbytes : xs.length * bytes ≤ 140737488355328) (h63 : xs.length ≤ 9223372036854775807)
    (hr : Chain P ops a0 w0 E n ((o.dst, OwF base e k xs) :: done) rest) : Chain P ops a0 w0 E (n + 1) done (o :: rest) := by
  refine chain_make (OwF base e k xs) (OwF.stable _ _ _ _) hS (fun ρ w hE hB hs => ?_) hr
  obtain ⟨hw, ⟨g, e1, h1, h2⟩, A, m, c, e2, h3⟩ := h ρ w hE hB hs
  obtain rfl := h3.len
  obtain ⟨A', c', w', hrun, hown, hbel⟩ := run_append_cap0 (P := P) ht o.type h1 h2 h3.toV hbytes h63 (Nat.le_trans hbase hB.size)
  refine ⟨hw, _, w', ?_, hbel, A', _, c', rfl, hown⟩
  unfold execOp
  simp only [ho, resolve, invoke, builtin, Sem.run_bind, Sem.run_pure, Result.andThen_ok, List.map_toArray, List.map_cons, List.map_nil, e1, e2, hrun]
end Go.Free
