/-
  A cursor, while the call's own rows grow.
-/
import Derived.Test.YthpndhdpohmoaaaCur
namespace Go.Cor
open Go Go.RowKit
theorem Mod.grown {T : Nat → Prop} {w0 w w' : World} {B : Nat} {v : Value} {E : TypeId} {size n : Nat} {xs : List Value} (h : Mod T w0 w) (hown : w.ownsRow B E size v n xs) (hg : w.grownBy w' v.ownBlock) (hB : w0.heap.size ≤ B) : Mod T w0 w' :=
  ⟨hg.os.trans h.os, hg.tape.trans h.tape, hg.output.trans h.output, Nat.le_trans h.size hg.size, fun k hk ht => (hg.block k (Nat.lt_of_lt_of_le hk h.size) (fun e => by have := (hown.lt k e.symm).1; omega)).trans (h.block k hk ht)⟩
theorem Cu.of_mod {w w' : World} {T : TypeId} {p : Nat} {A : Option Addr} {n c : Nat} {xs : List Int} {a b : Nat} (h : Cu w T p A n c xs a) (hm : Mod (· = p) w w') (hb : w'.heap[p]? = some (.cells #[.slice A n c, .int .i64 b] T (0, 0))) (hle : b ≤ n) : Cu w' T p A n c xs b :=
  ⟨hb, h.rd.keep hm.size fun k hk ⟨o, ho⟩ => hm.block k hk (h.ne k o ho), h.ne, hle, h.small, h.bytes⟩
/-- a reading, then an append onto a row of the call's own -/
theorem Cu.grown {w0 w w' : World} {T : TypeId} {p : Nat} {A : Option Addr} {n c : Nat} {xs : List Int} {a0 a : Nat} {B : Nat} {v : Value} {E : TypeId} {size m : Nat} {vs : List Value} (h0 : Cu w0 T p A n c xs a0) (hm : Mod (· = p) w0 w) (h : Cu w T p A n c xs a)
    (hown : w.ownsRow B E size v m vs) (hB : w0.heap.size ≤ B) (hg : w.grownBy w' v.ownBlock) : Cu w' T p A n c xs a ∧ Mod (· = p) w0 w' := by
  have hm' := hm.grown hown hg hB
  refine ⟨h0.of_mod hm' ((hg.block p h.lt fun e => ?_).trans h.blk) h.le, hm'⟩
  have := (hown.lt p e.symm).1
  have := h0.lt
  omega
end Go.Cor
