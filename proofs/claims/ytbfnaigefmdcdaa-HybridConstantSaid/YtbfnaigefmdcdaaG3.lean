/-
  
  Words on memory that all walks of these claims use: a slice that reads as numbers, boxes, rows of the call's own. Nothing here speaks of a program.
  append, by laws that take a source that may be nil, and hand the new slice over in its own form; plain and fenced.
  Facts for regions that draw their order: slices that read as numbers, rows of the call's own; append onto an empty literal.
-/
import Derived.RangeFuncRecord
import Derived.RangeFuncOwn
import Derived.RangeFuncCalls
import Derived.Below
import Derived.Laws.OwnMore
import Derived.Laws.BytesArg
import Derived.Laws.BytesString
import Derived.Maps.AppendAt
import Derived.OneCell
import Derived.Lib.Hide
import Derived.OwnWalk
import Derived.OwnWalkIn
import Derived.Laws.Concat
import Derived.Test.YtbfnaigefmdcdaaG2
namespace Go.Cor
open Go Go.RowKit

/-- what is kept from W to W': the streams, and each block that S names -/
structure Keep (S : World → Nat → Prop) (W W' : World) : Prop where
  os : W'.os = W.os
  tape : W'.tape = W.tape
  output : W'.output = W.output
  size : W.heap.size ≤ W'.heap.size
  block : ∀ k, k < W.heap.size → S W k → W'.heap[k]? = W.heap[k]?

theorem Keep.refl (S : World → Nat → Prop) (W : World) : Keep S W W := ⟨rfl, rfl, rfl, Nat.le_refl _, fun _ _ _ => rfl⟩
theorem Keep.weak {S S' : World → Nat → Prop} {W W' : World} (h : Keep S W W') (hs : ∀ k, k < W.heap.size → S' W k → S W k) : Keep S' W W' :=
  ⟨h.os, h.tape, h.output, h.size, fun k hk h1 => h.block k hk (hs k hk h1)⟩
theorem Keep.trans {S : World → Nat → Prop} {A B C : World} (h : Keep S A B) (k : Keep S B C) (hs : ∀ i, i < A.heap.size → S A i → S B i) : Keep S A C :=
  ⟨k.os.trans h.os, k.tape.trans h.tape, k.output.trans h.output, Nat.le_trans h.size k.size, fun i hi h1 => (k.block i (Nat.lt_of_lt_of_le hi h.size) (hs i hi h1)).trans (h.block i hi h1)⟩
theorem Keep.of_below {S : World → Nat → Prop} {W W' : World} (h : Below W.heap.size W W') : Keep S W W' := ⟨h.os, h.tape, h.output, h.size, fun k hk _ => h.block k hk⟩
theorem Keep.alloc (S : World → Nat → Prop) (W : World) (o : Obj) : Keep S W (W.alloc o) := .of_below ((Below.refl _ _).alloc (Nat.le_refl _) o)
theorem Keep.setCell {S : World → Nat → Prop} (W : World) {p : Addr} (h : ¬ S W p.block) (u : Value) : Keep S W (W.setCell p u) :=
  ⟨rfl, rfl, rfl, by simp [World.setCell], fun k hk hs => Below.heap_setCell _ _ _ _ (fun e => h (e ▸ hs))⟩
theorem Keep.putObj {S : World → Nat → Prop} (W : World) {l : Nat} (h : ¬ S W l) (o : Obj) : Keep S W (W.putObj l o) :=
  ⟨rfl, rfl, rfl, by simp, fun k _ hs => World.putObj_heap_other (fun e => h (e ▸ hs))⟩
theorem Keep.grown {S : World → Nat → Prop} {W W' : World} {row : Option Nat} (hg : W.grownBy W' row) (h : ∀ k, row = some k → ¬ S W k) : Keep S W W' :=
  ⟨hg.os, hg.tape, hg.output, hg.size, fun k hk hs => hg.block k hk (fun e => h k e.symm hs)⟩

def NonCell (W : World) (k : Nat) : Prop := ∃ o : Obj, W.heap[k]? = some o ∧ o.isCells = false

/-- what a round keeps: the iterator's blocks T, and whatever is no cells -/
abbrev RoundKeep (T : Nat → Prop) := Keep (fun W k => T k ∨ NonCell W k)
/-- what the iterator and the loop's own book-keeping keep: all but the blocks Tw, and of what has been laid from N on what is no cells -/
abbrev StepKeep (Tw : Nat → Prop) (N : Nat) := Keep (fun W k => ¬ Tw k ∧ ¬ (N ≤ k ∧ NonCell W k))

theorem RoundKeep.trans {T : Nat → Prop} {A B C : World} (h : RoundKeep T A B) (k : RoundKeep T B C) : RoundKeep T A C :=
  Keep.trans h k fun i hi hs => by
    rcases hs with hs | ⟨o, ho, hc⟩
    · exact .inl hs
    · exact .inr ⟨o, by rw [h.block i hi (.inr ⟨o, ho, hc⟩)]; exact ho, hc⟩

variable {α : Type} {P : Program}

/-- **AN ITERATOR's CONTRACT**: called with yield, it hands out xs, one after the other, if no round says 'no more'; between two rounds it writes its own blocks Tw alone (and new ones); of the rounds it asks that they keep the blocks T. -/
def Iter (P : Program) (g : Nat) (lb : Array Value) (encs : α → Array Value) (xs : List α) (T Tw : Nat → Prop) (w0 : World) : Prop :=
  ∀ (l : Nat) (J : List α → World → Prop) (W : World), Keep (fun _ k => T k) w0 W → w0.heap.size ≤ W.heap.size →
    (∀ pre W1 W2, J pre W1 → Keep (fun _ k => ¬ Tw k) W1 W2 → J pre W2) →
    (∀ pre x W1, (pre ++ [x]) <+: xs → J pre W1 → YieldAt Fence.wide 0 P l (encs x) W1 fun e W' => e = .returned (.bool true) ∧ J (pre ++ [x]) W' ∧ Keep (fun _ k => T k) W1 W') →
    J [] W →
    CallsIn Fence.wide 0 P g (#[.func (.yield l) #[] #[]] ++ lb) W fun e W' => (∃ v, e = .returned v) ∧ J xs W'

/-- how a round's body must be left -/
def roundEnd (T : Nat → Prop) (I : World → Prop) (W : World) : Exit → Act → World → Prop
  | .normal, _, W' => RoundKeep T W W' ∧ I W'
  | _, _, _ => False

theorem enters_f {f : FuncId} {fn : Func} {c : Code} (hf : P.funcs[f]? = some fn) (hname : (fn.name == "runtime.NumGoroutine") = false) (hb : fn.body = some c) (args : Array Value) (w : World) : (callFunc f args).run P w = .ok (.enter f args) w := by
  have h1 : fn.name ≠ "runtime.NumGoroutine" := by simpa using hname
  simp [callFunc, hf, h1, hb, mark]
theorem wide_fn (f : FuncId) : Fence.wide.fn f := trivial

/-- **THE STATEMENT 'for x := range seq { body }'** in an activation's own frame, no round leaving it. -/
theorem wpIn_range {g : Operand} {ps : Array Tmp} {assign body : Code} {Q : Exit → Act → World → Prop} {a : Act} {w : World}
    {gf : Nat} {lb : Array Value} (hg : a.eval g = .func (.func gf) #[] lb) (eg : ∀ args w, (callFunc gf args).run P w = .ok (.enter gf args) w)
    {encs : α → Array Value} {xs : List α} {T Tw : Nat → Prop} {w0 : World} (hseq : Iter P gf lb encs xs T Tw w0) (hw0 : Keep (fun _ k => T k) w0 w) (hTs : ∀ k, T k → k < w.heap.size) (hTw : ∀ k, Tw k → k < w.heap.size)
    (hps : ∀ x, (encs x).size = ps.size)
    (I : List α → World → Prop) (hI : ∀ pre W W', I pre W → StepKeep Tw w.heap.size W W' → I pre W') (h0 : I [] w)
    (hround : ∀ (l : Nat) (pre : List α) (x : α) (W : World), (pre ++ [x]) <+: xs → I pre W → w.heap.size ≤ W.heap.size →
      assign.wpIn (Fence.wide.inRound l) 0 P (Exit.then (fun a₁ W₁ => RoundKeep T W W₁ ∧ I pre W₁ ∧ ∀ W₂, I pre W₂ → StepKeep (fun _ => False) w.heap.size W₁ W₂ →
        body.wpIn (Fence.wide.inRound l) 0 P (roundEnd T (I (pre ++ [x])) W₂) a₁ W₂) (fun _ _ _ => False))
        { tmps := (ps.zip (encs x)).foldl (fun t (p, v) => t.setIfInBounds p v) a.tmps, defers := [] } W)
    (hdone : ∀ (D : Nat) (W : World), w.heap.size ≤ D → I xs W → W.heap[D]? = some (.deferred (some [])) → Q .normal { a with defers := { target := .collected D, args := #[] } :: a.defers } W) :
    (Code.rangeFunc g ps assign body).wpIn Fence.wide 0 P Q a w := by
  refine wpIn_rangeFunc ?_
  intro fn hfn
  rw [show Fence.wide.round = none from rfl]
  obtain ⟨rec, hrec⟩ : ∃ rec : LoopState → Option Code → Loop, rec = fun st pe => { state := st, pending := pe, fn, tmps := a.tmps, params := ps, assign, body, defers := w.heap.size } := ⟨_, rfl⟩
  obtain ⟨W1, hW1⟩ : ∃ W1, (w.alloc (.deferred (some []))).alloc (.loop (rec .ready none)) = W1 := ⟨_, rfl⟩
  have hs1 : W1.heap.size = w.heap.size + 2 := by rw [← hW1]; simp
  have hL1 : W1.heap[w.heap.size + 1]? = some (.loop (rec .ready none)) := by
    rw [← hW1]; have := World.alloc_heap_new (w.alloc (.deferred (some []))) (.loop (rec .ready none)); rwa [World.size_alloc] at this
  have hK1 : W1.heap[w.heap.size]? = some (.deferred (some [])) := by
    rw [← hW1]; exact (Below.heap_alloc _ _ _ (by simp)).trans (World.alloc_heap_new w _)
  have hbl : Below w.heap.size w W1 := by rw [← hW1]; exact ((Below.refl _ w).alloc (Nat.le_refl _) _).alloc (by simp) _
  have hI1 : I [] W1 := hI _ _ _ h0 (.of_below hbl)
  refine ⟨w.heap.size + 1, [{ target := .collected w.heap.size, args := #[] }], W1, { target := .fn (.func gf) lb, args := #[.func (.yield (w.heap.size + 1)) #[] #[]] }, W1, gf,
    #[.func (.yield (w.heap.size + 1)) #[] #[]] ++ lb, W1, ?_, ?_, fun _ _ => trivial, ?_, fun h => (by cases h), ?_⟩
  · rw [← hW1, hrec]; exact run_enterLoop_outer _ _ _ _ _
  · simp only [resolve, hg]
    simp [go_sem]
  · simp [invoke, go_sem, eg]
  · have hTl : ¬ T (w.heap.size + 1) := fun h => by have := hTs _ h; omega
    have hTwl : ¬ Tw (w.heap.size + 1) := fun h => by have := hTw _ h; omega
    have hTwD : ¬ Tw w.heap.size := fun h => by have := hTw _ h; omega
    refine (hseq (w.heap.size + 1)
      (fun pre W => I pre W ∧ W.heap[w.heap.size + 1]? = some (.loop (rec .ready none)) ∧ W.heap[w.heap.size]? = some (.deferred (some [])))
      W1 (hw0.trans (.of_below hbl) fun _ _ h => h) (Nat.le_trans hw0.size hbl.size) ?_ ?_ ⟨hI1, hL1, hK1⟩).mono ?_
    · rintro pre A B ⟨hi, hl, hk⟩ hkeep
      exact ⟨hI _ _ _ hi (hkeep.weak fun k _ h => h.1), (hkeep.block _ (Array.getElem?_eq_some_iff.1 hl).1 hTwl).trans hl, (hkeep.block _ (Array.getElem?_eq_some_iff.1 hk).1 hTwD).trans hk⟩
    · rintro pre x W hpre ⟨hi, hl, hk⟩
      have hlt : w.heap.size + 1 < W.heap.size := (Array.getElem?_eq_some_iff.1 hl).1
      have hy := run_yield (P := P) (args := encs x) hl (by rw [hrec]; exact hps x)
      rw [hrec] at hy
      refine ⟨fn, _, assign, body, hy, roundIn_of_wpIn hfn (wpIn_mono (hround _ pre x W hpre hi (by omega)) ?_)⟩
      intro e a1 W2 h
      cases e with
      | normal =>
        obtain ⟨hk2, hi2, hb⟩ := h
        have hlc : NonCell W (w.heap.size + 1) := ⟨_, hl, rfl⟩
        have hDc : NonCell W w.heap.size := ⟨_, hk, rfl⟩
        have hl2 : W2.heap[w.heap.size + 1]? = some (.loop (rec .ready none)) := (hk2.block _ hlt (.inr hlc)).trans hl
        have hD2 : W2.heap[w.heap.size]? = some (.deferred (some [])) := (hk2.block _ (by omega) (.inr hDc)).trans hk
        have hlt2 : w.heap.size + 1 < W2.heap.size := Nat.lt_of_lt_of_le hlt hk2.size
        refine ⟨_, run_beginRound hl2 (by rw [hrec]), ?_⟩
        obtain ⟨W3, hW3⟩ : ∃ W3, W2.putObj (w.heap.size + 1) (.loop { rec .ready none with state := .busy }) = W3 := ⟨_, rfl⟩
        rw [hW3]
        have hstep : StepKeep (fun _ => False) w.heap.size W2 W3 := by rw [← hW3]; exact .putObj _ (fun h => h.2 ⟨by omega, _, hl2, rfl⟩) _
        have hl3 : W3.heap[w.heap.size + 1]? = some (.loop { rec .ready none with state := .busy }) := by rw [← hW3]; exact World.putObj_heap_same hlt2
        have hD3 : W3.heap[w.heap.size]? = some (.deferred (some [])) := by rw [← hW3]; exact (World.putObj_heap_other (by omega)).trans hD2
        have hs3 : W3.heap.size = W2.heap.size := by rw [← hW3]; simp
        have hT3 : Keep (fun _ k => T k) W2 W3 := by rw [← hW3]; exact .putObj _ hTl _
        refine wpIn_mono (hb W3 (hI _ _ _ hi2 (hstep.weak fun k _ h => ⟨fun h => h, h.2⟩)) hstep) ?_
        intro e a4 W4 h4
        cases e with
        | normal =>
          obtain ⟨hk4, hi4⟩ := h4
          have hl4 : W4.heap[w.heap.size + 1]? = some (.loop { rec .ready none with state := .busy }) := (hk4.block _ (by omega) (.inr ⟨_, hl3, rfl⟩)).trans hl3
          have hD4 : W4.heap[w.heap.size]? = some (.deferred (some [])) := (hk4.block _ (by omega) (.inr ⟨_, hD3, rfl⟩)).trans hD3
          have hlt4 : w.heap.size + 1 < W4.heap.size := (Array.getElem?_eq_some_iff.1 hl4).1
          have hend := run_endRound (P := P) none hl4
          have hst4 : StepKeep Tw w.heap.size W4 (W4.putObj (w.heap.size + 1) (.loop (rec .ready none))) := .putObj _ (fun h => h.2 ⟨by omega, _, hl4, rfl⟩) _
          refine ⟨_, _, hend, by simp, ⟨?_, ?_, ?_⟩, ?_⟩
          · rw [hrec] at hst4 ⊢; exact hI _ _ _ hi4 hst4
          · rw [World.putObj_heap_same hlt4, hrec]; rfl
          · exact (World.putObj_heap_other (by omega)).trans hD4
          · exact ((hk2.weak fun _ _ h => .inl h).trans (hT3.trans ((hk4.weak fun _ _ h => .inl h).trans (.putObj _ hTl _) fun _ _ h => h) fun _ _ h => h) fun _ _ h => h)
        | ret => exact h4.elim
        | exit id => exact h4.elim
        | goto t => exact h4.elim
        | panic ch => exact h4.elim
        | outgrown => exact h4.elim
      | ret => exact h.elim
      | exit id => exact h.elim
      | goto t => exact h.elim
      | panic ch => exact h.elim
      | outgrown => exact h.elim
    · rintro e W2 ⟨⟨v, rfl⟩, hi, hl, hk⟩
      have hst : StepKeep Tw w.heap.size W2 (W2.putObj (w.heap.size + 1) (.loop { rec .ready none with state := .exhausted })) := .putObj _ (fun h => h.2 ⟨by omega, _, hl, rfl⟩) _
      have hend := run_endLoop (P := P) hl (by rw [hrec]; simp)
      refine ⟨none, _, (by rw [hrec] at hend; exact hend), ?_⟩
      exact hdone _ _ (Nat.le_refl _) (by rw [hrec] at hst; exact hI _ _ _ hi hst) ((World.putObj_heap_other (by omega)).trans hk)

/-- a function that holds such loops, at its return -/
theorem leaves_mark {fn : Func} {R : Ending → World → Prop} {tmps : Array Value} {D : Nat} {W : World} {v : Value} (hK : W.heap[D]? = some (.deferred (some [])))
    (hr : (results fn tmps).run P (W.putObj D (.deferred none)) = .ok v (W.putObj D (.deferred none))) (hR : R (.returned v) (W.putObj D (.deferred none))) :
    bodyPostM Fence.wide 0 P fn R .ret { tmps, defers := [{ target := .collected D, args := #[] }] } W :=
  ⟨by simp, .inl ⟨_, _, rfl, run_takeDeferred hK, ⟨v, hr, hR⟩⟩⟩
end Go.Cor

namespace Go.Cor
open Go Go.RowKit

/-- the slice value '.slice A n c' reads as the numbers xs of kind k -/
structure Rd (w : World) (k : IntKind) (A : Option Addr) (n c : Nat) (xs : List Int) : Prop where
  len : xs.length = n
  cap : n ≤ c
  max : c ≤ maxLen
  nil : A = none → c = 0
  get : 0 < n → ∃ b o, A = some ⟨b, o, none⟩ ∧ b < w.heap.size ∧ ∀ i, i < n → w.cell? ⟨b, o + i, none⟩ = some (.int k (xs.getD i 0))

section
variable {w w' : World} {k : IntKind} {A : Option Addr} {n c : Nat} {xs : List Int}

theorem Rd.keep (h : Rd w k A n c xs) (hs : w.heap.size ≤ w'.heap.size) (hk : ∀ b, b < w.heap.size → (∃ o, A = some ⟨b, o, none⟩) → w'.heap[b]? = w.heap[b]?) : Rd w' k A n c xs :=
  ⟨h.len, h.cap, h.max, h.nil, fun hn => by
    obtain ⟨b, o, had, hb, hc⟩ := h.get hn
    exact ⟨b, o, had, by omega, fun i hi => by rw [World.cell?_of_block (w := w) (w' := w') (a := ⟨b, o + i, none⟩) (hk b hb ⟨o, had⟩)]; exact hc i hi⟩⟩
theorem Rd.below (h : Rd w k A n c xs) (hb : Below w.heap.size w w') : Rd w' k A n c xs := h.keep hb.size fun b hlt _ => hb.block b hlt
theorem Rd.alloc (h : Rd w k A n c xs) (o : Obj) : Rd (w.alloc o) k A n c xs := h.below ((Below.refl _ _).alloc (Nat.le_refl _) o)
theorem Rd.setCell (h : Rd w k A n c xs) {p : Addr} (hp : ∀ b o, A = some ⟨b, o, none⟩ → b ≠ p.block) (u : Value) : Rd (w.setCell p u) k A n c xs :=
  h.keep (by simp [World.setCell]) fun b _ ⟨o, ho⟩ => Below.heap_setCell _ _ _ _ (hp b o ho)
theorem Rd.own {B : Nat} {E : TypeId} (h : w.ownsRow B E 1 (.slice A n c) n (xs.map (.int k))) : Rd w k A n c xs := by
  have hl : xs.length = n := by have := h.1; simpa using this
  rcases h.2 with ⟨hv, rfl⟩ | ⟨g, cap, cur, hv, hB, hg, hnc, hcm, hcs, ht⟩
  · injection hv with h1 h2 h3; subst h1 h3
    exact ⟨hl, Nat.le_refl _, by simp [maxLen], fun _ => rfl, fun hn => by omega⟩
  · injection hv with h1 h2 h3; subst h1 h3
    refine ⟨hl, hnc, hcm, fun h => (by cases h), fun _ => ?_⟩
    refine ⟨g, 0, rfl, (Array.getElem?_eq_some_iff.1 hg).1, fun i hi => ?_⟩
    have := h.cells (g := g) rfl i (.int k (xs.getD i 0)) (by simp [List.getElem?_eq_getElem (show i < xs.length by omega)])
    simpa [Addr.add_lit] using this
theorem Rd.take (h : Rd w k A n c xs) {m : Nat} (hm : m ≤ n) : Rd w k A m c (xs.take m) :=
  ⟨by rw [List.length_take, h.len]; omega, Nat.le_trans hm h.cap, h.max, h.nil, fun hp => by
    obtain ⟨b, o, had, hb, hc⟩ := h.get (by omega)
    exact ⟨b, o, had, hb, fun i hi => by rw [hc i (by omega)]; simp [List.getD_eq_getElem?_getD, hi]⟩⟩
theorem Rd.nilv (w : World) (k : IntKind) : Rd w k none 0 0 [] := ⟨rfl, Nat.le_refl _, by simp [maxLen], fun _ => rfl, fun h => by omega⟩
end

/-- an owned row of numbers -/
abbrev Owns (w : World) (B : Nat) (E : TypeId) (k : IntKind) (A : Option Addr) (n c : Nat) (xs : List Int) : Prop := w.ownsRow B E 1 (.slice A n c) n (xs.map (.int k))

/-- a result: a fresh slice of the numbers xs, nothing that was there turned -/
def RetRow (B : Nat) (E : TypeId) (k : IntKind) (w : World) (xs : List Int) (e : Ending) (w' : World) : Prop :=
  ∃ A n c, e = .returned (.slice A n c) ∧ Owns w' B E k A n c xs ∧ Below B w w'

theorem conv_bytes {P : Program} {w : World} {A : Option Addr} {n c : Nat} {xs : List Int} (h : Rd w .u8 A n c xs) (src e dst : TypeId) (hs : P.underlying src = some (.slice e)) (he : P.underlying e = some (.int .u8))
    (hd : P.underlying dst = some .string) : (convert src dst (.slice A n c)).run P w = .ok (.string (strOfNums xs)) w := by
  rcases Nat.eq_zero_or_pos n with h0 | h0
  · subst h0
    have hx : xs = [] := List.eq_nil_of_length_eq_zero h.len
    subst hx
    cases A with
    | none =>
      rw [run_convert_bytes_nil w src e hs he 0 c dst hd]
      rfl
    | some ad =>
      rw [run_convert_bytes_string w src dst e _ 0 c hs he hd]
      simp [Conv.bytesToString, loadCells, loadCellsFrom]
      rfl
  · obtain ⟨b, o, rfl, hb, hcell⟩ := h.get h0
    exact run_convert_bytes_arg w src e hs he b o n c xs h.len hcell dst hd

/-- a box: a block of one cell -/
abbrev Box (w : World) (b : Nat) (t : TypeId) (v : Value) : Prop := w.heap[b]? = some (.cells #[v] t (0, 0))
theorem Box.new (w : World) (t : TypeId) (v : Value) : Box (w.alloc (.cells #[v] t)) w.heap.size t v := heap_alloc_new w _
theorem Box.alloc {w : World} {b : Nat} {t : TypeId} {v : Value} (h : Box w b t v) (o : Obj) : Box (w.alloc o) b t v := (Below.heap_alloc w o b (lt_of_block h)).trans h
theorem Box.far {w : World} {b : Nat} {t : TypeId} {v : Value} (h : Box w b t v) {p : Addr} (hp : b ≠ p.block) (u : Value) : Box (w.setCell p u) b t v := (Below.heap_setCell w p u b hp).trans h
theorem Box.keep {S : World → Nat → Prop} {w w' : World} {b : Nat} {t : TypeId} {v : Value} (h : Box w b t v) (hk : Keep S w w') (hs : S w b) : Box w' b t v := (hk.block b (lt_of_block h) hs).trans h
theorem Box.below {B : Nat} {w w' : World} {b : Nat} {t : TypeId} {v : Value} (h : Box w b t v) (hk : Below B w w') (hs : b < B) : Box w' b t v := (hk.block b hs).trans h
theorem Box.cells {w : World} {b : Nat} {t : TypeId} {v : Value} (h : Box w b t v) : ¬ NonCell w b := fun ⟨o, ho, hc⟩ => by rw [h] at ho; cases ho; simp [Obj.isCells] at hc

theorem owns_keep {S : World → Nat → Prop} {w w' : World} {B : Nat} {E : TypeId} {size : Nat} {v : Value} {n : Nat} {xs : List Value} (h : w.ownsRow B E size v n xs) (hk : Keep S w w') (hs : ∀ g, v.ownBlock = some g → (¬ NonCell w g) → S w g) : w'.ownsRow B E size v n xs := by
  refine ⟨h.1, ?_⟩
  rcases h.2 with hn | ⟨g, cap, cur, rfl, hb, hg, rest⟩
  · exact .inl hn
  · refine .inr ⟨g, cap, cur, rfl, hb, ?_, rest⟩
    rw [hk.block g (Array.getElem?_eq_some_iff.1 hg).1 (hs g rfl (fun ⟨o, ho, hc⟩ => by rw [hg] at ho; cases ho; simp [Obj.isCells] at hc))]
    exact hg

theorem below_keep {S : World → Nat → Prop} {B : Nat} {w w' : World} (hk : Keep S w w') (hB : B ≤ w.heap.size) (hs : ∀ k, k < B → S w k) : Below B w w' :=
  ⟨hk.os, hk.tape, hk.output, hk.size, fun k h => hk.block k (by omega) (hs k h)⟩

theorem ret_i {k : IntKind} {a a' : Int} (h : a = a') : Ending.returned (.int k a) = .returned (.int k a') := by rw [h]
theorem ret_b {a a' : Bool} (h : a = a') : Ending.returned (.bool a) = .returned (.bool a') := by rw [h]
theorem ret3i {k1 k2 k3 : IntKind} {a a' b b' c c' : Int} (ha : a = a') (hb : b = b') (hc : c = c') : Ending.returned (.tuple #[.int k1 a, .int k2 b, .int k3 c]) = .returned (.tuple #[.int k1 a', .int k2 b', .int k3 c']) := by rw [ha, hb, hc]
theorem val_i {k : IntKind} {a a' : Int} (h : a = a') : Value.int k a = .int k a' := by rw [h]

/-- each number fits its kind -/
def Fits : IntKind → Int → Prop
  | .u8, x => 0 ≤ x ∧ x ≤ 255
  | .u16, x => 0 ≤ x ∧ x ≤ 65535
  | .u32, x => 0 ≤ x ∧ x ≤ 4294967295
  | .u64, x => 0 ≤ x ∧ x ≤ 18446744073709551615
  | .i64, x => -9223372036854775808 ≤ x ∧ x ≤ 9223372036854775807
  | _, _ => True
def In (k : IntKind) (xs : List Int) : Prop := ∀ x ∈ xs, Fits k x
theorem fits_of_wf {k : IntKind} {x : Int} (h : (Lit.int k x).wf = true) : Fits k x := by
  simp only [Lit.wf, Bool.and_eq_true, decide_eq_true_eq] at h
  cases k <;> first | trivial | exact h
theorem Rd.of_row {W : World} {k : IntKind} {x : Addr} {l c : Nat} {zs : List Int} (hl : l ≤ c) (hm : c ≤ maxLen) (hz : zs.length = c) (hcell : ∀ i, i < zs.length → W.cell? (x.add i) = some (.int k (zs.getD i 0))) (hwz : ∀ n ∈ zs, (Lit.int k n).wf = true) :
    ∃ xs, Rd W k (some x) l c xs ∧ In k xs := by
  refine ⟨zs.take l, ⟨by rw [List.length_take]; omega, hl, hm, fun h => (by cases h), fun hn => ?_⟩, fun n hn => fits_of_wf (hwz n (List.mem_of_mem_take hn))⟩
  obtain ⟨b, o, spot⟩ := x
  have h0 := hcell 0 (by omega)
  have hs : spot = none := by simpa [Addr.add] using World.cell?_spot h0
  subst hs
  refine ⟨b, o, rfl, World.block_lt_of_cell? W _ h0, fun i hi => ?_⟩
  have := hcell i (by omega)
  rw [Addr.add_lit] at this
  rw [this]
  simp [List.getD_eq_getElem?_getD, hi]
end Go.Cor

namespace Go.Cor
open Go Go.RowKit

/-- what the program's tables say of a slice type t and its element type e -/
structure ElemT (P : Program) (t e : TypeId) (z : Value) (size bytes : Nat) : Prop where
  und : P.underlying t = some (.slice e)
  info : (P.info? e).map (fun i => (i.zero, i.size, i.bytes)) = some (some z, size, bytes)
  zs : z.cells.size = size
  pos : 0 < size

/-- a slice value reads as cells -/
structure RdV (w : World) (size : Nat) (A : Option Addr) (n c : Nat) (vs : List Value) : Prop where
  len : vs.length = n * size
  cap : n ≤ c
  max : c ≤ maxLen
  nil : A = none → c = 0
  get : 0 < n → ∃ b o, A = some ⟨b, o, none⟩ ∧ b < w.heap.size ∧ ∀ j u, vs[j]? = some u → w.cell? ⟨b, o + j, none⟩ = some u

theorem Rd.toV {w : World} {k : IntKind} {A : Option Addr} {n c : Nat} {xs : List Int} (h : Rd w k A n c xs) : RdV w 1 A n c (xs.map (.int k)) :=
  ⟨by simp [h.len], h.cap, h.max, h.nil, fun hn => by
    obtain ⟨b, o, had, hb, hc⟩ := h.get hn
    refine ⟨b, o, had, hb, fun j u hu => ?_⟩
    have hj : j < xs.length := by have := (List.getElem?_eq_some_iff.1 hu).1; simpa using this
    rw [hc j (by have := h.len; omega)]
    rw [List.getElem?_map, List.getElem?_eq_getElem hj] at hu
    simp at hu
    simp [List.getElem?_eq_getElem hj, hu]⟩
theorem RdV.keep {w w' : World} {size : Nat} {A : Option Addr} {n c : Nat} {vs : List Value} (h : RdV w size A n c vs) (hs : w.heap.size ≤ w'.heap.size) (hk : ∀ b, b < w.heap.size → (∃ o, A = some ⟨b, o, none⟩) → w'.heap[b]? = w.heap[b]?) : RdV w' size A n c vs :=
  ⟨h.len, h.cap, h.max, h.nil, fun hn => by
    obtain ⟨b, o, had, hb, hc⟩ := h.get hn
    exact ⟨b, o, had, by omega, fun j u hu => by rw [World.cell?_of_block (w := w) (w' := w') (a := ⟨b, o + j, none⟩) (hk b hb ⟨o, had⟩)]; exact hc j u hu⟩⟩
theorem RdV.below {w w' : World} {size : Nat} {A : Option Addr} {n c : Nat} {vs : List Value} (h : RdV w size A n c vs) (hb : Below w.heap.size w w') : RdV w' size A n c vs := h.keep hb.size fun b hlt _ => hb.block b hlt
theorem RdV.own {w : World} {B : Nat} {E : TypeId} {size : Nat} {A : Option Addr} {n c : Nat} {vs : List Value} (h : w.ownsRow B E size (.slice A n c) n vs) : RdV w size A n c vs := by
  rcases h.2 with ⟨hv, rfl⟩ | ⟨g, cap, cur, hv, hB, hg, hnc, hcm, hcs, ht⟩
  · injection hv with h1 h2 h3; subst h1 h3
    exact ⟨h.1, Nat.le_refl _, by simp [maxLen], fun _ => rfl, fun h => by omega⟩
  · injection hv with h1 h2 h3; subst h1 h3
    refine ⟨h.1, hnc, hcm, fun h => (by cases h), fun _ => ?_⟩
    refine ⟨g, 0, rfl, (Array.getElem?_eq_some_iff.1 hg).1, fun j u hu => ?_⟩
    have := h.cells (g := g) rfl j u hu
    simpa [Addr.add_lit] using this
theorem RdV.one {w : World} {g : Nat} {u : Value} {t : TypeId} (h : Box w g t u) : RdV w 1 (some ⟨g, 0, none⟩) 1 1 [u] :=
  ⟨rfl, Nat.le_refl _, by simp [maxLen], fun h => (by cases h), fun _ => by
    refine ⟨g, 0, rfl, lt_of_block h, fun j u' hu => ?_⟩
    cases j with
    | zero => simp at hu; subst hu; simpa using cell_of_one h
    | succ j => simp at hu⟩

section
variable {P : Program} (w : World)
theorem run_append_nil_src (base : Nat) (t ty e : TypeId) (i : TypeInfo) (size : Nat) (ht : P.underlying t = some (.slice e)) (hi : P.info? e = some i)
    (v : Value) (n : Nat) (xs : List Value) (hown : w.ownsRow base e size v n xs) (c : Nat) : (Builtin.append_ #[t, t] ty #[v, .slice none 0 c]).run P w = .ok v w := by
  rcases hown.2 with ⟨rfl, rfl⟩ | ⟨g, cap, cur, rfl, _, _, hnc, _⟩
  · simp [Builtin.append_, run_underlying ht, sizeOf, typeInfo, hi, Builtin.lenOf, Builtin.firstCells]
  · simp [Builtin.append_, run_underlying ht, sizeOf, typeInfo, hi, Builtin.lenOf, Builtin.firstCells, hnc, storeCells]

theorem owns_form {base : Nat} {e : TypeId} {size : Nat} {v : Value} {n : Nat} {xs : List Value} (h : w.ownsRow base e size v n xs) : ∃ A c, v = .slice A n c := by
  rcases h.2 with ⟨rfl, rfl⟩ | ⟨g, cap, cur, rfl, _⟩
  · exact ⟨none, 0, rfl⟩
  · exact ⟨_, _, rfl⟩

theorem run_append_r {t e : TypeId} {z : Value} {size bytes : Nat} (ht : ElemT P t e z size bytes) (ty : TypeId) (base : Nat)
    (v : Value) (n : Nat) (xs : List Value) (hown : w.ownsRow base e size v n xs)
    (A : Option Addr) (m c : Nat) (news : List Value) (hr : RdV w size A m c news) (h1 : ∀ u ∈ news, u.oneCell' = true)
    (hbytes : (n + m) * bytes ≤ 140737488355328) (h63 : n + m ≤ 9223372036854775807) (hbase : base ≤ w.heap.size) :
    ∃ A' c' w', (Builtin.append_ #[t, t] ty #[v, .slice A m c]).run P w = .ok (.slice A' (n + m) c') w' ∧ w'.ownsRow base e size (.slice A' (n + m) c') (n + m) (xs ++ news) ∧ w.grownBy w' v.ownBlock ∧
      ((Value.slice A' (n + m) c').ownBlock = v.ownBlock ∨ (Value.slice A' (n + m) c').ownBlock = some w.heap.size) := by
  obtain ⟨i, hi, hz, hsize, hby⟩ := info_parts ht.info
  cases A with
  | none =>
    have hc := hr.nil rfl
    have hm : m = 0 := by have := hr.cap; omega
    subst hm
    have hn : news = [] := List.eq_nil_of_length_eq_zero (by simpa using hr.len)
    subst hn
    have hrun := run_append_nil_src (P := P) w base t ty e i size ht.und hi v n xs hown c
    obtain ⟨A', c', rfl⟩ := owns_form w hown
    exact ⟨A', c', w, hrun, by simpa using hown, World.grownBy.refl w _, .inl rfl⟩
  | some ad =>
    have hcell : ∀ j u, news[j]? = some u → w.cell? (ad.add j) = some u := by
      intro j u hu
      rcases Nat.eq_zero_or_pos m with h0 | h0
      · subst h0
        have hn : news = [] := List.eq_nil_of_length_eq_zero (by simpa using hr.len)
        subst hn; simp at hu
      · obtain ⟨b, o, had, _, hcell⟩ := hr.get h0
        injection had with had; subst had
        rw [Addr.add_lit]; exact hcell j u hu
    obtain ⟨v', w', hrun, h2, h3, _, h5⟩ := run_append_own_at (P := P) w base t ty e i z size bytes ht.und hi hz hsize hby ht.zs ht.pos v n xs hown ad m c news hr.len
      hcell h1 (by unfold maxLen; omega) hbytes hbase
    obtain ⟨A', c', rfl⟩ := owns_form w' h2
    exact ⟨A', c', w', hrun, h2, h3, h5⟩
end

/-- what is left to show behind an append -/
def Appended (w : World) (base : Nat) (e : TypeId) (size : Nat) (v : Value) (n : Nat) (xs : List Value) (K : Value → World → Prop) : Prop :=
  ∀ A' c' w', w'.ownsRow base e size (.slice A' n c') n xs → w.grownBy w' v.ownBlock → ((Value.slice A' n c').ownBlock = v.ownBlock ∨ (Value.slice A' n c').ownBlock = some w.heap.size) → K (.slice A' n c') w'

theorem wpList_append_r {P : Program} {w : World} {ops : Array Oper} {rest : List Oper} {o : Oper} {a : Act} {Q : Exit → Act → World → Prop} (hgd : o.guard = none) {s x : Operand} {t : TypeId}
    (ho : o.op = .call { callee := .builtin .append, args := #[s, x], argTypes := #[t, t] })
    {e : TypeId} {z : Value} {size bytes : Nat} (ht : ElemT P t e z size bytes) {base : Nat}
    {v : Value} {n : Nat} {xs : List Value} (hown : w.ownsRow base e size v n xs) (hs : a.eval s = v)
    {A : Option Addr} {m c : Nat} {news : List Value} (hr : RdV w size A m c news) (hx : a.eval x = .slice A m c) (h1 : ∀ u ∈ news, u.oneCell' = true)
    (hbytes : (n + m) * bytes ≤ 140737488355328) (h63 : n + m ≤ 9223372036854775807) (hbase : base ≤ w.heap.size)
    (h : Appended w base e size v (n + m) (xs ++ news) fun v' w' => wpList P ops Q rest (a.put o.dst v') w') : wpList P ops Q (o :: rest) a w := by
  refine wpList_plain hgd fun K hK => ?_
  obtain ⟨A', c', w', hrun, h2, h3, h4⟩ := run_append_r (P := P) w ht o.type base v n xs hown A m c news hr h1 hbytes h63 hbase
  unfold Oper.wp execOp
  simp only [ho, resolve, invoke, builtin, Sem.run_bind, Sem.run_pure, Result.andThen_ok, List.map_toArray, List.map_cons, List.map_nil, hs, hx, hrun]
  exact hK _ _ (h A' c' w' h2 h3 h4)

theorem wpListIn_append_r {F : Fence} {N : Nat} {P : Program} {w : World} {ops : Array Oper} {rest : List Oper} {o : Oper} {a : Act} {Q : Exit → Act → World → Prop} (hgd : o.guard = none) {s x : Operand} {t : TypeId}
    (ho : o.op = .call { callee := .builtin .append, args := #[s, x], argTypes := #[t, t] })
    {e : TypeId} {z : Value} {size bytes : Nat} (ht : ElemT P t e z size bytes) {base : Nat}
    {v : Value} {n : Nat} {xs : List Value} (hown : w.ownsRow base e size v n xs) (hs : a.eval s = v)
    {A : Option Addr} {m c : Nat} {news : List Value} (hr : RdV w size A m c news) (hx : a.eval x = .slice A m c) (h1 : ∀ u ∈ news, u.oneCell' = true)
    (hbytes : (n + m) * bytes ≤ 140737488355328) (h63 : n + m ≤ 9223372036854775807) (hbase : base ≤ w.heap.size)
    (h : Appended w base e size v (n + m) (xs ++ news) fun v' w' => wpListIn F N P ops Q rest (a.put o.dst v') w') : wpListIn F N P ops Q (o :: rest) a w := by
  refine wpListIn_plain hgd fun K hK => ?_
  obtain ⟨A', c', w', hrun, h2, h3, h4⟩ := run_append_r (P := P) w ht o.type base v n xs hown A m c news hr h1 hbytes h63 hbase
  unfold Oper.wpIn
  refine ⟨?_, ?_⟩
  · simp [Oper.about, ho, resolve, Target.leads, Sem.run_pure]
  · rw [Oper.semAt_plain F _ _ (by rw [ho]; intro c hc'; cases hc')]
    simp [execOp, ho, resolve, invoke, builtin, hs, hx, hrun, Result.andThen]
    exact hK _ _ (h A' c' w' h2 h3 h4)

theorem ints_one {k : IntKind} {xs : List Int} : ∀ u ∈ xs.map (Value.int k), u.oneCell' = true := ints_oneCell k xs
theorem one_one {k : IntKind} {x : Int} : ∀ u ∈ [Value.int k x], u.oneCell' = true := by intro u hu; simp at hu; subst hu; rfl
theorem owns_snoc {w : World} {B : Nat} {E : TypeId} {k : IntKind} {v : Value} {n : Nat} {xs : List Int} {x : Int} (h : w.ownsRow B E 1 v (n + 1) (xs.map (.int k) ++ [.int k x])) : w.ownsRow B E 1 v (n + 1) ((xs ++ [x]).map (.int k)) := by simpa using h
theorem owns_app {w : World} {B : Nat} {E : TypeId} {k : IntKind} {v : Value} {n : Nat} {xs ys : List Int} (h : w.ownsRow B E 1 v n (xs.map (.int k) ++ ys.map (.int k))) : w.ownsRow B E 1 v n ((xs ++ ys).map (.int k)) := by simpa using h
theorem owns_nil (w : World) (B : Nat) (E : TypeId) (k : IntKind) : w.ownsRow B E 1 (.slice none 0 0) 0 (([] : List Int).map (.int k)) := World.ownsRow_nil w B E 1
/-- the empty slice that a literal makes -/
theorem owns_lit0 {w : World} {B : Nat} {E : TypeId} {size : Nat} (h : B ≤ w.heap.size) : (w.alloc (.cells #[] E)).ownsRow B E size (.slice (some ⟨w.heap.size, 0, none⟩) 0 0) 0 [] :=
  ⟨by simp, .inr ⟨w.heap.size, 0, #[], rfl, h, heap_alloc_new w _, Nat.le_refl _, by simp [maxLen], by simp, by simp⟩⟩
theorem owns_lit1 {w : World} {B : Nat} {E : TypeId} {u : Value} (h : B ≤ w.heap.size) : (w.alloc (.cells #[u] E)).ownsRow B E 1 (.slice (some ⟨w.heap.size, 0, none⟩) 1 1) 1 [u] :=
  ⟨by simp, .inr ⟨w.heap.size, 1, #[u], rfl, h, heap_alloc_new w _, Nat.le_refl _, by simp [maxLen], by simp, by simp⟩⟩
theorem own_far {w : World} {B : Nat} {E : TypeId} {size : Nat} {v : Value} {n : Nat} {xs : List Value} (h : w.ownsRow B E size v n xs) {g : Nat} (hg : g < B) : v.ownBlock ≠ some g := fun e => by have := (h.lt g e).1; omega
/-- behind an append onto a row of the call's own: what lay below is as it was -/
theorem below_grown {w0 w w' : World} {B : Nat} {v : Value} {E : TypeId} {size n : Nat} {xs : List Value} (hb : Below B w0 w) (hown : w.ownsRow B E size v n xs) (hg : w.grownBy w' v.ownBlock) (hB : B ≤ w.heap.size) : Below B w0 w' :=
  hb.grown hg hB fun k hk => (hown.lt k hk).1
/-- the block of an owned row holds cells -/
theorem owns_cells {w : World} {B : Nat} {E : TypeId} {size : Nat} {v : Value} {n : Nat} {xs : List Value} (h : w.ownsRow B E size v n xs) {g : Nat} (hg : v.ownBlock = some g) : ¬ NonCell w g := by
  rcases h.2 with ⟨rfl, _⟩ | ⟨g', cap, cur, rfl, _, hh, _⟩
  · simp [Value.ownBlock] at hg
  · simp [Value.ownBlock] at hg
    subst hg
    exact fun ⟨o, ho, hc⟩ => by rw [hh] at ho; cases ho; simp [Obj.isCells] at hc
theorem Box.grown {w w' : World} {b : Nat} {t : TypeId} {u : Value} {row : Option Nat} (h : Box w b t u) (hg : w.grownBy w' row) (hne : row ≠ some b) : Box w' b t u := (hg.block b (lt_of_block h) (fun e => hne e.symm)).trans h
/-- the new slice of an append lies where the old one lay, or in a new block -/
theorem own_ne {v v' : Value} {w : World} {b : Nat} (hat : v'.ownBlock = v.ownBlock ∨ v'.ownBlock = some w.heap.size) (h : v.ownBlock ≠ some b) (hb : b < w.heap.size) : v'.ownBlock ≠ some b := by
  rcases hat with e | e <;> rw [e]
  · exact h
  · intro e; injection e; omega
/-- the slice that a literal makes -/
theorem Rd.lit (w : World) (E : TypeId) (k : IntKind) (xs : List Int) (h : xs.length ≤ maxLen := by decide) : Rd (w.alloc (.cells (xs.map (.int k)).toArray E)) k (some ⟨w.heap.size, 0, none⟩) xs.length xs.length xs :=
  ⟨rfl, Nat.le_refl _, h, fun h => (by cases h), fun _ => by
    refine ⟨w.heap.size, 0, rfl, by simp, fun i hi => ?_⟩
    have := cell_of_row (w.alloc (.cells (xs.map (.int k)).toArray E)) w.heap.size (0 + i) _ E (0, 0) (heap_alloc_new w _)
    rw [this]
    simp [hi]⟩
theorem strOfNums_append (xs ys : List Int) : strOfNums (xs ++ ys) = strOfNums xs ++ strOfNums ys := by
  simp only [strOfNums, List.map_append]
  exact (ByteArray.mk_append_mk _ _).symm
theorem strOfNums_inj {xs ys : List Int} (hx : ∀ x ∈ xs, 0 ≤ x ∧ x ≤ 255) (hy : ∀ x ∈ ys, 0 ≤ x ∧ x ≤ 255) (h : strOfNums xs = strOfNums ys) : xs = ys := by
  have h1 : xs.map (fun n => UInt8.ofNat n.toNat) = ys.map (fun n => UInt8.ofNat n.toNat) := by
    rw [← strOfNums_data, ← strOfNums_data, h]
  clear h
  induction xs generalizing ys with
  | nil => cases ys with
    | nil => rfl
    | cons y ys => simp at h1
  | cons x xs ih =>
    cases ys with
    | nil => simp at h1
    | cons y ys =>
      simp only [List.map_cons, List.cons.injEq] at h1
      have hx' := hx x (by simp)
      have hy' := hy y (by simp)
      have e : x.toNat = y.toNat := by
        have := congrArg UInt8.toNat h1.1
        simp only [UInt8.toNat_ofNat'] at this
        omega
      rw [ih (fun z hz => hx z (by simp [hz])) (fun z hz => hy z (by simp [hz])) h1.2, show x = y by omega]

/-- append onto the empty slice that a literal made: new memory, or nothing -/
theorem run_append_cap0 {P : Program} {w : World} {t e : TypeId} {z : Value} {size bytes : Nat} (ht : ElemT P t e z size bytes) (ty : TypeId) {base : Nat}
    {g : Nat} (hbg : base ≤ g) (hblk : w.heap[g]? = some (.cells #[] e (0, 0)))
    {A : Option Addr} {m c : Nat} {news : List Value} (hr : RdV w size A m c news)
    (hbytes : m * bytes ≤ 140737488355328) (h63 : m ≤ 9223372036854775807) (hbase : base ≤ w.heap.size) :
    ∃ A' c' w', (Builtin.append_ #[t, t] ty #[.slice (some ⟨g, 0, none⟩) 0 0, .slice A m c]).run P w = .ok (.slice A' m c') w' ∧ w'.ownsRow base e size (.slice A' m c') m news ∧ Below w.heap.size w w' := by
  have hown0 : w.ownsRow base e size (.slice (some ⟨g, 0, none⟩) 0 0) 0 [] := ⟨by simp, .inr ⟨g, 0, #[], rfl, hbg, hblk, Nat.le_refl _, by simp [maxLen], by simp, by simp⟩⟩
  obtain ⟨i, hi, hz, hsize, hby⟩ := info_parts ht.info
  cases A with
  | none =>
    have hc := hr.nil rfl
    have hm : m = 0 := by have := hr.cap; omega
    subst hm
    have hn : news = [] := List.eq_nil_of_length_eq_zero (by simpa using hr.len)
    subst hn
    exact ⟨_, _, w, run_append_nil_src (P := P) w base t ty e i size ht.und hi _ 0 [] hown0 c, hown0, Below.refl _ _⟩
  | some ad =>
    rcases Nat.eq_zero_or_pos m with h0 | h0
    · subst h0
      have hn : news = [] := List.eq_nil_of_length_eq_zero (by simpa using hr.len)
      subst hn
      refine ⟨_, _, w, ?_, hown0, Below.refl _ _⟩
      simp [Builtin.append_, run_underlying ht.und, sizeOf, typeInfo, hi, Builtin.lenOf, Builtin.firstCells, loadCells, loadCellsFrom, storeCells]
    · obtain ⟨b, o, had, _, hcell⟩ := hr.get h0
      injection had with had; subst had
      subst hsize; subst hby
      have hrun := run_append_grow (P := P) w t ty e i z ht.und hi hz ⟨g, 0, none⟩ 0 0 [] (by simp) (fun j v h => by simp at h) ⟨b, o, none⟩ m c news hr.len (fun j u hu => by rw [Addr.add_lit]; exact hcell j u hu) (by omega) (by simp; omega)
        (growslice_fits (by omega) (by simpa using hbytes))
      simp only [Nat.zero_add] at hrun
      refine ⟨_, _, _, hrun, ⟨hr.len, .inr ⟨w.heap.size, _, _, rfl, hbase, heap_alloc_new w.drew _, grownCap_ge w m 0 e, grownCap_le_maxLen w m 0 e (by unfold maxLen; omega), ?_, ?_⟩⟩, ((Below.refl _ _).drew).alloc (by simp) _⟩
      · simp only [Array.size_append, List.size_toArray, size_zeroCells, ht.zs, hr.len, ← Nat.add_mul, List.length_nil, Nat.zero_add]
        congr 1
        have := grownCap_ge w m 0 e
        omega
      · simp only [Array.toList_append, List.nil_append]
        rw [← hr.len]
        exact List.take_left
end Go.Cor

namespace Go.Free
open Go Go.RowKit Go.Cor

def RdF (k : IntKind) (xs : List Int) : Fact := fun v w => ∃ A n c, v = .slice A n c ∧ Rd w k A n c xs
theorem RdF.stable (k : IntKind) (xs : List Int) : Stable (RdF k xs) := fun _ _ _ ⟨A, n, c, h1, h2⟩ hb => ⟨A, n, c, h1, h2.below hb⟩
def OwF (B : Nat) (E : TypeId) (k : IntKind) (xs : List Int) : Fact := fun v w => ∃ A n c, v = .slice A n c ∧ Owns w B E k A n c xs
theorem OwF.stable (B : Nat) (E : TypeId) (k : IntKind) (xs : List Int) : Stable (OwF B E k xs) := fun _ _ _ ⟨A, n, c, h1, h2⟩ hb =>
  ⟨A, n, c, h1, owns_keep (S := fun _ _ => True) h2 (.of_below hb) (fun _ _ _ => trivial)⟩
def LitF (B : Nat) (E : TypeId) : Fact := fun v w => ∃ g, v = .slice (some ⟨g, 0, none⟩) 0 0 ∧ B ≤ g ∧ w.heap[g]? = some (.cells #[] E (0, 0))
theorem LitF.stable (B : Nat) (E : TypeId) : Stable (LitF B E) := fun _ _ _ ⟨g, h1, h2, h3⟩ hb => ⟨g, h1, h2, (hb.block g (Array.getElem?_eq_some_iff.1 h3).1).trans h3⟩

theorem chain_append0 {P : Program} {ops : Array Oper} {a0 : Act} {w0 : World} {E : List Oper → Act → World → Prop} {n : Nat} {done : Done} {o : Oper} {rest : List Oper} {S : List Tmp} {base : Nat} {e t : TypeId} {k : IntKind} {xs : List Int} {z : Value} {bytes : Nat} {s x : Tmp}
    (ht : ElemT P t e z 1 bytes) (ho : o.op = .call { callee := .builtin .append, args := #[.tmp s, .tmp x], argTypes := #[t, t] }) (hS : o.looksAt ops = S) (hbase : base ≤ w0.heap.size)
    (h : ∀ ρ w, Env ρ → Below w0.heap.size w0 w → (∀ s ∈ S, look a0 done s (ρ (.tmp s)) w) → Region.wanted o (yieldedR ops ρ) = true ∧ LitF base e (ρ (.tmp s)) w ∧ RdF k xs (ρ (.tmp x)) w)
    (hbytes : xs.length * bytes ≤ 140737488355328) (h63 : xs.length ≤ 9223372036854775807)
    (hr : Chain P ops a0 w0 E n ((o.dst, OwF base e k xs) :: done) rest) : Chain P ops a0 w0 E (n + 1) done (o :: rest) := by
  refine chain_make (OwF base e k xs) (OwF.stable _ _ _ _) hS (fun ρ w hE hB hs => ?_) hr
  obtain ⟨hw, ⟨g, e1, h1, h2⟩, A, m, c, e2, h3⟩ := h ρ w hE hB hs
  obtain rfl := h3.len
  obtain ⟨A', c', w', hrun, hown, hbel⟩ := run_append_cap0 (P := P) ht o.type h1 h2 h3.toV hbytes h63 (Nat.le_trans hbase hB.size)
  refine ⟨hw, _, w', ?_, hbel, A', _, c', rfl, hown⟩
  unfold execOp
  simp only [ho, resolve, invoke, builtin, Sem.run_bind, Sem.run_pure, Result.andThen_ok, List.map_toArray, List.map_cons, List.map_nil, e1, e2, hrun]
end Go.Free
