/-
  
-/
import Derived.RangeFuncRecord
import Derived.RangeFuncOwn
import Derived.RangeFuncCalls
namespace Go.Cor
open Go Go.RowKit

/-- what is kept from W to W': the streams, and each block that S names -/
structure Keep (S : World → Nat → Prop) (W W' : World) : Prop where
  os : W'.os = W.os
  tape : W'.tape = W.tape
  output : W'.output = W.output
  size : W.heap.size ≤ W'.heap.size
  block : ∀ k, k < W.heap.size → S W k → W'.heap[k]? = W.heap[k]?

theorem Keep.refl (S : World → Nat → Prop) (W : World) : Keep S W W := ⟨rfl, rfl, rfl, Nat.le_refl _, fun _ _ _ => rfl⟩
theorem Keep.weak {S S' : World → Nat → Prop} {W W' : World} (h : Keep S W W') (hs : ∀ k, k < W.heap.size → S' W k → S W k) : Keep S' W W' :=
  ⟨h.os, h.tape, h.output, h.size, fun k hk h1 => h.block k hk (hs k hk h1)⟩
theorem Keep.trans {S : World → Nat → Prop} {A B C : World} (h : Keep S A B) (k : Keep S B C) (hs : ∀ i, i < A.heap.size → S A i → S B i) : Keep S A C :=
  ⟨k.os.trans h.os, k.tape.trans h.tape, k.output.trans h.output, Nat.le_trans h.size k.size, fun i hi h1 => (k.block i (Nat.lt_of_lt_of_le hi h.size) (hs i hi h1)).trans (h.block i hi h1)⟩
theorem Keep.of_below {S : World → Nat → Prop} {W W' : World} (h : Below W.heap.size W W') : Keep S W W' := ⟨h.os, h.tape, h.output, h.size, fun k hk _ => h.block k hk⟩
theorem Keep.alloc (S : World → Nat → Prop) (W : World) (o : Obj) : Keep S W (W.alloc o) := .of_below ((Below.refl _ _).alloc (Nat.le_refl _) o)
theorem Keep.setCell {S : World → Nat → Prop} (W : World) {p : Addr} (h : ¬ S W p.block) (u : Value) : Keep S W (W.setCell p u) :=
  ⟨rfl, rfl, rfl, by simp [World.setCell], fun k hk hs => Below.heap_setCell _ _ _ _ (fun e => h (e ▸ hs))⟩
theorem Keep.putObj {S : World → Nat → Prop} (W : World) {l : Nat} (h : ¬ S W l) (o : Obj) : Keep S W (W.putObj l o) :=
  ⟨rfl, rfl, rfl, by simp, fun k _ hs => World.putObj_heap_other (fun e => h (e ▸ hs))⟩
theorem Keep.grown {S : World → Nat → Prop} {W W' : World} {row : Option Nat} (hg : W.grownBy W' row) (h : ∀ k, row = some k → ¬ S W k) : Keep S W W' :=
  ⟨hg.os, hg.tape, hg.output, hg.size, fun k hk hs => hg.block k hk (fun e => h k e.symm hs)⟩

def NonCell (W : World) (k : Nat) : Prop := ∃ o : Obj, W.heap[k]? = some o ∧ o.isCells = false

/-- what a round keeps: the iterator's blocks T, and whatever is no cells -/
abbrev RoundKeep (T : Nat → Prop) := Keep (fun W k => T k ∨ NonCell W k)
/-- what the iterator and the loop's own book-keeping keep: all but the blocks Tw, and of what has been laid from N on what is no cells -/
abbrev StepKeep (Tw : Nat → Prop) (N : Nat) := Keep (fun W k => ¬ Tw k ∧ ¬ (N ≤ k ∧ NonCell W k))

theorem RoundKeep.trans {T : Nat → Prop} {A B C : World} (h : RoundKeep T A B) (k : RoundKeep T B C) : RoundKeep T A C :=
  Keep.trans h k fun i hi hs => by
    rcases hs with hs | ⟨o, ho, hc⟩
    · exact .inl hs
    · exact .inr ⟨o, by rw [h.block i hi (.inr ⟨o, ho, hc⟩)]; exact ho, hc⟩

variable {α : Type} {P : Program}

/-- **AN ITERATOR's CONTRACT**: called with yield, it hands out xs, one after the other, if no round says 'no more'; between two rounds it writes its own blocks Tw alone (and new ones); of the rounds it asks that they keep the blocks T. -/
def Iter (P : Program) (g : Nat) (lb : Array Value) (encs : α → Array Value) (xs : List α) (T Tw : Nat → Prop) (w0 : World) : Prop :=
  ∀ (l : Nat) (J : List α → World → Prop) (W : World), Keep (fun _ k => T k) w0 W → w0.heap.size ≤ W.heap.size →
    (∀ pre W1 W2, J pre W1 → Keep (fun _ k => ¬ Tw k) W1 W2 → J pre W2) →
    (∀ pre x W1, (pre ++ [x]) <+: xs → J pre W1 → YieldAt Fence.wide 0 P l (encs x) W1 fun e W' => e = .returned (.bool true) ∧ J (pre ++ [x]) W' ∧ Keep (fun _ k => T k) W1 W') →
    J [] W →
    CallsIn Fence.wide 0 P g (#[.func (.yield l) #[] #[]] ++ lb) W fun e W' => (∃ v, e = .returned v) ∧ J xs W'

/-- how a round's body must be left -/
def roundEnd (T : Nat → Prop) (I : World → Prop) (W : World) : Exit → Act → World → Prop
  | .normal, _, W' => RoundKeep T W W' ∧ I W'
  | _, _, _ => False

theorem enters_f {f : FuncId} {fn : Func} {c : Code} (hf : P.funcs[f]? = some fn) (hname : (fn.name == "runtime.NumGoroutine") = false) (hb : fn.body = some c) (args : Array Value) (w : World) : (callFunc f args).run P w = .ok (.enter f args) w := by
  have h1 : fn.name ≠ "runtime.NumGoroutine" := by simpa using hname
  simp [callFunc, hf, h1, hb, mark]
theorem wide_fn (f : FuncId) : Fence.wide.fn f := trivial

/-- **THE STATEMENT 'for x := range seq { body }'** in an activation's own frame, no round leaving it. -/
theorem wpIn_range {g : Operand} {ps : Array Tmp} {assign body : Code} {Q : Exit → Act → World → Prop} {a : Act} {w : World}
    {gf : Nat} {lb : Array Value} (hg : a.eval g = .func (.func gf) #[] lb) (eg : ∀ args w, (callFunc gf args).run P w = .ok (.enter gf args) w)
    {encs : α → Array Value} {xs : List α} {T Tw : Nat → Prop} {w0 : World} (hseq : Iter P gf lb encs xs T Tw w0) (hw0 : Keep (fun _ k => T k) w0 w) (hTs : ∀ k, T k → k < w.heap.size) (hTw : ∀ k, Tw k → k < w.heap.size)
    (hps : ∀ x, (encs x).size = ps.size)
    (I : List α → World → Prop) (hI : ∀ pre W W', I pre W → StepKeep Tw w.heap.size W W' → I pre W') (h0 : I [] w)
    (hround : ∀ (l : Nat) (pre : List α) (x : α) (W : World), (pre ++ [x]) <+: xs → I pre W → w.heap.size ≤ W.heap.size →
      assign.wpIn (Fence.wide.inRound l) 0 P (Exit.then (fun a₁ W₁ => RoundKeep T W W₁ ∧ I pre W₁ ∧ ∀ W₂, I pre W₂ → StepKeep (fun _ => False) w.heap.size W₁ W₂ →
        body.wpIn (Fence.wide.inRound l) 0 P (roundEnd T (I (pre ++ [x])) W₂) a₁ W₂) (fun _ _ _ => False))
        { tmps := (ps.zip (encs x)).foldl (fun t (p, v) => t.setIfInBounds p v) a.tmps, defers := [] } W)
    (hdone : ∀ (D : Nat) (W : World), w.heap.size ≤ D → I xs W → W.heap[D]? = some (.deferred (some [])) → Q .normal { a with defers := { target := .collected D, args := #[] } :: a.defers } W) :
    (Code.rangeFunc g ps assign body).wpIn Fence.wide 0 P Q a w := by
  refine wpIn_rangeFunc ?_
  intro fn hfn
  rw [show Fence.wide.round = none from rfl]
  obtain ⟨rec, hrec⟩ : ∃ rec : LoopState → Option Code → Loop, rec = fun st pe => { state := st, pending := pe, fn, tmps := a.tmps, params := ps, assign, body, defers := w.heap.size } := ⟨_, rfl⟩
  obtain ⟨W1, hW1⟩ : ∃ W1, (w.alloc (.deferred (some []))).alloc (.loop (rec .ready none)) = W1 := ⟨_, rfl⟩
  have hs1 : W1.heap.size = w.heap.size + 2 := by rw [← hW1]; simp
  have hL1 : W1.heap[w.heap.size + 1]? = some (.loop (rec .ready none)) := by
    rw [← hW1]; have := World.alloc_heap_new (w.alloc (.deferred (some []))) (.loop (rec .ready none)); rwa [World.size_alloc] at this
  have hK1 : W1.heap[w.heap.size]? = some (.deferred (some [])) := by
    rw [← hW1]; exact (Below.heap_alloc _ _ _ (by simp)).trans (World.alloc_heap_new w _)
  have hbl : Below w.heap.size w W1 := by rw [← hW1]; exact ((Below.refl _ w).alloc (Nat.le_refl _) _).alloc (by simp) _
  have hI1 : I [] W1 := hI _ _ _ h0 (.of_below hbl)
  refine ⟨w.heap.size + 1, [{ target := .collected w.heap.size, args := #[] }], W1, { target := .fn (.func gf) lb, args := #[.func (.yield (w.heap.size + 1)) #[] #[]] }, W1, gf,
    #[.func (.yield (w.heap.size + 1)) #[] #[]] ++ lb, W1, ?_, ?_, fun _ _ => trivial, ?_, fun h => (by cases h), ?_⟩
  · rw [← hW1, hrec]; exact run_enterLoop_outer _ _ _ _ _
  · simp only [resolve, hg]
    simp [go_sem]
  · simp [invoke, go_sem, eg]
  · have hTl : ¬ T (w.heap.size + 1) := fun h => by have := hTs _ h; omega
    have hTwl : ¬ Tw (w.heap.size + 1) := fun h => by have := hTw _ h; omega
    have hTwD : ¬ Tw w.heap.size := fun h => by have := hTw _ h; omega
    refine (hseq (w.heap.size + 1)
      (fun pre W => I pre W ∧ W.heap[w.heap.size + 1]? = some (.loop (rec .ready none)) ∧ W.heap[w.heap.size]? = some (.deferred (some [])))
      W1 (hw0.trans (.of_below hbl) fun _ _ h => h) (Nat.le_trans hw0.size hbl.size) ?_ ?_ ⟨hI1, hL1, hK1⟩).mono ?_
    · rintro pre A B ⟨hi, hl, hk⟩ hkeep
      exact ⟨hI _ _ _ hi (hkeep.weak fun k _ h => h.1), (hkeep.block _ (Array.getElem?_eq_some_iff.1 hl).1 hTwl).trans hl, (hkeep.block _ (Array.getElem?_eq_some_iff.1 hk).1 hTwD).trans hk⟩
    · rintro pre x W hpre ⟨hi, hl, hk⟩
      have hlt : w.heap.size + 1 < W.heap.size := (Array.getElem?_eq_some_iff.1 hl).1
      have hy := run_yield (P := P) (args := encs x) hl (by rw [hrec]; exact hps x)
      rw [hrec] at hy
      refine ⟨fn, _, assign, body, hy, roundIn_of_wpIn hfn (wpIn_mono (hround _ pre x W hpre hi (by omega)) ?_)⟩
      intro e a1 W2 h
      cases e with
      | normal =>
        obtain ⟨hk2, hi2, hb⟩ := h
        have hlc : NonCell W (w.heap.size + 1) := ⟨_, hl, rfl⟩
        have hDc : NonCell W w.heap.size := ⟨_, hk, rfl⟩
        have hl2 : W2.heap[w.heap.size + 1]? = some (.loop (rec .ready none)) := (hk2.block _ hlt (.inr hlc)).trans hl
        have hD2 : W2.heap[w.heap.size]? = some (.deferred (some [])) := (hk2.block _ (by omega) (.inr hDc)).trans hk
        have hlt2 : w.heap.size + 1 < W2.heap.size := Nat.lt_of_lt_of_le hlt hk2.size
        refine ⟨_, run_beginRound hl2 (by rw [hrec]), ?_⟩
        obtain ⟨W3, hW3⟩ : ∃ W3, W2.putObj (w.heap.size + 1) (.loop { rec .ready none with state := .busy }) = W3 := ⟨_, rfl⟩
        rw [hW3]
        have hstep : StepKeep (fun _ => False) w.heap.size W2 W3 := by rw [← hW3]; exact .putObj _ (fun h => h.2 ⟨by omega, _, hl2, rfl⟩) _
        have hl3 : W3.heap[w.heap.size + 1]? = some (.loop { rec .ready none with state := .busy }) := by rw [← hW3]; exact World.putObj_heap_same hlt2
        have hD3 : W3.heap[w.heap.size]? = some (.deferred (some [])) := by rw [← hW3]; exact (World.putObj_heap_other (by omega)).trans hD2
        have hs3 : W3.heap.size = W2.heap.size := by rw [← hW3]; simp
        have hT3 : Keep (fun _ k => T k) W2 W3 := by rw [← hW3]; exact .putObj _ hTl _
        refine wpIn_mono (hb W3 (hI _ _ _ hi2 (hstep.weak fun k _ h => ⟨fun h => h, h.2⟩)) hstep) ?_
        intro e a4 W4 h4
        cases e with
        | normal =>
          obtain ⟨hk4, hi4⟩ := h4
          have hl4 : W4.heap[w.heap.size + 1]? = some (.loop { rec .ready none with state := .busy }) := (hk4.block _ (by omega) (.inr ⟨_, hl3, rfl⟩)).trans hl3
          have hD4 : W4.heap[w.heap.size]? = some (.deferred (some [])) := (hk4.block _ (by omega) (.inr ⟨_, hD3, rfl⟩)).trans hD3
          have hlt4 : w.heap.size + 1 < W4.heap.size := (Array.getElem?_eq_some_iff.1 hl4).1
          have hend := run_endRound (P := P) none hl4
          have hst4 : StepKeep Tw w.heap.size W4 (W4.putObj (w.heap.size + 1) (.loop (rec .ready none))) := .putObj _ (fun h => h.2 ⟨by omega, _, hl4, rfl⟩) _
          refine ⟨_, _, hend, by simp, ⟨?_, ?_, ?_⟩, ?_⟩
          · rw [hrec] at hst4 ⊢; exact hI _ _ _ hi4 hst4
          · rw [World.putObj_heap_same hlt4, hrec]; rfl
          · exact (World.putObj_heap_other (by omega)).trans hD4
          · exact ((hk2.weak fun _ _ h => .inl h).trans (hT3.trans ((hk4.weak fun _ _ h => .inl h).trans (.putObj _ hTl _) fun _ _ h => h) fun _ _ h => h) fun _ _ h => h)
        | ret => exact h4.elim
        | exit id => exact h4.elim
        | goto t => exact h4.elim
        | panic ch => exact h4.elim
        | outgrown => exact h4.elim
      | ret => exact h.elim
      | exit id => exact h.elim
      | goto t => exact h.elim
      | panic ch => exact h.elim
      | outgrown => exact h.elim
    · rintro e W2 ⟨⟨v, rfl⟩, hi, hl, hk⟩
      have hst : StepKeep Tw w.heap.size W2 (W2.putObj (w.heap.size + 1) (.loop { rec .ready none with state := .exhausted })) := .putObj _ (fun h => h.2 ⟨by omega, _, hl, rfl⟩) _
      have hend := run_endLoop (P := P) hl (by rw [hrec]; simp)
      refine ⟨none, _, (by rw [hrec] at hend; exact hend), ?_⟩
      exact hdone _ _ (Nat.le_refl _) (by rw [hrec] at hst; exact hI _ _ _ hi hst) ((World.putObj_heap_other (by omega)).trans hk)

/-- a function that holds such loops, at its return -/
theorem leaves_mark {fn : Func} {R : Ending → World → Prop} {tmps : Array Value} {D : Nat} {W : World} {v : Value} (hK : W.heap[D]? = some (.deferred (some [])))
    (hr : (results fn tmps).run P (W.putObj D (.deferred none)) = .ok v (W.putObj D (.deferred none))) (hR : R (.returned v) (W.putObj D (.deferred none))) :
    bodyPostM Fence.wide 0 P fn R .ret { tmps, defers := [{ target := .collected D, args := #[] }] } W :=
  ⟨by simp, .inl ⟨_, _, rfl, run_takeDeferred hK, ⟨v, hr, hR⟩⟩⟩
end Go.Cor
