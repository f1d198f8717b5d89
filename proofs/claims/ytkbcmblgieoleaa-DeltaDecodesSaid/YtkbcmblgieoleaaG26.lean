/-
  Range over a function within a round of a range over a function.
-/
import Derived.RangeFuncNested
import Derived.Test.YtkbcmblgieoleaaG3
namespace Go.Cor
open Go Go.RowKit
variable {α : Type} {P : Program}

/-- the statement 'for x := range seq { body }' in an activation's own frame, no round leaving it; the body is told of its loop's record -/
theorem wpIn_rangeH {g : Operand} {ps : Array Tmp} {assign body : Code} {Q : Exit → Act → World → Prop} {a : Act} {w : World}
    {gf : Nat} {lb : Array Value} (hg : a.eval g = .func (.func gf) #[] lb) (eg : ∀ args w, (callFunc gf args).run P w = .ok (.enter gf args) w)
    {encs : α → Array Value} {xs : List α} {T Tw : Nat → Prop} {w0 : World} (hseq : Iter P gf lb encs xs T Tw w0) (hw0 : Keep (fun _ k => T k) w0 w) (hTs : ∀ k, T k → k < w.heap.size) (hTw : ∀ k, Tw k → k < w.heap.size)
    (hps : ∀ x, (encs x).size = ps.size)
    (I : List α → World → Prop) (hI : ∀ pre W W', I pre W → StepKeep Tw w.heap.size W W' → I pre W') (h0 : I [] w)
    (hround : ∀ (l : Nat) (pre : List α) (x : α) (W : World), (pre ++ [x]) <+: xs → I pre W → w.heap.size < l → w.heap.size ≤ W.heap.size →
      assign.wpIn (Fence.wide.inRound l) 0 P (Exit.then (fun a₁ W₁ => RoundKeep T W W₁ ∧ I pre W₁ ∧ ∀ W₂, I pre W₂ → StepKeep (fun _ => False) w.heap.size W₁ W₂ → (∃ r, W₂.heap[l]? = some (.loop r)) →
        body.wpIn (Fence.wide.inRound l) 0 P (roundEnd T (I (pre ++ [x])) W₂) a₁ W₂) (fun _ _ _ => False))
        { tmps := (ps.zip (encs x)).foldl (fun t (p, v) => t.setIfInBounds p v) a.tmps, defers := [] } W)
    (hdone : ∀ (D : Nat) (W : World), w.heap.size ≤ D → I xs W → W.heap[D]? = some (.deferred (some [])) → Q .normal { a with defers := { target := .collected D, args := #[] } :: a.defers } W) :
    (Code.rangeFunc g ps assign body).wpIn Fence.wide 0 P Q a w := by
  refine wpIn_rangeFunc ?_
  intro fn hfn
  rw [show Fence.wide.round = none from rfl]
  obtain ⟨rec, hrec⟩ : ∃ rec : LoopState → Option Code → Loop, rec = fun st pe => { state := st, pending := pe, fn, tmps := a.tmps, params := ps, assign, body, defers := w.heap.size } := ⟨_, rfl⟩
  obtain ⟨W1, hW1⟩ : ∃ W1, (w.alloc (.deferred (some []))).alloc (.loop (rec .ready none)) = W1 := ⟨_, rfl⟩
  have hs1 : W1.heap.size = w.heap.size + 2 := by rw [← hW1]; simp
  have hL1 : W1.heap[w.heap.size + 1]? = some (.loop (rec .ready none)) := by
    rw [← hW1]; have := World.alloc_heap_new (w.alloc (.deferred (some []))) (.loop (rec .ready none)); rwa [World.size_alloc] at this
  have hK1 : W1.heap[w.heap.size]? = some (.deferred (some [])) := by
    rw [← hW1]; exact (Below.heap_alloc _ _ _ (by simp)).trans (World.alloc_heap_new w _)
  have hbl : Below w.heap.size w W1 := by rw [← hW1]; exact ((Below.refl _ w).alloc (Nat.le_refl _) _).alloc (by simp) _
  have hI1 : I [] W1 := hI _ _ _ h0 (.of_below hbl)
  refine ⟨w.heap.size + 1, [{ target := .collected w.heap.size, args := #[] }], W1, { target := .fn (.func gf) lb, args := #[.func (.yield (w.heap.size + 1)) #[] #[]] }, W1, gf,
    #[.func (.yield (w.heap.size + 1)) #[] #[]] ++ lb, W1, ?_, ?_, fun _ _ => trivial, ?_, fun h => (by cases h), ?_⟩
  · rw [← hW1, hrec]; exact run_enterLoop_outer _ _ _ _ _
  · simp only [resolve, hg]
    simp [go_sem]
  · simp [invoke, go_sem, eg]
  · have hTl : ¬ T (w.heap.size + 1) := fun h => by have := hTs _ h; omega
    have hTwl : ¬ Tw (w.heap.size + 1) := fun h => by have := hTw _ h; omega
    have hTwD : ¬ Tw w.heap.size := fun h => by have := hTw _ h; omega
    refine (hseq (w.heap.size + 1)
      (fun pre W => I pre W ∧ W.heap[w.heap.size + 1]? = some (.loop (rec .ready none)) ∧ W.heap[w.heap.size]? = some (.deferred (some [])))
      W1 (hw0.trans (.of_below hbl) fun _ _ h => h) (Nat.le_trans hw0.size hbl.size) ?_ ?_ ⟨hI1, hL1, hK1⟩).mono ?_
    · rintro pre A B ⟨hi, hl, hk⟩ hkeep
      exact ⟨hI _ _ _ hi (hkeep.weak fun k _ h => h.1), (hkeep.block _ (Array.getElem?_eq_some_iff.1 hl).1 hTwl).trans hl, (hkeep.block _ (Array.getElem?_eq_some_iff.1 hk).1 hTwD).trans hk⟩
    · rintro pre x W hpre ⟨hi, hl, hk⟩
      have hlt : w.heap.size + 1 < W.heap.size := (Array.getElem?_eq_some_iff.1 hl).1
      have hy := run_yield (P := P) (args := encs x) hl (by rw [hrec]; exact hps x)
      rw [hrec] at hy
      refine ⟨fn, _, assign, body, hy, roundIn_of_wpIn hfn (wpIn_mono (hround _ pre x W hpre hi (by omega) (by omega)) ?_)⟩
      intro e a1 W2 h
      cases e with
      | normal =>
        obtain ⟨hk2, hi2, hb⟩ := h
        have hlc : NonCell W (w.heap.size + 1) := ⟨_, hl, rfl⟩
        have hDc : NonCell W w.heap.size := ⟨_, hk, rfl⟩
        have hl2 : W2.heap[w.heap.size + 1]? = some (.loop (rec .ready none)) := (hk2.block _ hlt (.inr hlc)).trans hl
        have hD2 : W2.heap[w.heap.size]? = some (.deferred (some [])) := (hk2.block _ (by omega) (.inr hDc)).trans hk
        have hlt2 : w.heap.size + 1 < W2.heap.size := Nat.lt_of_lt_of_le hlt hk2.size
        refine ⟨_, run_beginRound hl2 (by rw [hrec]), ?_⟩
        obtain ⟨W3, hW3⟩ : ∃ W3, W2.putObj (w.heap.size + 1) (.loop { rec .ready none with state := .busy }) = W3 := ⟨_, rfl⟩
        rw [hW3]
        have hstep : StepKeep (fun _ => False) w.heap.size W2 W3 := by rw [← hW3]; exact .putObj _ (fun h => h.2 ⟨by omega, _, hl2, rfl⟩) _
        have hl3 : W3.heap[w.heap.size + 1]? = some (.loop { rec .ready none with state := .busy }) := by rw [← hW3]; exact World.putObj_heap_same hlt2
        have hD3 : W3.heap[w.heap.size]? = some (.deferred (some [])) := by rw [← hW3]; exact (World.putObj_heap_other (by omega)).trans hD2
        have hs3 : W3.heap.size = W2.heap.size := by rw [← hW3]; simp
        have hT3 : Keep (fun _ k => T k) W2 W3 := by rw [← hW3]; exact .putObj _ hTl _
        refine wpIn_mono (hb W3 (hI _ _ _ hi2 (hstep.weak fun k _ h => ⟨fun h => h, h.2⟩)) hstep ⟨_, hl3⟩) ?_
        intro e a4 W4 h4
        cases e with
        | normal =>
          obtain ⟨hk4, hi4⟩ := h4
          have hl4 : W4.heap[w.heap.size + 1]? = some (.loop { rec .ready none with state := .busy }) := (hk4.block _ (by omega) (.inr ⟨_, hl3, rfl⟩)).trans hl3
          have hD4 : W4.heap[w.heap.size]? = some (.deferred (some [])) := (hk4.block _ (by omega) (.inr ⟨_, hD3, rfl⟩)).trans hD3
          have hlt4 : w.heap.size + 1 < W4.heap.size := (Array.getElem?_eq_some_iff.1 hl4).1
          have hend := run_endRound (P := P) none hl4
          have hst4 : StepKeep Tw w.heap.size W4 (W4.putObj (w.heap.size + 1) (.loop (rec .ready none))) := .putObj _ (fun h => h.2 ⟨by omega, _, hl4, rfl⟩) _
          refine ⟨_, _, hend, by simp, ⟨?_, ?_, ?_⟩, ?_⟩
          · rw [hrec] at hst4 ⊢; exact hI _ _ _ hi4 hst4
          · rw [World.putObj_heap_same hlt4, hrec]; rfl
          · exact (World.putObj_heap_other (by omega)).trans hD4
          · exact ((hk2.weak fun _ _ h => .inl h).trans (hT3.trans ((hk4.weak fun _ _ h => .inl h).trans (.putObj _ hTl _) fun _ _ h => h) fun _ _ h => h) fun _ _ h => h)
        | ret => exact h4.elim
        | exit id => exact h4.elim
        | goto t => exact h4.elim
        | panic ch => exact h4.elim
        | outgrown => exact h4.elim
      | ret => exact h.elim
      | exit id => exact h.elim
      | goto t => exact h.elim
      | panic ch => exact h.elim
      | outgrown => exact h.elim
    · rintro e W2 ⟨⟨v, rfl⟩, hi, hl, hk⟩
      have hst : StepKeep Tw w.heap.size W2 (W2.putObj (w.heap.size + 1) (.loop { rec .ready none with state := .exhausted })) := .putObj _ (fun h => h.2 ⟨by omega, _, hl, rfl⟩) _
      have hend := run_endLoop (P := P) hl (by rw [hrec]; simp)
      refine ⟨none, _, (by rw [hrec] at hend; exact hend), ?_⟩
      exact hdone _ _ (Nat.le_refl _) (by rw [hrec] at hst; exact hI _ _ _ hi hst) ((World.putObj_heap_other (by omega)).trans hk)

/-- the same statement within a round of the loop l₀ -/
theorem wpIn_rangeN {l₀ : Nat} {r₀ : Loop} {g : Operand} {ps : Array Tmp} {assign body : Code} {Q : Exit → Act → World → Prop} {a : Act} {w : World}
    {gf : Nat} {lb : Array Value} (hl₀ : w.heap[l₀]? = some (.loop r₀)) (hg : a.eval g = .func (.func gf) #[] lb) (eg : ∀ args w, (callFunc gf args).run P w = .ok (.enter gf args) w)
    {encs : α → Array Value} {xs : List α} {T Tw : Nat → Prop} {w0 : World} (hseq : Iter P gf lb encs xs T Tw w0) (hw0 : Keep (fun _ k => T k) w0 w) (hTs : ∀ k, T k → k < w.heap.size) (hTw : ∀ k, Tw k → k < w.heap.size)
    (hps : ∀ x, (encs x).size = ps.size)
    (I : List α → World → Prop) (hI : ∀ pre W W', I pre W → StepKeep Tw w.heap.size W W' → I pre W') (h0 : I [] w)
    (hround : ∀ (l : Nat) (pre : List α) (x : α) (W : World), (pre ++ [x]) <+: xs → I pre W → w.heap.size ≤ W.heap.size →
      assign.wpIn (Fence.wide.inRound l) 0 P (Exit.then (fun a₁ W₁ => RoundKeep T W W₁ ∧ I pre W₁ ∧ ∀ W₂, I pre W₂ → StepKeep (fun _ => False) w.heap.size W₁ W₂ →
        body.wpIn (Fence.wide.inRound l) 0 P (roundEnd T (I (pre ++ [x])) W₂) a₁ W₂) (fun _ _ _ => False))
        { tmps := (ps.zip (encs x)).foldl (fun t (p, v) => t.setIfInBounds p v) a.tmps, defers := [] } W)
    (hdone : ∀ (W : World), I xs W → Q .normal a W) :
    (Code.rangeFunc g ps assign body).wpIn (Fence.wide.inRound l₀) 0 P Q a w := by
  refine wpIn_rangeFunc ?_
  intro fn hfn
  rw [show (Fence.wide.inRound l₀).round = some l₀ from rfl]
  obtain ⟨rec, hrec⟩ : ∃ rec : LoopState → Option Code → Loop, rec = fun st pe => { state := st, pending := pe, fn, tmps := a.tmps, params := ps, assign, body, defers := r₀.defers } := ⟨_, rfl⟩
  obtain ⟨W1, hW1⟩ : ∃ W1, w.alloc (.loop (rec .ready none)) = W1 := ⟨_, rfl⟩
  have hs1 : W1.heap.size = w.heap.size + 1 := by rw [← hW1]; simp
  have hL1 : W1.heap[w.heap.size]? = some (.loop (rec .ready none)) := by rw [← hW1]; exact World.alloc_heap_new w _
  have hbl : Below w.heap.size w W1 := by rw [← hW1]; exact (Below.refl _ w).alloc (Nat.le_refl _) _
  have hI1 : I [] W1 := hI _ _ _ h0 (.of_below hbl)
  refine ⟨w.heap.size, [], W1, { target := .fn (.func gf) lb, args := #[.func (.yield (w.heap.size)) #[] #[]] }, W1, gf,
    #[.func (.yield (w.heap.size)) #[] #[]] ++ lb, W1, ?_, ?_, fun _ _ => trivial, ?_, fun h => (by cases h), ?_⟩
  · rw [← hW1, hrec]; exact run_enterLoop_inner hl₀ _ _ _ _ _
  · simp only [resolve, hg]
    simp [go_sem]
  · simp [invoke, go_sem, eg]
  · have hTl : ¬ T w.heap.size := fun h => by have := hTs _ h; omega
    have hTwl : ¬ Tw (w.heap.size) := fun h => by have := hTw _ h; omega
    refine (hseq (w.heap.size)
      (fun pre W => I pre W ∧ W.heap[w.heap.size]? = some (.loop (rec .ready none)))
      W1 (hw0.trans (.of_below hbl) fun _ _ h => h) (Nat.le_trans hw0.size hbl.size) ?_ ?_ ⟨hI1, hL1⟩).mono ?_
    · rintro pre A B ⟨hi, hl⟩ hkeep
      exact ⟨hI _ _ _ hi (hkeep.weak fun k _ h => h.1), (hkeep.block _ (Array.getElem?_eq_some_iff.1 hl).1 hTwl).trans hl⟩
    · rintro pre x W hpre ⟨hi, hl⟩
      have hlt : w.heap.size < W.heap.size := (Array.getElem?_eq_some_iff.1 hl).1
      have hy := run_yield (P := P) (args := encs x) hl (by rw [hrec]; exact hps x)
      rw [hrec] at hy
      refine ⟨fn, _, assign, body, hy, roundIn_of_wpIn hfn (wpIn_mono (hround _ pre x W hpre hi (by omega)) ?_)⟩
      intro e a1 W2 h
      cases e with
      | normal =>
        obtain ⟨hk2, hi2, hb⟩ := h
        have hlc : NonCell W (w.heap.size) := ⟨_, hl, rfl⟩
        have hl2 : W2.heap[w.heap.size]? = some (.loop (rec .ready none)) := (hk2.block _ hlt (.inr hlc)).trans hl
        have hlt2 : w.heap.size < W2.heap.size := Nat.lt_of_lt_of_le hlt hk2.size
        refine ⟨_, run_beginRound hl2 (by rw [hrec]), ?_⟩
        obtain ⟨W3, hW3⟩ : ∃ W3, W2.putObj (w.heap.size) (.loop { rec .ready none with state := .busy }) = W3 := ⟨_, rfl⟩
        rw [hW3]
        have hstep : StepKeep (fun _ => False) w.heap.size W2 W3 := by rw [← hW3]; exact .putObj _ (fun h => h.2 ⟨by omega, _, hl2, rfl⟩) _
        have hl3 : W3.heap[w.heap.size]? = some (.loop { rec .ready none with state := .busy }) := by rw [← hW3]; exact World.putObj_heap_same hlt2
        have hs3 : W3.heap.size = W2.heap.size := by rw [← hW3]; simp
        have hT3 : Keep (fun _ k => T k) W2 W3 := by rw [← hW3]; exact .putObj _ hTl _
        refine wpIn_mono (hb W3 (hI _ _ _ hi2 (hstep.weak fun k _ h => ⟨fun h => h, h.2⟩)) hstep) ?_
        intro e a4 W4 h4
        cases e with
        | normal =>
          obtain ⟨hk4, hi4⟩ := h4
          have hl4 : W4.heap[w.heap.size]? = some (.loop { rec .ready none with state := .busy }) := (hk4.block _ (by omega) (.inr ⟨_, hl3, rfl⟩)).trans hl3
          have hlt4 : w.heap.size < W4.heap.size := (Array.getElem?_eq_some_iff.1 hl4).1
          have hend := run_endRound (P := P) none hl4
          have hst4 : StepKeep Tw w.heap.size W4 (W4.putObj (w.heap.size) (.loop (rec .ready none))) := .putObj _ (fun h => h.2 ⟨by omega, _, hl4, rfl⟩) _
          refine ⟨_, _, hend, by simp, ⟨?_, ?_⟩, ?_⟩
          · rw [hrec] at hst4 ⊢; exact hI _ _ _ hi4 hst4
          · rw [World.putObj_heap_same hlt4, hrec]; rfl
          · exact ((hk2.weak fun _ _ h => .inl h).trans (hT3.trans ((hk4.weak fun _ _ h => .inl h).trans (.putObj _ hTl _) fun _ _ h => h) fun _ _ h => h) fun _ _ h => h)
        | ret => exact h4.elim
        | exit id => exact h4.elim
        | goto t => exact h4.elim
        | panic ch => exact h4.elim
        | outgrown => exact h4.elim
      | ret => exact h.elim
      | exit id => exact h.elim
      | goto t => exact h.elim
      | panic ch => exact h.elim
      | outgrown => exact h.elim
    · rintro e W2 ⟨⟨v, rfl⟩, hi, hl⟩
      have hst : StepKeep Tw w.heap.size W2 (W2.putObj (w.heap.size) (.loop { rec .ready none with state := .exhausted })) := .putObj _ (fun h => h.2 ⟨by omega, _, hl, rfl⟩) _
      have hend := run_endLoop (P := P) hl (by rw [hrec]; simp)
      refine ⟨none, _, (by rw [hrec] at hend; exact hend), ?_⟩
      exact hdone _ (by rw [hrec] at hst; exact hI _ _ _ hi hst)

end Go.Cor
