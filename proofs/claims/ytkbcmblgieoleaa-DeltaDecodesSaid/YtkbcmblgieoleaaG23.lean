/-
  A region that draws its order, walked once, inside a round of a range over a function.
-/
import Derived.TacticsIn
import Derived.RangeFuncCalls
import Derived.Test.YtkbcmblgieoleaaG2
namespace Go.Free
open Go.RowKit
def noDefer (l : List Oper) : Bool := l.all fun o => match o.op with | .defer _ => false | _ => true
theorem noDefer_spec {l : List Oper} (h : noDefer l = true) {i : Nat} {o : Oper} (ho : l[i]? = some o) : ∀ c, o.op ≠ .defer c := by
  intro c e
  have h1 := List.all_eq_true.1 h o (List.mem_of_getElem? ho)
  simp [e] at h1
section
variable {P : Program} {Q : Exit → Act → World → Prop} {r : Nat}
theorem anyG_in {ops : Array Oper} : ∀ (fuel : Nat) (listed : Array Bool), AnyG (fun i K => wpOpIn (Fence.wide.inRound r) 0 P ops Q i K) ops (Q .normal) fuel listed = wpAnyIn (Fence.wide.inRound r) 0 P .any ops Q fuel listed
  | 0, _ => rfl
  | fuel + 1, listed => by funext a w; simp only [AnyG, wpAnyIn, anyG_in fuel]
theorem wpOpIn_of_oblig {l : List Oper} {a0 : Act} {w0 : World} {done : Done} {F : Fact} {i : Nat} {o : Oper} {a : Act} {w : World} {K : Act → World → Prop} (hnd : ∀ c, o.op ≠ .defer c) (ho : l[i]? = some o)
    (hob : Oblig P l.toArray a0 w0 done o F) (hb : Below w0.heap.size w0 w) (hs : ∀ s ∈ o.looksAt l.toArray, look a0 done s (a.tmps.getD s undef) w)
    (hK : ∀ v w', Below w.heap.size w w' → F v w' → K (a.put o.dst v) w') : wpOpIn (Fence.wide.inRound r) 0 P l.toArray Q i K a w := by
  have h := hob a.eval w (Env.of_act a) hb hs
  unfold wpOpIn
  simp only [List.getElem?_toArray, ho]
  rw [yielded_eq]
  split
  · rename_i hw
    rw [if_pos hw] at h
    refine ⟨fun _ _ => trivial, ?_⟩
    rw [Oper.semAt_eq _ _ _ hnd]
    generalize (execOp a.eval o).run P w = q at h
    cases q with
    | ok x w' =>
      cases x <;> simp only [upon] at h <;> simp only [Oper.uponIn]
      case value v => exact hK _ _ h.1 h.2
      case skip => exact hK _ _ h.1 h.2
      case enter f args =>
        obtain ⟨h1, h2⟩ := h
        refine ⟨fun hd => (by cases hd), CallsIn.inRound r (callsIn_wide.2 (h2.mono ?_))⟩
        rintro e w'' ⟨v, rfl, h3, h4⟩
        exact hK _ _ (h1.trans ⟨h3.os, h3.tape, h3.output, h3.size, fun k hk => h3.block k (Nat.lt_of_lt_of_le hk h1.size)⟩) h4
    | halt x w' => simp only [upon] at h
  · rename_i hw
    rw [if_neg hw] at h
    exact ⟨fun _ _ => trivial, hK _ _ (Below.refl _ _) h⟩
theorem seq_wpListIn {l : List Oper} : ∀ (f k : Nat), k + f = l.length → seqG (fun i K => wpOpIn (Fence.wide.inRound r) 0 P l.toArray Q i K) (Q .normal) f k = wpListIn (Fence.wide.inRound r) 0 P l.toArray Q (l.drop k)
  | 0, k, h => by rw [List.drop_of_length_le (by omega)]; rfl
  | f + 1, k, h => by
    have hk : k < l.length := by omega
    rw [List.drop_eq_getElem_cons hk]
    funext a w
    simp only [seqG, wpListIn, wpOpIn, List.getElem?_toArray, List.getElem?_eq_getElem hk, seq_wpListIn (l := l) f (k + 1) (by omega)]
theorem wpIn_region_free {id : Nat} {l : List Oper} {a0 : Act} {w0 : World} (n : Nat) (hm : P.follows .mixedOrders = true) (hc : checkB l n a0.tmps.size = true) (hd : noDefer l = true)
    (h : Chain P l.toArray a0 w0 (fun rest a w => wpListIn (Fence.wide.inRound r) 0 P l.toArray Q rest a w) n [] l) : (Code.region id l.toArray true).wpIn (Fence.wide.inRound r) 0 P Q a0 w0 := by
  obtain ⟨Fs, h1, h2, h3⟩ := chain_out (l := l) n 0 (fun _ _ _ => False) (fun i hi => by omega) (fun i hi => by omega) h
  have hn : n ≤ l.length := by
    simp only [checkB, Bool.and_eq_true, decide_eq_true_eq] at hc
    exact hc.2
  simp only [Nat.zero_add] at h1 h2 h3
  refine wpIn_region_any hm ?_
  have e : wpAnyIn (Fence.wide.inRound r) 0 P .any l.toArray Q l.toArray.size (Array.replicate l.toArray.size false) a0 { w0 with drawn := w0.drawn + 1 } =
      AnyG (fun i K => wpOpIn (Fence.wide.inRound r) 0 P l.toArray Q i K) l.toArray (Q .normal) l.toArray.size (Array.replicate l.toArray.size false) a0 { w0 with drawn := w0.drawn + 1 } := by rw [anyG_in]
  rw [e]
  have hrep : ∀ j, (Array.replicate l.toArray.size false).getD j false = false := fun j => by
    rcases Nat.lt_or_ge j l.length with h | h
    · simp [h]
    · simp [h]
  refine head_any (op := fun i K => wpOpIn (Fence.wide.inRound r) 0 P l.toArray Q i K) (N := Q .normal) (l := l) (Fs := Fs) (vals := fun _ => undef) hc (fun i K K' a w h => wpOpIn_mono h) h1 (fun i o a w K hi ho hb hs hK => wpOpIn_of_oblig (a := a) (w := w) (K := K) (noDefer_spec hd ho) ho (h2 i hi o ho) hb hs hK) ?_ _ _ _ _ ?_ ?_
  · intro vals w hb hv
    rw [seq_wpListIn _ _ (by omega)]
    exact ends_out a0 n hv (h3 w hb)
  · have : ∀ k, unl (Array.replicate l.toArray.size false) k ≤ k := by
      intro k
      induction k with
      | zero => exact Nat.le_refl _
      | succ k ih => simp only [unl]; split <;> omega
    simpa using this l.length
  · refine ⟨by simp, fun i o _ hl => (by rw [hrep] at hl; cases hl), fun i hl => (by rw [hrep] at hl; cases hl), ⟨rfl, rfl, rfl, Nat.le_refl _, fun _ _ => rfl⟩, rfl, rfl, fun i hl => (by rw [hrep] at hl; cases hl), ?_⟩
    intro s k hcut
    have : ∀ j < k, (l[j]?).bind (·.dst) ≠ some s := fun j hj hd => by
      have := (hcut j hd).2 hj
      rw [hrep] at this; cases this
    have key : ∀ m ≤ k, (frm l a0 (fun _ => undef) m).tmps.getD s undef = a0.tmps.getD s undef := by
      intro m
      induction m with
      | zero => intro _; rfl
      | succ m ih => intro hm; simp only [frm]; rw [put_other _ _ _ _ (this m (by omega))]; exact ih (by omega)
    rw [key k (Nat.le_refl _)]
end
end Go.Free
