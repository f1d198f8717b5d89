/-
  Slices of slices: s[l:j], s[l:], s[:j] read as parts of what s reads as. Nothing here speaks of a program.
-/
import Derived.Deep.Draws
import Derived.Laws.Slices
import Derived.Laws.Strings
import Derived.Test.YtaohdbagcfgoeaaDoorG5
namespace Go.Cor
open Go Go.RowKit

theorem str_size (xs : List Int) : (strOfNums xs).size = xs.length := by simp [strOfNums, ByteArray.size]
/-- two strings of bytes are alike just where the bytes are -/
theorem str_beq {xs ys : List Int} (hx : ∀ x ∈ xs, 0 ≤ x ∧ x ≤ 255) (hy : ∀ x ∈ ys, 0 ≤ x ∧ x ≤ 255) : ((strOfNums xs).toList == (strOfNums ys).toList) = decide (xs = ys) := by
  rw [ByteArray.toList_eq, ByteArray.toList_eq, Bool.eq_iff_iff]
  simp only [beq_iff_eq, decide_eq_true_eq]
  exact ⟨fun e => strOfNums_inj hx hy (ByteArray.ext (Array.toList_inj.1 e)), fun e => by rw [e]⟩
theorem below_drewN {B : Nat} {w w' : World} (h : Below B w w') (k : Nat) : Below B w (w'.drewN k) := ⟨h.os, h.tape, h.output, h.size, h.block⟩

section
variable {w : World} {k : IntKind} {A : Option Addr} {n c : Nat} {xs : List Int} {vs : List Value} {s : Nat}
theorem RdV.sliced (h : RdV w s A n c vs) {l j : Nat} (hlj : l ≤ j) (hj : j ≤ n) : RdV w s (if c = l then A else A.map (·.add (l * s))) (j - l) (c - l) ((vs.drop (l * s)).take ((j - l) * s)) := by
  have hc := h.cap
  refine ⟨?_, by omega, by have := h.max; omega, ?_, fun hp => ?_⟩
  · have := h.len
    rw [List.length_take, List.length_drop, this, ← Nat.sub_mul]
    exact Nat.min_eq_left (Nat.mul_le_mul_right _ (by omega))
  · intro e
    split at e
    · omega
    · cases A with
      | none => have := h.nil rfl; omega
      | some a => simp at e
  · obtain ⟨b, o, rfl, hb, hg⟩ := h.get (by omega)
    rw [if_neg (by omega)]
    refine ⟨b, o + l * s, by simp [Addr.add], hb, fun i u hu => ?_⟩
    rw [List.getElem?_take] at hu
    split at hu
    · rw [List.getElem?_drop] at hu
      rw [Nat.add_assoc]; exact hg _ u hu
    · cases hu
theorem Rd.sliced (h : Rd w k A n c xs) {l j : Nat} (hlj : l ≤ j) (hj : j ≤ n) : Rd w k (if c = l then A else A.map (·.add (l * 1))) (j - l) (c - l) ((xs.drop l).take (j - l)) := by
  have hc := h.cap
  refine ⟨?_, by omega, by have := h.max; omega, ?_, fun hp => ?_⟩
  · have := h.len
    rw [List.length_take, List.length_drop, this]; omega
  · intro e
    split at e
    · omega
    · cases A with
      | none => have := h.nil rfl; omega
      | some a => simp at e
  · obtain ⟨b, o, rfl, hb, hg⟩ := h.get (by omega)
    rw [if_neg (by omega)]
    refine ⟨b, o + l, by simp [Addr.add], hb, fun i hi => ?_⟩
    rw [Nat.add_assoc, hg _ (by omega)]
    simp [List.getD_eq_getElem?_getD, List.getElem?_take, List.getElem?_drop, hi]
/-- s[l:], as the walk spells it -/
theorem Rd.tail (h : Rd w k A n c xs) {l : Nat} (hl : l ≤ n) : Rd w k (if c = l then A else A.map fun x => x.add l) (n - l) (c - l) (xs.drop l) := by
  have := h.sliced hl (Nat.le_refl n)
  rw [List.take_of_length_le (by have := h.len; simp; omega), Nat.mul_one] at this
  exact this
end
section
variable {P : Program} {w : World} {t e : TypeId} {z : Value} {size bytes : Nat} (ht : ElemT P t e z size bytes) (A : Option Addr) (n c : Nat)
include ht
theorem ElemT.elem : P.elem t = e := by simp [Program.elem, ht.und]
theorem ElemT.und' : P.underlying t = some (.slice (P.elem t)) := by rw [ht.elem]; exact ht.und
theorem ElemT.size' : (sizeOf (P.elem t)).run P w = .ok size w := by
  obtain ⟨i, hi, hz, hsize, hby⟩ := info_parts ht.info
  rw [ht.elem]; simp [sizeOf, typeInfo, hi, hsize]
theorem run_lh {l j : Nat} (hlj : l ≤ j) (hj : j ≤ c) (kl kh : IntKind) : (Instr.sliceAt t (.slice A n c) (some (.int kl l)) (some (.int kh j)) none).run P w = .ok (.slice (if c = l then A else A.map (·.add (l * size))) (j - l) (c - l)) w := by
  rw [run_sliceAt_slice _ _ _ _ _ _ ht.und', run_slice_lh _ _ _ _ _ ht.und' _ _ _ _ (by omega) (by omega) (by omega), ht.size']
  simp [Result.andThen, Go.sliced]
theorem run_l {l : Nat} (hl : l ≤ n) (kl : IntKind) : (Instr.sliceAt t (.slice A n c) (some (.int kl l)) none none).run P w = .ok (.slice (if c = l then A else A.map (·.add (l * size))) (n - l) (c - l)) w := by
  rw [run_sliceAt_slice _ _ _ _ _ _ ht.und', run_slice_l _ _ _ _ _ ht.und' _ _ (by omega) (by omega), ht.size']
  simp [Result.andThen, Go.sliced]
theorem run_h {j : Nat} (hj : j ≤ c) (kh : IntKind) : (Instr.sliceAt t (.slice A n c) none (some (.int kh j)) none).run P w = .ok (.slice A j c) w := by
  rw [run_sliceAt_slice _ _ _ _ _ _ ht.und', run_slice_h _ _ _ _ _ ht.und' _ _ (by omega) (by omega), ht.size']
  simp only [Result.andThen, Go.sliced, Int.toNat_natCast, Nat.sub_zero, Nat.zero_mul]
  split
  · rfl
  · cases A <;> simp [Addr.add]
end
/-- s[l:j] of numbers, on a walk -/
theorem wpList_slice_lh {P : Program} {w w0 : World} {ops : Array Oper} {rest : List Oper} {o : Oper} {a : Act} {Q : Exit → Act → World → Prop} (hgd : o.guard = none) {s lo hi : Operand} {t : TypeId}
    (ho : o.op = .slice t s (some lo) (some hi) none) {e : TypeId} {z : Value} {bytes : Nat} (ht : ElemT P t e z 1 bytes) {k : IntKind} {A : Option Addr} {n c : Nat} {xs : List Int} (hr : Rd w0 k A n c xs)
    (hs : a.eval s = .slice A n c) {kl kh : IntKind} {l j : Nat} (hl : a.eval lo = .int kl l) (hh : a.eval hi = .int kh j) (hlj : l ≤ j) (hj : j ≤ n)
    (h : ∀ A' c', Rd w0 k A' (j - l) c' ((xs.drop l).take (j - l)) → wpList P ops Q rest (a.put o.dst (.slice A' (j - l) c')) w) : wpList P ops Q (o :: rest) a w := by
  refine wpList_plain hgd fun K hK => ?_
  unfold Oper.wp execOp
  simp only [ho, Option.map, hs, hl, hh, Sem.run_bind, run_lh ht A n c hlj (Nat.le_trans hj hr.cap), Result.andThen_ok, Sem.run_pure]
  exact hK _ _ (h _ _ (hr.sliced hlj hj))
/-- s[l:] -/
theorem wpList_slice_l {P : Program} {w w0 : World} {ops : Array Oper} {rest : List Oper} {o : Oper} {a : Act} {Q : Exit → Act → World → Prop} (hgd : o.guard = none) {s lo : Operand} {t : TypeId}
    (ho : o.op = .slice t s (some lo) none none) {e : TypeId} {z : Value} {bytes : Nat} (ht : ElemT P t e z 1 bytes) {k : IntKind} {A : Option Addr} {n c : Nat} {xs : List Int} (hr : Rd w0 k A n c xs)
    (hs : a.eval s = .slice A n c) {kl : IntKind} {l : Nat} (hl : a.eval lo = .int kl l) (hj : l ≤ n)
    (h : ∀ A' c', Rd w0 k A' (n - l) c' (xs.drop l) → wpList P ops Q rest (a.put o.dst (.slice A' (n - l) c')) w) : wpList P ops Q (o :: rest) a w := by
  refine wpList_plain hgd fun K hK => ?_
  unfold Oper.wp execOp
  simp only [ho, Option.map, hs, hl, Sem.run_bind, run_l ht A n c hj, Result.andThen_ok, Sem.run_pure]
  have := hr.sliced hj (Nat.le_refl n)
  rw [List.take_of_length_le (by have := hr.len; simp; omega)] at this
  exact hK _ _ (h _ _ this)
/-- s[:j] -/
theorem wpList_slice_h {P : Program} {w w0 : World} {ops : Array Oper} {rest : List Oper} {o : Oper} {a : Act} {Q : Exit → Act → World → Prop} (hgd : o.guard = none) {s hi : Operand} {t : TypeId}
    (ho : o.op = .slice t s none (some hi) none) {e : TypeId} {z : Value} {bytes : Nat} (ht : ElemT P t e z 1 bytes) {k : IntKind} {A : Option Addr} {n c : Nat} {xs : List Int} (hr : Rd w0 k A n c xs)
    (hs : a.eval s = .slice A n c) {kh : IntKind} {j : Nat} (hh : a.eval hi = .int kh j) (hj : j ≤ n)
    (h : Rd w0 k A j c (xs.take j) → wpList P ops Q rest (a.put o.dst (.slice A j c)) w) : wpList P ops Q (o :: rest) a w := by
  refine wpList_plain hgd fun K hK => ?_
  unfold Oper.wp execOp
  simp only [ho, Option.map, hs, hh, Sem.run_bind, run_h ht A n c (Nat.le_trans hj hr.cap), Result.andThen_ok, Sem.run_pure]
  exact hK _ _ (h (hr.take hj))
end Go.Cor
