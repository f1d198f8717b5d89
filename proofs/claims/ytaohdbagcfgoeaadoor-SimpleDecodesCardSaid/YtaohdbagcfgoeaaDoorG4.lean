/-
  Words on memory that all walks of these claims use: a slice that reads as numbers, boxes, rows of the call's own. Nothing here speaks of a program.
-/
import Derived.Below
import Derived.Laws.OwnMore
import Derived.Laws.BytesArg
import Derived.Laws.BytesString
import Derived.Maps.AppendAt
import Derived.OneCell
import Derived.Lib.Hide
import Derived.Test.YtaohdbagcfgoeaaDoorG3
namespace Go.Cor
open Go Go.RowKit

/-- the slice value '.slice A n c' reads as the numbers xs of kind k -/
structure Rd (w : World) (k : IntKind) (A : Option Addr) (n c : Nat) (xs : List Int) : Prop where
  len : xs.length = n
  cap : n ≤ c
  max : c ≤ maxLen
  nil : A = none → c = 0
  get : 0 < n → ∃ b o, A = some ⟨b, o, none⟩ ∧ b < w.heap.size ∧ ∀ i, i < n → w.cell? ⟨b, o + i, none⟩ = some (.int k (xs.getD i 0))

section
variable {w w' : World} {k : IntKind} {A : Option Addr} {n c : Nat} {xs : List Int}

theorem Rd.keep (h : Rd w k A n c xs) (hs : w.heap.size ≤ w'.heap.size) (hk : ∀ b, b < w.heap.size → (∃ o, A = some ⟨b, o, none⟩) → w'.heap[b]? = w.heap[b]?) : Rd w' k A n c xs :=
  ⟨h.len, h.cap, h.max, h.nil, fun hn => by
    obtain ⟨b, o, had, hb, hc⟩ := h.get hn
    exact ⟨b, o, had, by omega, fun i hi => by rw [World.cell?_of_block (w := w) (w' := w') (a := ⟨b, o + i, none⟩) (hk b hb ⟨o, had⟩)]; exact hc i hi⟩⟩
theorem Rd.below (h : Rd w k A n c xs) (hb : Below w.heap.size w w') : Rd w' k A n c xs := h.keep hb.size fun b hlt _ => hb.block b hlt
theorem Rd.alloc (h : Rd w k A n c xs) (o : Obj) : Rd (w.alloc o) k A n c xs := h.below ((Below.refl _ _).alloc (Nat.le_refl _) o)
theorem Rd.setCell (h : Rd w k A n c xs) {p : Addr} (hp : ∀ b o, A = some ⟨b, o, none⟩ → b ≠ p.block) (u : Value) : Rd (w.setCell p u) k A n c xs :=
  h.keep (by simp [World.setCell]) fun b _ ⟨o, ho⟩ => Below.heap_setCell _ _ _ _ (hp b o ho)
theorem Rd.own {B : Nat} {E : TypeId} (h : w.ownsRow B E 1 (.slice A n c) n (xs.map (.int k))) : Rd w k A n c xs := by
  have hl : xs.length = n := by have := h.1; simpa using this
  rcases h.2 with ⟨hv, rfl⟩ | ⟨g, cap, cur, hv, hB, hg, hnc, hcm, hcs, ht⟩
  · injection hv with h1 h2 h3; subst h1 h3
    exact ⟨hl, Nat.le_refl _, by simp [maxLen], fun _ => rfl, fun hn => by omega⟩
  · injection hv with h1 h2 h3; subst h1 h3
    refine ⟨hl, hnc, hcm, fun h => (by cases h), fun _ => ?_⟩
    refine ⟨g, 0, rfl, (Array.getElem?_eq_some_iff.1 hg).1, fun i hi => ?_⟩
    have := h.cells (g := g) rfl i (.int k (xs.getD i 0)) (by simp [List.getElem?_eq_getElem (show i < xs.length by omega)])
    simpa [Addr.add_lit] using this
theorem Rd.take (h : Rd w k A n c xs) {m : Nat} (hm : m ≤ n) : Rd w k A m c (xs.take m) :=
  ⟨by rw [List.length_take, h.len]; omega, Nat.le_trans hm h.cap, h.max, h.nil, fun hp => by
    obtain ⟨b, o, had, hb, hc⟩ := h.get (by omega)
    exact ⟨b, o, had, hb, fun i hi => by rw [hc i (by omega)]; simp [List.getD_eq_getElem?_getD, hi]⟩⟩
theorem Rd.nilv (w : World) (k : IntKind) : Rd w k none 0 0 [] := ⟨rfl, Nat.le_refl _, by simp [maxLen], fun _ => rfl, fun h => by omega⟩
end

/-- an owned row of numbers -/
abbrev Owns (w : World) (B : Nat) (E : TypeId) (k : IntKind) (A : Option Addr) (n c : Nat) (xs : List Int) : Prop := w.ownsRow B E 1 (.slice A n c) n (xs.map (.int k))

/-- a result: a fresh slice of the numbers xs, nothing that was there turned -/
def RetRow (B : Nat) (E : TypeId) (k : IntKind) (w : World) (xs : List Int) (e : Ending) (w' : World) : Prop :=
  ∃ A n c, e = .returned (.slice A n c) ∧ Owns w' B E k A n c xs ∧ Below B w w'

theorem conv_bytes {P : Program} {w : World} {A : Option Addr} {n c : Nat} {xs : List Int} (h : Rd w .u8 A n c xs) (src e dst : TypeId) (hs : P.underlying src = some (.slice e)) (he : P.underlying e = some (.int .u8))
    (hd : P.underlying dst = some .string) : (convert src dst (.slice A n c)).run P w = .ok (.string (strOfNums xs)) w := by
  rcases Nat.eq_zero_or_pos n with h0 | h0
  · subst h0
    have hx : xs = [] := List.eq_nil_of_length_eq_zero h.len
    subst hx
    cases A with
    | none =>
      rw [run_convert_bytes_nil w src e hs he 0 c dst hd]
      rfl
    | some ad =>
      rw [run_convert_bytes_string w src dst e _ 0 c hs he hd]
      simp [Conv.bytesToString, loadCells, loadCellsFrom]
      rfl
  · obtain ⟨b, o, rfl, hb, hcell⟩ := h.get h0
    exact run_convert_bytes_arg w src e hs he b o n c xs h.len hcell dst hd

/-- a box: a block of one cell -/
abbrev Box (w : World) (b : Nat) (t : TypeId) (v : Value) : Prop := w.heap[b]? = some (.cells #[v] t (0, 0))
theorem Box.new (w : World) (t : TypeId) (v : Value) : Box (w.alloc (.cells #[v] t)) w.heap.size t v := heap_alloc_new w _
theorem Box.alloc {w : World} {b : Nat} {t : TypeId} {v : Value} (h : Box w b t v) (o : Obj) : Box (w.alloc o) b t v := (Below.heap_alloc w o b (lt_of_block h)).trans h
theorem Box.far {w : World} {b : Nat} {t : TypeId} {v : Value} (h : Box w b t v) {p : Addr} (hp : b ≠ p.block) (u : Value) : Box (w.setCell p u) b t v := (Below.heap_setCell w p u b hp).trans h
theorem Box.keep {S : World → Nat → Prop} {w w' : World} {b : Nat} {t : TypeId} {v : Value} (h : Box w b t v) (hk : Keep S w w') (hs : S w b) : Box w' b t v := (hk.block b (lt_of_block h) hs).trans h
theorem Box.below {B : Nat} {w w' : World} {b : Nat} {t : TypeId} {v : Value} (h : Box w b t v) (hk : Below B w w') (hs : b < B) : Box w' b t v := (hk.block b hs).trans h
theorem Box.cells {w : World} {b : Nat} {t : TypeId} {v : Value} (h : Box w b t v) : ¬ NonCell w b := fun ⟨o, ho, hc⟩ => by rw [h] at ho; cases ho; simp [Obj.isCells] at hc

theorem owns_keep {S : World → Nat → Prop} {w w' : World} {B : Nat} {E : TypeId} {size : Nat} {v : Value} {n : Nat} {xs : List Value} (h : w.ownsRow B E size v n xs) (hk : Keep S w w') (hs : ∀ g, v.ownBlock = some g → (¬ NonCell w g) → S w g) : w'.ownsRow B E size v n xs := by
  refine ⟨h.1, ?_⟩
  rcases h.2 with hn | ⟨g, cap, cur, rfl, hb, hg, rest⟩
  · exact .inl hn
  · refine .inr ⟨g, cap, cur, rfl, hb, ?_, rest⟩
    rw [hk.block g (Array.getElem?_eq_some_iff.1 hg).1 (hs g rfl (fun ⟨o, ho, hc⟩ => by rw [hg] at ho; cases ho; simp [Obj.isCells] at hc))]
    exact hg

theorem below_keep {S : World → Nat → Prop} {B : Nat} {w w' : World} (hk : Keep S w w') (hB : B ≤ w.heap.size) (hs : ∀ k, k < B → S w k) : Below B w w' :=
  ⟨hk.os, hk.tape, hk.output, hk.size, fun k h => hk.block k (by omega) (hs k h)⟩

theorem ret_i {k : IntKind} {a a' : Int} (h : a = a') : Ending.returned (.int k a) = .returned (.int k a') := by rw [h]
theorem ret_b {a a' : Bool} (h : a = a') : Ending.returned (.bool a) = .returned (.bool a') := by rw [h]
theorem ret3i {k1 k2 k3 : IntKind} {a a' b b' c c' : Int} (ha : a = a') (hb : b = b') (hc : c = c') : Ending.returned (.tuple #[.int k1 a, .int k2 b, .int k3 c]) = .returned (.tuple #[.int k1 a', .int k2 b', .int k3 c']) := by rw [ha, hb, hc]
theorem val_i {k : IntKind} {a a' : Int} (h : a = a') : Value.int k a = .int k a' := by rw [h]

/-- each number fits its kind -/
def Fits : IntKind → Int → Prop
  | .u8, x => 0 ≤ x ∧ x ≤ 255
  | .u16, x => 0 ≤ x ∧ x ≤ 65535
  | .u32, x => 0 ≤ x ∧ x ≤ 4294967295
  | .u64, x => 0 ≤ x ∧ x ≤ 18446744073709551615
  | .i64, x => -9223372036854775808 ≤ x ∧ x ≤ 9223372036854775807
  | _, _ => True
def In (k : IntKind) (xs : List Int) : Prop := ∀ x ∈ xs, Fits k x
theorem fits_of_wf {k : IntKind} {x : Int} (h : (Lit.int k x).wf = true) : Fits k x := by
  simp only [Lit.wf, Bool.and_eq_true, decide_eq_true_eq] at h
  cases k <;> first | trivial | exact h
theorem Rd.of_row {W : World} {k : IntKind} {x : Addr} {l c : Nat} {zs : List Int} (hl : l ≤ c) (hm : c ≤ maxLen) (hz : zs.length = c) (hcell : ∀ i, i < zs.length → W.cell? (x.add i) = some (.int k (zs.getD i 0))) (hwz : ∀ n ∈ zs, (Lit.int k n).wf = true) :
    ∃ xs, Rd W k (some x) l c xs ∧ In k xs := by
  refine ⟨zs.take l, ⟨by rw [List.length_take]; omega, hl, hm, fun h => (by cases h), fun hn => ?_⟩, fun n hn => fits_of_wf (hwz n (List.mem_of_mem_take hn))⟩
  obtain ⟨b, o, spot⟩ := x
  have h0 := hcell 0 (by omega)
  have hs : spot = none := by simpa [Addr.add] using World.cell?_spot h0
  subst hs
  refine ⟨b, o, rfl, World.block_lt_of_cell? W _ h0, fun i hi => ?_⟩
  have := hcell i (by omega)
  rw [Addr.add_lit] at this
  rw [this]
  simp [List.getD_eq_getElem?_getD, hi]
end Go.Cor
