/-
  
-/
import Derived.Orders
import Derived.OrdersIn
import Derived.Still
import Derived.Below
namespace Go.Free
theorem getD_both {listed : Array Bool} {i : Nat} (h : listed.getD i true = false) : listed.getD i false = false := by
  rcases Nat.lt_or_ge i listed.size with h' | h'
  · simp [h'] at h ⊢; exact h
  · simp [Array.getElem?_eq_none h'] at h
open Go.RowKit

abbrev Fact := Value → World → Prop
def Stable (F : Fact) : Prop := ∀ v w w', F v w → Below w.heap.size w w' → F v w'
theorem stable_eq (c : Value) : Stable (fun v _ => v = c) := fun _ _ _ h _ => h

abbrev Done := List (Option Tmp × Fact)

def look (a0 : Act) : Done → Tmp → Fact
  | [], s => fun v _ => v = a0.tmps.getD s undef
  | (d, F) :: r, s => if d = some s then F else look a0 r s

def upon (P : Program) (w : World) (F : Fact) : Result Next → Prop
  | .ok (.value v) w' => Below w.heap.size w w' ∧ F v w'
  | .ok .skip w' => Below w.heap.size w w' ∧ F undef w'
  | .ok (.enter f args) w' => Below w.heap.size w w' ∧ Calls P f args w' fun e w'' => ∃ v, e = .returned v ∧ Below w'.heap.size w' w'' ∧ F v w''
  | _ => False

theorem if_t {c : Prop} [Decidable c] {a b : Prop} (hc : c) (h : a) : (if c then a else b) := by rw [if_pos hc]; exact h
theorem if_f {c : Prop} [Decidable c] {a b : Prop} (hc : ¬ c) (h : b) : (if c then a else b) := by rw [if_neg hc]; exact h
structure Env (ρ : Operand → Value) : Prop where
  const : ∀ c, ρ (.const c) = c
  glob : ∀ g, ρ (.global g) = .pointer (some ⟨g, 0, none⟩)
  func : ∀ f, ρ (.func f) = .func (.func f) #[] #[]

theorem Env.of_act (a : Act) : Env a.eval := ⟨fun _ => rfl, fun _ => rfl, fun _ => rfl⟩

def yieldedR (ops : Array Oper) (ρ : Operand → Value) (j : Nat) : Option Bool :=
  match (ops[j]?).bind (·.dst) with
  | some d => (match ρ (.tmp d) with | .bool b => some b | _ => none)
  | none => none

theorem yielded_eq (ops : Array Oper) (a : Act) : yielded ops a.tmps = yieldedR ops a.eval := by
  funext j
  unfold yielded yieldedR
  cases h : (ops[j]?).bind (·.dst) with
  | none => rfl
  | some d =>
    simp only [Option.bind_some, Act.eval]
    cases h2 : a.tmps[d]? with
    | none => simp [h2, undef]
    | some v => simp [h2]; cases v <;> rfl

def Ends (E : Act → World → Prop) (w : World) : Done → Act → Prop
  | [], a => E a w
  | (d, F) :: r, a => ∀ v, F v w → Ends E w r (a.put d v)

def Oblig (P : Program) (ops : Array Oper) (a0 : Act) (w0 : World) (done : Done) (o : Oper) (F : Fact) : Prop :=
  ∀ ρ w, Env ρ → Below w0.heap.size w0 w → (∀ s ∈ o.looksAt ops, look a0 done s (ρ (.tmp s)) w) →
    if Region.wanted o (yieldedR ops ρ) then upon P w F ((execOp ρ o).run P w) else F undef w

def Chain (P : Program) (ops : Array Oper) (a0 : Act) (w0 : World) (E : List Oper → Act → World → Prop) : Nat → Done → List Oper → Prop
  | 0, done, rest => ∀ w, Below w0.heap.size w0 w → Ends (E rest) w done.reverse a0
  | _ + 1, _, [] => False
  | n + 1, done, o :: rest => ∃ F, Stable F ∧ Oblig P ops a0 w0 done o F ∧ Chain P ops a0 w0 E n ((o.dst, F) :: done) rest

/-! ### the check on a region -/
def maskOf (acc : List Nat) (o : Oper) : Nat :=
  o.after.toList.foldl (fun s e => if Region.binds .any e then s ||| 2 ^ e.on ||| acc.getD e.on 0 else s) 0
def masks : List Oper → List Nat → List Nat
  | [], acc => acc
  | o :: r, acc => masks r (acc ++ [maskOf acc o])

def okB (l : List Oper) : Bool :=
  let m := masks l []
  (List.range l.length).all fun j => (List.range j).all fun i =>
    (m.getD j 0).testBit i || (match l[i]?, l[j]? with | some x, some y => x.apart l.toArray y | _, _ => false)
def tailB (l : List Oper) (n : Nat) : Bool :=
  let m := masks l []
  (List.range l.length).all fun t => decide (t < n) || (List.range t).all fun j => (m.getD t 0).testBit j
def dstB (l : List Oper) (N : Nat) : Bool := l.all fun o => match o.dst with | some d => decide (d < N) | none => true
theorem dstB_spec {l : List Oper} {N : Nat} (h : dstB l N = true) {i : Nat} {d : Tmp} (hd : (l[i]?).bind (·.dst) = some d) : d < N := by
  cases ho : l[i]? with
  | none => simp [ho] at hd
  | some o =>
    simp [ho] at hd
    have := List.all_eq_true.1 h o (List.mem_of_getElem? ho)
    simpa [hd] using this
def edgesB (l : List Oper) : Bool := (List.range l.length).all fun i => match l[i]? with | some o => o.after.all (fun e => !Region.binds .any e || decide (e.on < i)) | none => true
def checkB (l : List Oper) (n N : Nat) : Bool := dstB l N && Region.noSelect l.toArray && okB l && edgesB l && tailB l n && decide (n ≤ l.length)

theorem maskOf_bit (acc : List Nat) (o : Oper) (j : Nat) (h : (maskOf acc o).testBit j = true) :
    ∃ e ∈ o.after, Region.binds .any e = true ∧ (e.on = j ∨ (acc.getD e.on 0).testBit j = true) := by
  unfold maskOf at h
  have key : ∀ (es : List Edge) (s : Nat), (es.foldl (fun s e => if Region.binds .any e then s ||| 2 ^ e.on ||| acc.getD e.on 0 else s) s).testBit j = true →
      s.testBit j = true ∨ ∃ e ∈ es, Region.binds .any e = true ∧ (e.on = j ∨ (acc.getD e.on 0).testBit j = true) := by
    intro es
    induction es with
    | nil => intro s h; exact .inl h
    | cons e es ih =>
      intro s h
      rw [List.foldl_cons] at h
      rcases ih _ h with h1 | ⟨e', he', h2⟩
      · by_cases hb : Region.binds .any e = true
        · rw [if_pos hb] at h1
          simp only [Nat.testBit_or, Bool.or_eq_true, Nat.testBit_two_pow] at h1
          rcases h1 with (h1 | h1) | h1
          · exact .inl h1
          · exact .inr ⟨e, by simp, hb, .inl (by simpa using h1)⟩
          · exact .inr ⟨e, by simp, hb, .inr h1⟩
        · rw [if_neg hb] at h1; exact .inl h1
      · exact .inr ⟨e', by simp [he'], h2⟩
  rcases key _ _ h with h1 | ⟨e, he, h2⟩
  · simp at h1
  · exact ⟨e, by simpa using he, h2⟩

theorem masks_length (l : List Oper) : ∀ acc, (masks l acc).length = acc.length + l.length := by
  induction l with
  | nil => intro acc; simp [masks]
  | cons o r ih => intro acc; simp [masks, ih]; omega
theorem masks_prefix (l : List Oper) : ∀ acc i, i < acc.length → (masks l acc).getD i 0 = acc.getD i 0 := by
  induction l with
  | nil => intro acc i _; rfl
  | cons o r ih => intro acc i hi; simp only [masks]; rw [ih _ _ (by simp; omega)]; simp [List.getElem?_append_left hi]
theorem masks_at (l : List Oper) : ∀ acc k o, l[k]? = some o → (masks l acc).getD (acc.length + k) 0 = maskOf ((masks l acc).take (acc.length + k)) o := by
  induction l with
  | nil => intro acc k o h; simp at h
  | cons x r ih =>
    intro acc k o h
    cases k with
    | zero =>
      simp at h; subst h
      simp only [masks]
      rw [masks_prefix _ _ _ (by simp)]
      have : (masks r (acc ++ [maskOf acc x])).take (acc.length + 0) = acc := by
        apply List.ext_getElem?
        intro i
        by_cases hi : i < acc.length
        · rw [List.getElem?_take, if_pos (by omega)]
          have := masks_prefix r (acc ++ [maskOf acc x]) i (by simp; omega)
          have hl : i < (masks r (acc ++ [maskOf acc x])).length := by rw [masks_length]; simp; omega
          rw [List.getD_eq_getElem?_getD, List.getD_eq_getElem?_getD, List.getElem?_eq_getElem hl, List.getElem?_append_left hi, List.getElem?_eq_getElem hi] at this
          rw [List.getElem?_eq_getElem hl, List.getElem?_eq_getElem hi]
          simpa using this
        · rw [List.getElem?_eq_none (by simp; omega), List.getElem?_eq_none (by omega)]
      rw [this]; simp
    | succ k =>
      have := ih (acc ++ [maskOf acc x]) k o (by simpa using h)
      simp only [masks]
      simp only [List.length_append, List.length_cons, List.length_nil] at this
      rw [show acc.length + (k + 1) = acc.length + (0 + 1) + k by omega]
      exact this

def Closed (l : List Oper) (listed : Array Bool) : Prop :=
  ∀ i o, l[i]? = some o → listed.getD i false = true → ∀ e ∈ o.after, Region.binds .any e = true → listed.getD e.on false = true

theorem anc_listed {l : List Oper} {listed : Array Bool} (hc : Closed l listed) : ∀ i o j, l[i]? = some o →
    (∀ e ∈ o.after, Region.binds .any e = true → listed.getD e.on false = true) → ((masks l []).getD i 0).testBit j = true → listed.getD j false = true := by
  intro i
  induction i using Nat.strongRecOn with
  | _ i ih =>
    intro o j ho hall hb
    have hm := masks_at l [] i o ho
    simp only [List.length_nil, Nat.zero_add] at hm
    rw [hm] at hb
    obtain ⟨e, he, hbd, h1 | h1⟩ := maskOf_bit _ _ _ hb
    · rw [← h1]; exact hall e he hbd
    · have hlt : e.on < i := by
        rcases Nat.lt_or_ge e.on i with h | h
        · exact h
        · rw [List.getD_eq_getElem?_getD, List.getElem?_eq_none (by simp; omega)] at h1
          simp at h1
      have hl : i < l.length := (List.getElem?_eq_some_iff.1 ho).1
      have h2 : ((masks l []).getD e.on 0).testBit j = true := by
        rw [List.getD_eq_getElem?_getD, List.getElem?_take, if_pos hlt] at h1
        rw [List.getD_eq_getElem?_getD]; exact h1
      exact ih e.on hlt l[e.on] j (List.getElem?_eq_getElem (by omega)) (hc e.on _ (List.getElem?_eq_getElem (by omega)) (hall e he hbd)) h2

/-! ### soundness -/
def doneOf (l : List Oper) (Fs : Nat → Fact) : Nat → Done
  | 0 => []
  | k + 1 => ((l[k]?).bind (·.dst), Fs k) :: doneOf l Fs k

def frm (l : List Oper) (a0 : Act) (vals : Nat → Value) : Nat → Act
  | 0 => a0
  | k + 1 => (frm l a0 vals k).put ((l[k]?).bind (·.dst)) (vals k)

theorem doneOf_congr {l : List Oper} {Fs Gs : Nat → Fact} : ∀ {k}, (∀ i < k, Fs i = Gs i) → doneOf l Fs k = doneOf l Gs k
  | 0, _ => rfl
  | k + 1, h => by simp only [doneOf, h k (by omega), doneOf_congr (k := k) (fun i hi => h i (by omega))]

theorem chain_out {P : Program} {ops : Array Oper} {a0 : Act} {w0 : World} {E : List Oper → Act → World → Prop} {l : List Oper} :
    ∀ (n k : Nat) (Fs0 : Nat → Fact), (∀ i < k, Stable (Fs0 i)) → (∀ i < k, ∀ o, l[i]? = some o → Oblig P ops a0 w0 (doneOf l Fs0 i) o (Fs0 i)) →
      Chain P ops a0 w0 E n (doneOf l Fs0 k) (l.drop k) →
      ∃ Fs : Nat → Fact, (∀ i < k + n, Stable (Fs i)) ∧ (∀ i < k + n, ∀ o, l[i]? = some o → Oblig P ops a0 w0 (doneOf l Fs i) o (Fs i)) ∧
        ∀ w, Below w0.heap.size w0 w → Ends (E (l.drop (k + n))) w (doneOf l Fs (k + n)).reverse a0 := by
  intro n
  induction n with
  | zero => intro k Fs0 h1 h2 h3; exact ⟨Fs0, h1, h2, h3⟩
  | succ n ih =>
    intro k Fs0 h1 h2 h3
    cases hd : l.drop k with
    | nil => rw [hd] at h3; exact h3.elim
    | cons o rest =>
      rw [hd] at h3
      obtain ⟨F, hF, hob, hch⟩ := h3
      have hk : l[k]? = some o := by
        have := congrArg (fun x => x[0]?) hd
        simpa using this
      have hrest : l.drop (k + 1) = rest := by
        rw [← List.drop_drop, hd]; rfl
      let Fs1 : Nat → Fact := fun i => if i = k then F else Fs0 i
      have e1 : ∀ m ≤ k, doneOf l Fs1 m = doneOf l Fs0 m := fun m hm => doneOf_congr fun i hi => by simp [Fs1, show i ≠ k by omega]
      have e2 : doneOf l Fs1 (k + 1) = (o.dst, F) :: doneOf l Fs0 k := by
        simp only [doneOf, e1 k (Nat.le_refl _), hk, Option.bind_some]
        simp [Fs1]
      obtain ⟨Fs, g1, g2, g3⟩ := ih (k + 1) Fs1
        (fun i hi => by by_cases h : i = k <;> simp [Fs1, h, hF]; exact h1 i (by omega))
        (fun i hi o' ho' => by
          by_cases h : i = k
          · subst h
            obtain rfl : o' = o := by rw [hk] at ho'; exact (Option.some.inj ho').symm
            rw [e1 i (Nat.le_refl _)]; simpa [Fs1] using hob
          · rw [e1 i (by omega)]; simpa [Fs1, h] using h2 i (by omega) o' ho')
        (by rw [e2, hrest]; exact hch)
      exact ⟨Fs, by simpa [show k + 1 + n = k + (n + 1) by omega] using g1, by simpa [show k + 1 + n = k + (n + 1) by omega] using g2, by simpa [show k + 1 + n = k + (n + 1) by omega] using g3⟩

theorem ends_app {w : World} : ∀ (d1 d2 : Done) {E : Act → World → Prop} (a : Act), Ends E w (d1 ++ d2) a → Ends (fun a _ => Ends E w d2 a) w d1 a
  | [], _, _, _, h => h
  | _ :: r, d2, _, _, h => fun v hv => ends_app r d2 _ (h v hv)
theorem ends_out {w : World} {l : List Oper} {Fs : Nat → Fact} {vals : Nat → Value} (a : Act) : ∀ (k : Nat) {E : Act → World → Prop},
    (∀ i < k, Fs i (vals i) w) → Ends E w (doneOf l Fs k).reverse a → E (frm l a vals k) w
  | 0, _, _, h => h
  | k + 1, E, hv, h => by
    simp only [doneOf, List.reverse_cons] at h
    exact ends_out a k (fun i hi => hv i (by omega)) (ends_app _ _ _ h) _ (hv k (by omega))

theorem put_size (a : Act) (d : Option Tmp) (v : Value) : (a.put d v).tmps.size = a.tmps.size := by cases d <;> simp [Act.put]
theorem put_defers' (a : Act) (d : Option Tmp) (v : Value) : (a.put d v).defers = a.defers := by cases d <;> rfl
theorem put_other (a : Act) (d : Option Tmp) (v : Value) (s : Tmp) (h : d ≠ some s) : (a.put d v).tmps.getD s undef = a.tmps.getD s undef := by
  cases d with
  | none => rfl
  | some d => simp [Act.put, Array.getElem?_setIfInBounds_ne (show d ≠ s from fun e => h (by rw [e]))]
theorem put_same (a b : Act) (s : Tmp) (v : Value) (h : a.tmps.size = b.tmps.size) : (a.put (some s) v).tmps.getD s undef = (b.put (some s) v).tmps.getD s undef := by
  simp only [Act.put, Array.getD_eq_getD_getElem?, Array.getElem?_setIfInBounds, h, if_true]
theorem frm_size (l : List Oper) (a0 : Act) (vals : Nat → Value) : ∀ k, (frm l a0 vals k).tmps.size = a0.tmps.size
  | 0 => rfl
  | k + 1 => by rw [frm, put_size, frm_size l a0 vals k]
theorem frm_defers (l : List Oper) (a0 : Act) (vals : Nat → Value) : ∀ k, (frm l a0 vals k).defers = a0.defers
  | 0 => rfl
  | k + 1 => by rw [frm, put_defers', frm_defers l a0 vals k]
theorem frm_congr {l : List Oper} {a0 : Act} {vals vals' : Nat → Value} : ∀ {k s}, (∀ i < k, (l[i]?).bind (·.dst) = some s → vals i = vals' i) → (frm l a0 vals k).tmps.getD s undef = (frm l a0 vals' k).tmps.getD s undef
  | 0, _, _ => rfl
  | k + 1, s, h => by
    simp only [frm]
    by_cases hd : (l[k]?).bind (·.dst) = some s
    · rw [hd, h k (by omega) hd]; exact put_same _ _ _ _ (by rw [frm_size, frm_size])
    · rw [put_other _ _ _ _ hd, put_other _ _ _ _ hd]; exact frm_congr fun i hi hs => h i (by omega) hs

theorem look_frm {l : List Oper} {Fs : Nat → Fact} {a0 : Act} {vals : Nat → Value} {w : World} : ∀ {k s}, ((∃ i, i < k ∧ (l[i]?).bind (·.dst) = some s) → s < a0.tmps.size) → (∀ i < k, (l[i]?).bind (·.dst) = some s → Fs i (vals i) w) →
    look a0 (doneOf l Fs k) s ((frm l a0 vals k).tmps.getD s undef) w
  | 0, _, _, _ => rfl
  | k + 1, s, hs, h => by
    simp only [doneOf, look, frm]
    by_cases hd : (l[k]?).bind (·.dst) = some s
    · rw [if_pos hd, hd]
      have : ((frm l a0 vals k).put (some s) (vals k)).tmps.getD s undef = vals k := by
        simp [Act.put, frm_size, hs ⟨k, by omega, hd⟩]
      rw [this]; exact h k (by omega) hd
    · rw [if_neg hd, put_other _ _ _ _ hd]; exact look_frm (fun ⟨i, hi, h'⟩ => hs ⟨i, by omega, h'⟩) fun i hi h' => h i (by omega) h'

structure Inv (l : List Oper) (n : Nat) (Fs : Nat → Fact) (a0 : Act) (w0 : World) (listed : Array Bool) (vals : Nat → Value) (a : Act) (w : World) : Prop where
  size : listed.size = l.length
  closed : Closed l listed
  head : ∀ i, listed.getD i false = true → i < n
  below : Below w0.heap.size w0 w
  dfs : a.defers = a0.defers
  tsize : a.tmps.size = a0.tmps.size
  facts : ∀ i, listed.getD i false = true → Fs i (vals i) w
  slot : ∀ s k, (∀ i, (l[i]?).bind (·.dst) = some s → (listed.getD i false = true ↔ i < k)) → a.tmps.getD s undef = (frm l a0 vals k).tmps.getD s undef

theorem okB_spec {l : List Oper} (h : okB l = true) {i j : Nat} {x y : Oper} (hij : i < j) (hx : l[i]? = some x) (hy : l[j]? = some y) :
    ((masks l []).getD j 0).testBit i = true ∨ x.apart l.toArray y = true := by
  have hj : j < l.length := (List.getElem?_eq_some_iff.1 hy).1
  have h1 := List.all_eq_true.1 (List.all_eq_true.1 h j (List.mem_range.2 hj)) i (List.mem_range.2 hij)
  simp only [hx, hy, Bool.or_eq_true] at h1
  exact h1

theorem edgesB_spec {l : List Oper} (h : edgesB l = true) {i : Nat} {o : Oper} (ho : l[i]? = some o) : ∀ e ∈ o.after, Region.binds .any e = true → e.on < i := by
  intro e he hb
  have h1 := List.all_eq_true.1 h i (List.mem_range.2 (List.getElem?_eq_some_iff.1 ho).1)
  simp only [ho] at h1
  have h2 := Array.all_eq_true_iff_forall_mem.1 h1 e he
  simpa [hb] using h2

theorem tailB_spec {l : List Oper} {n : Nat} (h : tailB l n = true) {t : Nat} (ht : t < l.length) (hn : n ≤ t) {j : Nat} (hj : j < t) : ((masks l []).getD t 0).testBit j = true := by
  have h1 := List.all_eq_true.1 h t (List.mem_range.2 ht)
  simp only [Bool.or_eq_true, decide_eq_true_eq] at h1
  rcases h1 with h1 | h1
  · omega
  · exact List.all_eq_true.1 h1 j (List.mem_range.2 hj)

def unl (listed : Array Bool) : Nat → Nat
  | 0 => 0
  | k + 1 => unl listed k + (if listed.getD k false = true then 0 else 1)

theorem unl_set_le (listed : Array Bool) (i : Nat) : ∀ k, unl (listed.setIfInBounds i true) k ≤ unl listed k
  | 0 => Nat.le_refl _
  | k + 1 => by
    have := unl_set_le listed i k
    simp only [unl]
    by_cases h : listed.getD k false = true
    · rw [if_pos h, if_pos (getD_set_true h)]; omega
    · rw [if_neg h]; split <;> omega
theorem unl_set_lt (listed : Array Bool) (i : Nat) (hs : i < listed.size) (hi : listed.getD i true = false) : ∀ k, i < k → unl (listed.setIfInBounds i true) k + 1 ≤ unl listed k
  | 0, h => by omega
  | k + 1, h => by
    simp only [unl]
    by_cases hik : i = k
    · subst hik
      have h1 : listed.getD i false = false := by simp [hs] at hi ⊢; exact hi
      have h2 : (listed.setIfInBounds i true).getD i false = true := by simp [hs]
      have := unl_set_le listed i i
      rw [if_pos h2, if_neg (by simp [h1])]; omega
    · have := unl_set_lt listed i hs hi k (by omega)
      rw [getD_set_ne false hik]; omega
theorem unl_zero (listed : Array Bool) : ∀ k, unl listed k = 0 → ∀ i < k, listed.getD i false = true
  | 0, _, i, h => by omega
  | k + 1, h, i, hi => by
    simp only [unl] at h
    by_cases hk : listed.getD k false = true
    · rcases Nat.lt_or_ge i k with h1 | h1
      · exact unl_zero listed k (by omega) i h1
      · rw [show i = k by omega]; exact hk
    · rw [if_neg hk] at h; omega

theorem unlisted_true {listed : Array Bool} {i : Nat} (hs : i < listed.size) (h : ¬ listed.getD i false = true) : listed.getD i true = false := by
  simp [hs] at h ⊢; exact h

/-- the least op that has not come up may come up -/
theorem ready_least {l : List Oper} {listed : Array Bool} (he : edgesB l = true) (hsz : listed.size = l.length) {i : Nat} (hi : i < l.length) (hun : ¬ listed.getD i false = true)
    (hall : ∀ j < i, listed.getD j false = true) : i ∈ Region.ready .any l.toArray listed := by
  rw [mem_ready]
  refine ⟨unlisted_true (by omega) hun, l[i], by simp [hi], fun e hee hb => ?_⟩
  exact hall _ (edgesB_spec he (List.getElem?_eq_getElem hi) e hee hb)

theorem least_unlisted (listed : Array Bool) : ∀ n, (∃ i, i < n ∧ ¬ listed.getD i false = true) → ∃ i, i < n ∧ ¬ listed.getD i false = true ∧ ∀ j < i, listed.getD j false = true := by
  intro n ⟨i, hi, h⟩
  induction i using Nat.strongRecOn with
  | _ i ih =>
    by_cases h2 : ∃ j, j < i ∧ ¬ listed.getD j false = true
    · obtain ⟨j, hj, h3⟩ := h2
      exact ih j hj (by omega) h3
    · refine ⟨i, hi, h, fun j hj => ?_⟩
      by_cases h3 : listed.getD j false = true
      · exact h3
      · exact absurd ⟨j, hj, h3⟩ h2

section
variable {P : Program} {Q : Exit → Act → World → Prop}

/-- the abstract shape of 'wpAny', over whatever word for one operation -/
def AnyG (op : Nat → (Act → World → Prop) → Act → World → Prop) (ops : Array Oper) (N : Act → World → Prop) : Nat → Array Bool → Act → World → Prop
  | 0, listed, a, w => Region.ready .any ops listed = [] ∧ N a w
  | fuel + 1, listed, a, w => (Region.ready .any ops listed = [] → N a w) ∧ ∀ i ∈ Region.ready .any ops listed, op i (AnyG op ops N fuel (listed.setIfInBounds i true)) a w

theorem anyG_plain {ops : Array Oper} : ∀ (fuel : Nat) (listed : Array Bool), AnyG (fun i K => wpOp P ops Q i K) ops (Q .normal) fuel listed = wpAny P .any ops Q fuel listed
  | 0, _ => rfl
  | fuel + 1, listed => by funext a w; simp only [AnyG, wpAny, anyG_plain fuel]

/-- sequence, behind the head -/
def seqG (op : Nat → (Act → World → Prop) → Act → World → Prop) (N : Act → World → Prop) : Nat → Nat → Act → World → Prop
  | 0, _ => N
  | f + 1, k => op k (seqG op N f (k + 1))

theorem tail_any {op : Nat → (Act → World → Prop) → Act → World → Prop} {l : List Oper} {N : Act → World → Prop} {n : Nat} (ht : tailB l n = true) (he : edgesB l = true)
    (hmono : ∀ i (K K' : Act → World → Prop) a w, (∀ a w, K a w → K' a w) → op i K a w → op i K' a w) :
    ∀ (f k fuel : Nat) (listed : Array Bool) (a : Act) (w : World), n ≤ k → k + f = l.length → f ≤ fuel → listed.size = l.length → Closed l listed → (∀ i, listed.getD i false = true ↔ i < k) →
      seqG op N f k a w → AnyG op l.toArray N fuel listed a w := by
  intro f
  induction f with
  | zero =>
    intro k fuel listed a w hn hk hf hsz hcl hl hN
    have hr : Region.ready .any l.toArray listed = [] := by
      apply List.eq_nil_iff_forall_not_mem.2
      intro i hi
      obtain ⟨h1, o, ho, _⟩ := mem_ready.1 hi
      have hlt : i < l.length := by have := (Array.getElem?_eq_some_iff.1 ho).1; simpa using this
      have h2 := (hl i).2 (by omega)
      rw [getD_both h1] at h2; cases h2
    cases fuel with
    | zero => exact ⟨hr, hN⟩
    | succ fuel => exact ⟨fun _ => hN, fun i hi => by rw [hr] at hi; cases hi⟩
  | succ f ih =>
    intro k fuel listed a w hn hk hf hsz hcl hl hN
    have hkl : k < l.length := by omega
    have hready : ∀ i, i ∈ Region.ready .any l.toArray listed ↔ i = k := by
      intro i
      constructor
      · intro hi
        obtain ⟨h1, o, ho, hall⟩ := mem_ready.1 hi
        have hlt : i < l.length := by have := (Array.getElem?_eq_some_iff.1 ho).1; simpa using this
        rcases Nat.lt_trichotomy i k with h | h | h
        · have h2 := (hl i).2 h; rw [getD_both h1] at h2; cases h2
        · exact h
        · have hb := tailB_spec ht hlt (by omega) h
          have := anc_listed hcl i o k (by simpa using ho) hall hb
          have := (hl k).1 this
          omega
      · rintro rfl
        exact ready_least he hsz hkl (fun h => by have := (hl i).1 h; omega) (fun j hj => (hl j).2 hj)
    cases fuel with
    | zero => omega
    | succ fuel =>
      refine ⟨fun h => (by have := (hready k).2 rfl; rw [h] at this; cases this), fun i hi => ?_⟩
      obtain rfl := (hready i).1 hi
      refine hmono i _ _ a w (fun a' w' h => ?_) hN
      refine ih (i + 1) fuel _ a' w' (by omega) (by omega) (by omega) (by simp [hsz]) ?_ ?_ h
      · intro j o ho hlj e hee hb
        by_cases hji : j = i
        · subst hji
          have := edgesB_spec he ho e hee hb
          rw [getD_set_ne false (by omega)]; exact (hl _).2 this
        · rw [getD_set_ne false (Ne.symm hji)] at hlj
          exact getD_set_true (hcl j o ho hlj e hee hb)
      · intro j
        by_cases hji : j = i
        · subst hji; simp [hsz, hkl]
        · rw [getD_set_ne false (Ne.symm hji), hl j]; omega

theorem head_any {op : Nat → (Act → World → Prop) → Act → World → Prop} {l : List Oper} {N : Act → World → Prop} {n : Nat} {a0 : Act} {w0 : World} {Fs : Nat → Fact}
    (hc : checkB l n a0.tmps.size = true)
    (hmono : ∀ i (K K' : Act → World → Prop) a w, (∀ a w, K a w → K' a w) → op i K a w → op i K' a w)
    (hst : ∀ i < n, Stable (Fs i))
    (hop : ∀ i o a w K, i < n → l[i]? = some o → Below w0.heap.size w0 w → (∀ s ∈ o.looksAt l.toArray, look a0 (doneOf l Fs i) s (a.tmps.getD s undef) w) →
      (∀ v w', Below w.heap.size w w' → Fs i v w' → K (a.put o.dst v) w') → op i K a w)
    (hend : ∀ vals w, Below w0.heap.size w0 w → (∀ i < n, Fs i (vals i) w) → seqG op N (l.length - n) n (frm l a0 vals n) w) :
    ∀ (fuel : Nat) (listed : Array Bool) (vals : Nat → Value) (a : Act) (w : World), unl listed l.length ≤ fuel → Inv l n Fs a0 w0 listed vals a w → AnyG op l.toArray N fuel listed a w := by
  simp only [checkB, Bool.and_eq_true, decide_eq_true_eq] at hc
  obtain ⟨⟨⟨⟨⟨hdst, hns⟩, hok⟩, hed⟩, htl⟩, hnl⟩ := hc
  -- all of the head has come up
  have full : ∀ (fuel : Nat) (listed : Array Bool) (vals : Nat → Value) (a : Act) (w : World), unl listed l.length ≤ fuel → Inv l n Fs a0 w0 listed vals a w → (∀ i < n, listed.getD i false = true) → AnyG op l.toArray N fuel listed a w := by
    intro fuel listed vals a w hf inv hall
    have hiff : ∀ i, listed.getD i false = true ↔ i < n := fun i => ⟨inv.head i, hall i⟩
    have ha : a = frm l a0 vals n := by
      have h1 : a.tmps = (frm l a0 vals n).tmps := by
        apply Array.ext_getElem?
        intro s
        have hs := inv.slot s n (fun i _ => hiff i)
        have hz : a.tmps.size = (frm l a0 vals n).tmps.size := by rw [frm_size, inv.tsize]
        rcases Nat.lt_or_ge s a.tmps.size with h | h
        · have h' : s < (frm l a0 vals n).tmps.size := by omega
          simp only [Array.getD_eq_getD_getElem?, Array.getElem?_eq_getElem h, Array.getElem?_eq_getElem h', Option.getD_some] at hs
          rw [Array.getElem?_eq_getElem h, Array.getElem?_eq_getElem h', hs]
        · rw [Array.getElem?_eq_none h, Array.getElem?_eq_none (by omega)]
      have h2 : a.defers = (frm l a0 vals n).defers := by rw [frm_defers, inv.dfs]
      cases a; cases hfr : frm l a0 vals n
      rw [hfr] at h1 h2
      simp only at h1 h2
      rw [h1, h2]
    have hcount : ∀ m, n + m ≤ l.length → m ≤ unl listed (n + m) := by
      intro m
      induction m with
      | zero => intro _; omega
      | succ m ih =>
        intro h
        have := ih (by omega)
        rw [show n + (m + 1) = (n + m) + 1 by omega, unl, if_neg (fun h2 => by have := (hiff _).1 h2; omega)]
        omega
    have := hcount (l.length - n) (by omega)
    rw [show n + (l.length - n) = l.length by omega] at this
    rw [ha]
    exact tail_any htl hed hmono (l.length - n) n fuel listed _ w (Nat.le_refl _) (by omega) (by omega) inv.size inv.closed hiff (hend vals w inv.below (fun i hi => inv.facts i (hall i hi)))
  intro fuel
  induction fuel with
  | zero =>
    intro listed vals a w hf inv
    have hall := unl_zero listed l.length (by omega)
    exact full 0 listed vals a w hf inv (fun i hi => hall i (by omega))
  | succ fuel ih =>
    intro listed vals a w hf inv
    by_cases hall : ∀ i < n, listed.getD i false = true
    · exact full _ listed vals a w hf inv hall
    · obtain ⟨i0, hi0, hun0, hbelow0⟩ := least_unlisted listed n (by
        apply Classical.byContradiction
        intro h
        exact hall fun i hi => Classical.byContradiction fun h2 => h ⟨i, ⟨hi, h2⟩⟩)
      have hr0 := ready_least hed inv.size (show i0 < l.length by omega) hun0 hbelow0
      refine ⟨fun h => (by rw [h] at hr0; cases hr0), fun i hi => ?_⟩
      obtain ⟨hiun, o, ho', hall'⟩ := mem_ready.1 hi
      have ho : l[i]? = some o := by simpa using ho'
      have hil : i < l.length := (List.getElem?_eq_some_iff.1 ho).1
      have hun : ¬ listed.getD i false = true := by rw [getD_both hiun]; simp
      have hin : i < n := by
        rcases Nat.lt_or_ge i n with h | h
        · exact h
        · exact absurd (anc_listed inv.closed i o i0 ho hall' (tailB_spec htl hil h (by omega))) hun0
      -- whoever is not apart and stands ahead has come up; whoever stands behind has not
      have hahead : ∀ j x, j < i → l[j]? = some x → x.apart l.toArray o = false → listed.getD j false = true := fun j x hj hx hap => by
        rcases okB_spec hok hj hx ho with h | h
        · exact anc_listed inv.closed i o j ho hall' h
        · rw [hap] at h; cases h
      have hbehind : ∀ j x, i < j → l[j]? = some x → o.apart l.toArray x = false → ¬ listed.getD j false = true := fun j x hj hx hap hl => by
        rcases okB_spec hok hj ho hx with h | h
        · exact hun (anc_listed inv.closed j x i hx (inv.closed j x hx hl) h)
        · rw [hap] at h; cases h
      refine hop i o a w _ hin ho inv.below ?_ ?_
      · intro s hs
        have hcut : ∀ j, (l[j]?).bind (·.dst) = some s → (listed.getD j false = true ↔ j < i) := by
          intro j hj
          cases hx : l[j]? with
          | none => simp [hx] at hj
          | some x =>
            simp [hx] at hj
            constructor
            · intro hl
              rcases Nat.lt_trichotomy j i with h | h | h
              · exact h
              · subst h; exact absurd hl hun
              · refine absurd hl (hbehind j x h hx ?_)
                cases hap : o.apart l.toArray x with
                | false => rfl
                | true => exact absurd hs ((Oper.apart_spec hap).2.2 s hj)
            · intro h
              refine hahead j x h hx ?_
              cases hap : x.apart l.toArray o with
              | false => rfl
              | true => exact absurd hs ((Oper.apart_spec hap).1 s hj)
        rw [inv.slot s i hcut]
        exact look_frm (fun ⟨j, _, hj⟩ => dstB_spec hdst hj) fun j hj hd => inv.facts j ((hcut j hd).2 hj)
      · intro v w' hb hF
        let vals' : Nat → Value := fun j => if j = i then v else vals j
        refine ih _ vals' _ w' ?_ ?_
        · have := unl_set_lt listed i (by rw [inv.size]; exact hil) hiun l.length hil
          omega
        · have hset : ∀ j, (listed.setIfInBounds i true).getD j false = true ↔ j = i ∨ listed.getD j false = true := by
            intro j
            by_cases hji : j = i
            · subst hji; simp [inv.size, hil]
            · rw [getD_set_ne false (Ne.symm hji)]; simp [hji]
          refine ⟨by simp [inv.size], ?_, ?_, inv.below.trans ⟨hb.os, hb.tape, hb.output, hb.size, fun k hk => hb.block k (Nat.lt_of_lt_of_le hk inv.below.size)⟩, by rw [put_defers', inv.dfs], by rw [put_size, inv.tsize], ?_, ?_⟩
          · intro j x hx hl e he hbd
            rcases (hset j).1 hl with rfl | hl
            · obtain rfl : x = o := by rw [ho] at hx; exact (Option.some.inj hx).symm
              exact getD_set_true (hall' e he hbd)
            · exact getD_set_true (inv.closed j x hx hl e he hbd)
          · intro j hl
            rcases (hset j).1 hl with rfl | hl
            · exact hin
            · exact inv.head j hl
          · intro j hl
            by_cases hji : j = i
            · subst hji; simp [vals', hF]
            · simp only [vals', if_neg hji]
              have hl' := ((hset j).1 hl).resolve_left hji
              exact hst j (inv.head j hl') _ _ _ (inv.facts j hl') hb
          · intro s k hcut
            by_cases hs : o.dst = some s
            · -- i is the last writer of s ahead of k
              have hd : (l[i]?).bind (·.dst) = some s := by simp [ho, hs]
              have hik : i < k := (hcut i hd).1 ((hset i).2 (.inl rfl))
              have hlast : ∀ j, i < j → j < k → (l[j]?).bind (·.dst) ≠ some s := by
                intro j hj hjk hdj
                cases hx : l[j]? with
                | none => simp [hx] at hdj
                | some x =>
                  simp [hx] at hdj
                  have h1 := (hset j).1 ((hcut j (by simp [hx, hdj])).2 hjk)
                  rcases h1 with h1 | h1
                  · omega
                  · refine hbehind j x hj hx ?_ h1
                    cases hap : o.apart l.toArray x with
                    | false => rfl
                    | true => exact absurd hdj ((Oper.apart_spec hap).2.1 s hs)
              have hfr : ∀ m, i < m → m ≤ k → (frm l a0 vals' m).tmps.getD s undef = ((frm l a0 vals' i).put (some s) v).tmps.getD s undef := by
                intro m
                induction m with
                | zero => intro h; omega
                | succ m ihm =>
                  intro h1 h2
                  by_cases hmi : m = i
                  · subst hmi; simp only [frm, hd]; simp [vals']
                  · simp only [frm]
                    rw [put_other _ _ _ _ (hlast m (by omega) (by omega))]
                    exact ihm (by omega) (by omega)
              rw [hfr k hik (Nat.le_refl _), hs]
              exact put_same _ _ _ _ (by rw [frm_size, inv.tsize])
            · rw [put_other _ _ _ _ hs]
              have hne : (l[i]?).bind (·.dst) ≠ some s := by simp [ho, hs]
              rw [inv.slot s k (fun j hj => by
                have h1 := hcut j hj
                rw [hset j] at h1
                have hji : j ≠ i := fun e => hne (e ▸ hj)
                simpa [hji] using h1)]
              exact frm_congr fun j _ hj => by
                have hji : j ≠ i := fun e => hne (e ▸ hj)
                simp [vals', hji]
theorem wpOp_of_oblig {l : List Oper} {a0 : Act} {w0 : World} {done : Done} {F : Fact} {i : Nat} {o : Oper} {a : Act} {w : World} {K : Act → World → Prop} (ho : l[i]? = some o)
    (hob : Oblig P l.toArray a0 w0 done o F) (hb : Below w0.heap.size w0 w) (hs : ∀ s ∈ o.looksAt l.toArray, look a0 done s (a.tmps.getD s undef) w)
    (hK : ∀ v w', Below w.heap.size w w' → F v w' → K (a.put o.dst v) w') : wpOp P l.toArray Q i K a w := by
  have h := hob a.eval w (Env.of_act a) hb hs
  unfold wpOp
  simp only [List.getElem?_toArray, ho]
  rw [yielded_eq]
  split
  · rename_i hw
    rw [if_pos hw] at h
    refine .inl ?_
    unfold Oper.wp
    generalize (execOp a.eval o).run P w = r at h
    cases r with
    | ok x w' =>
      cases x <;> simp only [upon] at h <;> simp only [Oper.upon]
      case value v => exact hK _ _ h.1 h.2
      case skip => exact hK _ _ h.1 h.2
      case enter f args =>
        obtain ⟨h1, h2⟩ := h
        refine h2.mono ?_
        rintro e w'' ⟨v, rfl, h3, h4⟩
        exact hK _ _ (h1.trans ⟨h3.os, h3.tape, h3.output, h3.size, fun k hk => h3.block k (Nat.lt_of_lt_of_le hk h1.size)⟩) h4
    | halt x w' => simp only [upon] at h
  · rename_i hw
    rw [if_neg hw] at h
    exact hK _ _ (Below.refl _ _) h

theorem seq_wpList {l : List Oper} : ∀ (f k : Nat), k + f = l.length → seqG (fun i K => wpOp P l.toArray Q i K) (Q .normal) f k = wpList P l.toArray Q (l.drop k)
  | 0, k, h => by rw [List.drop_of_length_le (by omega)]; rfl
  | f + 1, k, h => by
    have hk : k < l.length := by omega
    rw [List.drop_eq_getElem_cons hk]
    funext a w
    simp only [seqG, wpList, wpOp, List.getElem?_toArray, List.getElem?_eq_getElem hk, seq_wpList (l := l) f (k + 1) (by omega)]

/-- **A REGION THAT DRAWS ITS ORDER, WALKED ONCE.** -/
theorem wp_region_free {id : Nat} {l : List Oper} {a0 : Act} {w0 : World} (n : Nat) (hm : P.follows .mixedOrders = true) (hc : checkB l n a0.tmps.size = true)
    (h : Chain P l.toArray a0 w0 (fun rest a w => wpList P l.toArray Q rest a w) n [] l) : (Code.region id l.toArray true).wp P Q a0 w0 := by
  obtain ⟨Fs, h1, h2, h3⟩ := chain_out (l := l) n 0 (fun _ _ _ => False) (fun i hi => by omega) (fun i hi => by omega) h
  have hn : n ≤ l.length := by
    simp only [checkB, Bool.and_eq_true, decide_eq_true_eq] at hc
    exact hc.2
  simp only [Nat.zero_add] at h1 h2 h3
  refine wp_region_any hm ?_
  have e : wpAny P .any l.toArray Q l.toArray.size (Array.replicate l.toArray.size false) a0 { w0 with drawn := w0.drawn + 1 } =
      AnyG (fun i K => wpOp P l.toArray Q i K) l.toArray (Q .normal) l.toArray.size (Array.replicate l.toArray.size false) a0 { w0 with drawn := w0.drawn + 1 } := by rw [anyG_plain]
  rw [e]
  have hrep : ∀ j, (Array.replicate l.toArray.size false).getD j false = false := fun j => by
    rcases Nat.lt_or_ge j l.length with h | h
    · simp [h]
    · simp [h]
  refine head_any (op := fun i K => wpOp P l.toArray Q i K) (N := Q .normal) (l := l) (Fs := Fs) (vals := fun _ => undef) hc (fun i K K' a w h => wpOp_mono h) h1 (fun i o a w K hi ho hb hs hK => wpOp_of_oblig (a := a) (w := w) (K := K) ho (h2 i hi o ho) hb hs hK) ?_ _ _ _ _ ?_ ?_
  · intro vals w hb hv
    rw [seq_wpList _ _ (by omega)]
    exact ends_out a0 n hv (h3 w hb)
  · have : ∀ k, unl (Array.replicate l.toArray.size false) k ≤ k := by
      intro k
      induction k with
      | zero => exact Nat.le_refl _
      | succ k ih => simp only [unl]; split <;> omega
    simpa using this l.length
  · refine ⟨by simp, fun i o _ hl => (by rw [hrep] at hl; cases hl), fun i hl => (by rw [hrep] at hl; cases hl), ⟨rfl, rfl, rfl, Nat.le_refl _, fun _ _ => rfl⟩, rfl, rfl, fun i hl => (by rw [hrep] at hl; cases hl), ?_⟩
    intro s k hcut
    have : ∀ j < k, (l[j]?).bind (·.dst) ≠ some s := fun j hj hd => by
      have := (hcut j hd).2 hj
      rw [hrep] at this; cases this
    have key : ∀ m ≤ k, (frm l a0 (fun _ => undef) m).tmps.getD s undef = a0.tmps.getD s undef := by
      intro m
      induction m with
      | zero => intro _; rfl
      | succ m ih => intro hm; simp only [frm]; rw [put_other _ _ _ _ (this m (by omega))]; exact ih (by omega)
    rw [key k (Nat.le_refl _)]

theorem chain_val {ops : Array Oper} {a0 : Act} {w0 : World} {E : List Oper → Act → World → Prop} {n : Nat} {done : Done} {o : Oper} {rest : List Oper} {S : List Tmp} (c : Value)
    (hS : o.looksAt ops = S)
    (h : ∀ ρ w, Env ρ → Below w0.heap.size w0 w → (∀ s ∈ S, look a0 done s (ρ (.tmp s)) w) → if Region.wanted o (yieldedR ops ρ) then (execOp ρ o).run P w = .ok (.value c) w else undef = c)
    (hr : Chain P ops a0 w0 E n ((o.dst, fun v _ => v = c) :: done) rest) : Chain P ops a0 w0 E (n + 1) done (o :: rest) := by
  refine ⟨_, stable_eq c, fun ρ w hE hB hs => ?_, hr⟩
  have h' := h ρ w hE hB (by rw [← hS]; exact hs)
  split
  · rename_i hw
    rw [if_pos hw] at h'
    rw [h']
    exact ⟨Below.refl _ _, rfl⟩
  · rename_i hw
    rw [if_neg hw] at h'
    exact h'

theorem chain_call {ops : Array Oper} {a0 : Act} {w0 : World} {E : List Oper → Act → World → Prop} {n : Nat} {done : Done} {o : Oper} {rest : List Oper} {S : List Tmp} (F : Fact) (hst : Stable F)
    (hS : o.looksAt ops = S)
    (h : ∀ ρ w, Env ρ → Below w0.heap.size w0 w → (∀ s ∈ S, look a0 done s (ρ (.tmp s)) w) → Region.wanted o (yieldedR ops ρ) = true ∧
      ∃ f args, (execOp ρ o).run P w = .ok (.enter f args) w ∧ Calls P f args w fun e w' => ∃ v, e = .returned v ∧ Below w.heap.size w w' ∧ F v w')
    (hr : Chain P ops a0 w0 E n ((o.dst, F) :: done) rest) : Chain P ops a0 w0 E (n + 1) done (o :: rest) := by
  refine ⟨F, hst, fun ρ w hE hB hs => ?_, hr⟩
  obtain ⟨hw, f, args, hrun, hc⟩ := h ρ w hE hB (by rw [← hS]; exact hs)
  rw [if_pos hw, hrun]
  exact ⟨Below.refl _ _, hc⟩

/-- a call of a named function -/
theorem chain_static {ops : Array Oper} {a0 : Act} {w0 : World} {E : List Oper → Act → World → Prop} {n : Nat} {done : Done} {o : Oper} {rest : List Oper} {S : List Tmp} (F : Fact) (hst : Stable F)
    {f : FuncId} {ags : Array Operand} {ats : Array TypeId} (ho : o.op = .call { callee := .value (.func f), args := ags, argTypes := ats }) (ef : ∀ args w, (callFunc f args).run P w = .ok (.enter f args) w)
    (hS : o.looksAt ops = S)
    (h : ∀ ρ w, Env ρ → Below w0.heap.size w0 w → (∀ s ∈ S, look a0 done s (ρ (.tmp s)) w) → Region.wanted o (yieldedR ops ρ) = true ∧
      Calls P f (ags.map ρ) w fun e w' => ∃ v, e = .returned v ∧ Below w.heap.size w w' ∧ F v w')
    (hr : Chain P ops a0 w0 E n ((o.dst, F) :: done) rest) : Chain P ops a0 w0 E (n + 1) done (o :: rest) := by
  refine chain_call F hst hS (fun ρ w hE hB hs => ?_) hr
  obtain ⟨hw, hc⟩ := h ρ w hE hB hs
  refine ⟨hw, f, ags.map ρ, ?_, hc⟩
  unfold execOp
  rw [ho]
  simp only [resolve, hE.func, Deferred.ofValue, Sem.run_bind, Sem.run_pure, Result.andThen_ok]
  have := ef (ags.map ρ) w
  simp only [invoke, Array.empty_append, Array.append_empty] at *
  exact this

/-- an operation that yields a value of which a fact is known -/
theorem chain_fact {ops : Array Oper} {a0 : Act} {w0 : World} {E : List Oper → Act → World → Prop} {n : Nat} {done : Done} {o : Oper} {rest : List Oper} {S : List Tmp} (F : Fact) (hst : Stable F)
    (hS : o.looksAt ops = S)
    (h : ∀ ρ w, Env ρ → Below w0.heap.size w0 w → (∀ s ∈ S, look a0 done s (ρ (.tmp s)) w) → if Region.wanted o (yieldedR ops ρ) then ∃ v, (execOp ρ o).run P w = .ok (.value v) w ∧ F v w else F undef w)
    (hr : Chain P ops a0 w0 E n ((o.dst, F) :: done) rest) : Chain P ops a0 w0 E (n + 1) done (o :: rest) := by
  refine ⟨F, hst, fun ρ w hE hB hs => ?_, hr⟩
  have h' := h ρ w hE hB (by rw [← hS]; exact hs)
  split
  · rename_i hw
    rw [if_pos hw] at h'
    obtain ⟨v, hv, hF⟩ := h'
    rw [hv]
    exact ⟨Below.refl _ _, hF⟩
  · rename_i hw
    rw [if_neg hw] at h'
    exact h'
/-- an operation that makes memory -/
theorem chain_make {ops : Array Oper} {a0 : Act} {w0 : World} {E : List Oper → Act → World → Prop} {n : Nat} {done : Done} {o : Oper} {rest : List Oper} {S : List Tmp} (F : Fact) (hst : Stable F)
    (hS : o.looksAt ops = S)
    (h : ∀ ρ w, Env ρ → Below w0.heap.size w0 w → (∀ s ∈ S, look a0 done s (ρ (.tmp s)) w) → Region.wanted o (yieldedR ops ρ) = true ∧ ∃ v w', (execOp ρ o).run P w = .ok (.value v) w' ∧ Below w.heap.size w w' ∧ F v w')
    (hr : Chain P ops a0 w0 E n ((o.dst, F) :: done) rest) : Chain P ops a0 w0 E (n + 1) done (o :: rest) := by
  refine ⟨F, hst, fun ρ w hE hB hs => ?_, hr⟩
  obtain ⟨hw, v, w', hrun, h1, h2⟩ := h ρ w hE hB (by rw [← hS]; exact hs)
  rw [if_pos hw, hrun]
  exact ⟨h1, h2⟩
end
end Go.Free
