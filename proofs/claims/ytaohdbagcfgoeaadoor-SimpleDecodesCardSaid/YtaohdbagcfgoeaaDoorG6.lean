/-
  Facts for regions that draw their order: slices that read as numbers, rows of the call's own; append onto an empty literal.
  A region that draws its order and holds ONE operation (sp) that writes into memory the region itself has made (an append onto a row that an earlier operation made): walked once, in text order. What is known of the operations that only sp looks at ('soft') is given up behind it.
-/
import Derived.Test.YtaohdbagcfgoeaaDoorG2
import Derived.Test.YtaohdbagcfgoeaaDoorG5
namespace Go.Free
open Go Go.RowKit Go.Cor

def RdF (k : IntKind) (xs : List Int) : Fact := fun v w => ∃ A n c, v = .slice A n c ∧ Rd w k A n c xs
theorem RdF.stable (k : IntKind) (xs : List Int) : Stable (RdF k xs) := fun _ _ _ ⟨A, n, c, h1, h2⟩ hb => ⟨A, n, c, h1, h2.below hb⟩
def OwF (B : Nat) (E : TypeId) (k : IntKind) (xs : List Int) : Fact := fun v w => ∃ A n c, v = .slice A n c ∧ Owns w B E k A n c xs
theorem OwF.stable (B : Nat) (E : TypeId) (k : IntKind) (xs : List Int) : Stable (OwF B E k xs) := fun _ _ _ ⟨A, n, c, h1, h2⟩ hb =>
  ⟨A, n, c, h1, owns_keep (S := fun _ _ => True) h2 (.of_below hb) (fun _ _ _ => trivial)⟩
def LitF (B : Nat) (E : TypeId) : Fact := fun v w => ∃ g, v = .slice (some ⟨g, 0, none⟩) 0 0 ∧ B ≤ g ∧ w.heap[g]? = some (.cells #[] E (0, 0))
theorem LitF.stable (B : Nat) (E : TypeId) : Stable (LitF B E) := fun _ _ _ ⟨g, h1, h2, h3⟩ hb => ⟨g, h1, h2, (hb.block g (Array.getElem?_eq_some_iff.1 h3).1).trans h3⟩

theorem chain_append0 {P : Program} {ops : Array Oper} {a0 : Act} {w0 : World} {E : List Oper → Act → World → Prop} {n : Nat} {done : Done} {o : Oper} {rest : List Oper} {S : List Tmp} {base : Nat} {e t : TypeId} {k : IntKind} {xs : List Int} {z : Value} {bytes : Nat} {s x : Tmp}
    (ht : ElemT P t e z 1 bytes) (ho : o.op = .call { callee := .builtin .append, args := #[.tmp s, .tmp x], argTypes := #[t, t] }) (hS : o.looksAt ops = S) (hbase : base ≤ w0.heap.size)
    (h : ∀ ρ w, Env ρ → Below w0.heap.size w0 w → (∀ s ∈ S, look a0 done s (ρ (.tmp s)) w) → Region.wanted o (yieldedR ops ρ) = true ∧ LitF base e (ρ (.tmp s)) w ∧ RdF k xs (ρ (.tmp x)) w)
    (hbytes : xs.length * bytes ≤ 140737488355328) (h63 : xs.length ≤ 9223372036854775807)
    (hr : Chain P ops a0 w0 E n ((o.dst, OwF base e k xs) :: done) rest) : Chain P ops a0 w0 E (n + 1) done (o :: rest) := by
  refine chain_make (OwF base e k xs) (OwF.stable _ _ _ _) hS (fun ρ w hE hB hs => ?_) hr
  obtain ⟨hw, ⟨g, e1, h1, h2⟩, A, m, c, e2, h3⟩ := h ρ w hE hB hs
  obtain rfl := h3.len
  obtain ⟨A', c', w', hrun, hown, hbel⟩ := run_append_cap0 (P := P) ht o.type h1 h2 h3.toV hbytes h63 (Nat.le_trans hbase hB.size)
  refine ⟨hw, _, w', ?_, hbel, A', _, c', rfl, hown⟩
  unfold execOp
  simp only [ho, resolve, invoke, builtin, Sem.run_bind, Sem.run_pure, Result.andThen_ok, List.map_toArray, List.map_cons, List.map_nil, e1, e2, hrun]
end Go.Free

namespace Go.Free
open Go Go.RowKit

structure InvS (l : List Oper) (n : Nat) (sp : Nat) (soft : Nat → Bool) (Fs : Nat → Fact) (a0 : Act) (w0 : World) (listed : Array Bool) (vals : Nat → Value) (a : Act) (w : World) : Prop where
  size : listed.size = l.length
  closed : Closed l listed
  head : ∀ i, listed.getD i false = true → i < n
  below : Below w0.heap.size w0 w
  dfs : a.defers = a0.defers
  tsize : a.tmps.size = a0.tmps.size
  facts : ∀ i, listed.getD i false = true → (soft i = true → ¬ listed.getD sp false = true) → Fs i (vals i) w
  slot : ∀ s k, (∀ i, (l[i]?).bind (·.dst) = some s → (listed.getD i false = true ↔ i < k)) → a.tmps.getD s undef = (frm l a0 vals k).tmps.getD s undef

/-- whoever looks at a soft slot stands ahead of sp, or is sp -/
def softB (l : List Oper) (sp : Nat) (soft : Nat → Bool) : Bool :=
  (List.range l.length).all fun i => (List.range l.length).all fun j => !soft j || (match l[i]?, l[j]? with
    | some x, some y => (match y.dst with | some d => !(x.looksAt l.toArray).contains d | none => true)
    | _, _ => true) || i == sp || ((masks l []).getD sp 0).testBit i
theorem softB_spec {l : List Oper} {sp : Nat} {soft : Nat → Bool} (h : softB l sp soft = true) {i j : Nat} {o : Oper} {s : Tmp} (ho : l[i]? = some o) (hs : s ∈ o.looksAt l.toArray) (hj : (l[j]?).bind (·.dst) = some s) (hso : soft j = true) :
    i = sp ∨ ((masks l []).getD sp 0).testBit i = true := by
  cases hy : l[j]? with
  | none => simp [hy] at hj
  | some y =>
    simp [hy] at hj
    have hi : i < l.length := (List.getElem?_eq_some_iff.1 ho).1
    have hjl : j < l.length := (List.getElem?_eq_some_iff.1 hy).1
    have h1 := List.all_eq_true.1 (List.all_eq_true.1 h i (List.mem_range.2 hi)) j (List.mem_range.2 hjl)
    simp [ho, hy, hj, hso, hs] at h1
    exact h1

/-- a fact that speaks of no memory but what was there ahead of the region -/
def Hard (w0 : World) (F : Fact) : Prop := ∀ v w w', F v w → Below w0.heap.size w w' → F v w'
theorem hard_eq (w0 : World) (c : Value) : Hard w0 (fun v _ => v = c) := fun _ _ _ h _ => h

section
variable {P : Program} {Q : Exit → Act → World → Prop}
theorem headS_any {op : Nat → (Act → World → Prop) → Act → World → Prop} {l : List Oper} {N : Act → World → Prop} {n sp : Nat} {soft : Nat → Bool} {a0 : Act} {w0 : World} {Fs : Nat → Fact}
    (hc : checkB l n a0.tmps.size = true) (hsf : softB l sp soft = true) (hspn : sp < n) (hsoft : soft sp = false)
    (hmono : ∀ i (K K' : Act → World → Prop) a w, (∀ a w, K a w → K' a w) → op i K a w → op i K' a w)
    (hst : ∀ i < n, Stable (Fs i)) (hhard : ∀ i < n, i ≠ sp → soft i = true ∨ ((masks l []).getD i 0).testBit sp = true ∨ Hard w0 (Fs i))
    (hop : ∀ i o a w K, i < n → l[i]? = some o → Below w0.heap.size w0 w → (∀ s ∈ o.looksAt l.toArray, look a0 (doneOf l Fs i) s (a.tmps.getD s undef) w) →
      (∀ v w', (if i = sp then Below w0.heap.size w w' else Below w.heap.size w w') → Fs i v w' → K (a.put o.dst v) w') → op i K a w)
    (hend : ∀ vals w, Below w0.heap.size w0 w → (∀ i < n, soft i = false → Fs i (vals i) w) → seqG op N (l.length - n) n (frm l a0 vals n) w) :
    ∀ (fuel : Nat) (listed : Array Bool) (vals : Nat → Value) (a : Act) (w : World), unl listed l.length ≤ fuel → InvS l n sp soft Fs a0 w0 listed vals a w → AnyG op l.toArray N fuel listed a w := by
  simp only [checkB, Bool.and_eq_true, decide_eq_true_eq] at hc
  obtain ⟨⟨⟨⟨⟨hdst, hns⟩, hok⟩, hed⟩, htl⟩, hnl⟩ := hc
  have full : ∀ (fuel : Nat) (listed : Array Bool) (vals : Nat → Value) (a : Act) (w : World), unl listed l.length ≤ fuel → InvS l n sp soft Fs a0 w0 listed vals a w → (∀ i < n, listed.getD i false = true) → AnyG op l.toArray N fuel listed a w := by
    intro fuel listed vals a w hf inv hall
    have hiff : ∀ i, listed.getD i false = true ↔ i < n := fun i => ⟨inv.head i, hall i⟩
    have ha : a = frm l a0 vals n := by
      have h1 : a.tmps = (frm l a0 vals n).tmps := by
        apply Array.ext_getElem?
        intro s
        have hs := inv.slot s n (fun i _ => hiff i)
        have hz : a.tmps.size = (frm l a0 vals n).tmps.size := by rw [frm_size, inv.tsize]
        rcases Nat.lt_or_ge s a.tmps.size with h | h
        · have h' : s < (frm l a0 vals n).tmps.size := by omega
          simp only [Array.getD_eq_getD_getElem?, Array.getElem?_eq_getElem h, Array.getElem?_eq_getElem h', Option.getD_some] at hs
          rw [Array.getElem?_eq_getElem h, Array.getElem?_eq_getElem h', hs]
        · rw [Array.getElem?_eq_none h, Array.getElem?_eq_none (by omega)]
      have h2 : a.defers = (frm l a0 vals n).defers := by rw [frm_defers, inv.dfs]
      cases a; cases hfr : frm l a0 vals n
      rw [hfr] at h1 h2
      simp only at h1 h2
      rw [h1, h2]
    have hcount : ∀ m, n + m ≤ l.length → m ≤ unl listed (n + m) := by
      intro m
      induction m with
      | zero => intro _; omega
      | succ m ih =>
        intro h
        have := ih (by omega)
        rw [show n + (m + 1) = (n + m) + 1 by omega, unl, if_neg (fun h2 => by have := (hiff _).1 h2; omega)]
        omega
    have := hcount (l.length - n) (by omega)
    rw [show n + (l.length - n) = l.length by omega] at this
    rw [ha]
    exact tail_any htl hed hmono (l.length - n) n fuel listed _ w (Nat.le_refl _) (by omega) (by omega) inv.size inv.closed hiff (hend vals w inv.below (fun i hi hs => inv.facts i (hall i hi) (fun h => by rw [hs] at h; cases h)))
  intro fuel
  induction fuel with
  | zero =>
    intro listed vals a w hf inv
    have hall := unl_zero listed l.length (by omega)
    exact full 0 listed vals a w hf inv (fun i hi => hall i (by omega))
  | succ fuel ih =>
    intro listed vals a w hf inv
    by_cases hall : ∀ i < n, listed.getD i false = true
    · exact full _ listed vals a w hf inv hall
    · obtain ⟨i0, hi0, hun0, hbelow0⟩ := least_unlisted listed n (by
        apply Classical.byContradiction
        intro h
        exact hall fun i hi => Classical.byContradiction fun h2 => h ⟨i, ⟨hi, h2⟩⟩)
      have hr0 := ready_least hed inv.size (show i0 < l.length by omega) hun0 hbelow0
      refine ⟨fun h => (by rw [h] at hr0; cases hr0), fun i hi => ?_⟩
      obtain ⟨hiun, o, ho', hall'⟩ := mem_ready.1 hi
      have ho : l[i]? = some o := by simpa using ho'
      have hil : i < l.length := (List.getElem?_eq_some_iff.1 ho).1
      have hun : ¬ listed.getD i false = true := by rw [getD_both hiun]; simp
      have hin : i < n := by
        rcases Nat.lt_or_ge i n with h | h
        · exact h
        · exact absurd (anc_listed inv.closed i o i0 ho hall' (tailB_spec htl hil h (by omega))) hun0
      have hahead : ∀ j x, j < i → l[j]? = some x → x.apart l.toArray o = false → listed.getD j false = true := fun j x hj hx hap => by
        rcases okB_spec hok hj hx ho with h | h
        · exact anc_listed inv.closed i o j ho hall' h
        · rw [hap] at h; cases h
      have hbehind : ∀ j x, i < j → l[j]? = some x → o.apart l.toArray x = false → ¬ listed.getD j false = true := fun j x hj hx hap hl => by
        rcases okB_spec hok hj ho hx with h | h
        · exact hun (anc_listed inv.closed j x i hx (inv.closed j x hx hl) h)
        · rw [hap] at h; cases h
      refine hop i o a w _ hin ho inv.below ?_ ?_
      · intro s hs
        have hcut : ∀ j, (l[j]?).bind (·.dst) = some s → (listed.getD j false = true ↔ j < i) := by
          intro j hj
          cases hx : l[j]? with
          | none => simp [hx] at hj
          | some x =>
            simp [hx] at hj
            constructor
            · intro hl
              rcases Nat.lt_trichotomy j i with h | h | h
              · exact h
              · subst h; exact absurd hl hun
              · refine absurd hl (hbehind j x h hx ?_)
                cases hap : o.apart l.toArray x with
                | false => rfl
                | true => exact absurd hs ((Oper.apart_spec hap).2.2 s hj)
            · intro h
              refine hahead j x h hx ?_
              cases hap : x.apart l.toArray o with
              | false => rfl
              | true => exact absurd hs ((Oper.apart_spec hap).1 s hj)
        rw [inv.slot s i hcut]
        refine look_frm (fun ⟨j, _, hj⟩ => dstB_spec hdst hj) fun j hj hd => inv.facts j ((hcut j hd).2 hj) fun hso hls => ?_
        rcases softB_spec hsf ho hs hd hso with h | h
        · subst h; exact hun hls
        · have hspl : sp < l.length := by omega
          exact hun (anc_listed inv.closed sp l[sp] i (List.getElem?_eq_getElem hspl) (inv.closed sp _ (List.getElem?_eq_getElem hspl) hls) h)
      · intro v w' hb hF
        have hbe : Below w0.heap.size w w' := by
          split at hb
          · exact hb
          · exact hb.mono inv.below.size
        let vals' : Nat → Value := fun j => if j = i then v else vals j
        refine ih _ vals' _ w' ?_ ?_
        · have := unl_set_lt listed i (by rw [inv.size]; exact hil) hiun l.length hil
          omega
        · have hset : ∀ j, (listed.setIfInBounds i true).getD j false = true ↔ j = i ∨ listed.getD j false = true := by
            intro j
            by_cases hji : j = i
            · subst hji; simp [inv.size, hil]
            · rw [getD_set_ne false (Ne.symm hji)]; simp [hji]
          refine ⟨by simp [inv.size], ?_, ?_, inv.below.trans hbe, by rw [put_defers', inv.dfs], by rw [put_size, inv.tsize], ?_, ?_⟩
          · intro j x hx hl e he hbd
            rcases (hset j).1 hl with rfl | hl
            · obtain rfl : x = o := by rw [ho] at hx; exact (Option.some.inj hx).symm
              exact getD_set_true (hall' e he hbd)
            · exact getD_set_true (inv.closed j x hx hl e he hbd)
          · intro j hl
            rcases (hset j).1 hl with rfl | hl
            · exact hin
            · exact inv.head j hl
          · intro j hl hsj
            by_cases hji : j = i
            · subst hji; simp [vals', hF]
            · simp only [vals', if_neg hji]
              have hl' := ((hset j).1 hl).resolve_left hji
              have hsj' : soft j = true → ¬ listed.getD sp false = true := fun h h2 => hsj h ((hset sp).2 (.inr h2))
              have hfj := inv.facts j hl' hsj'
              by_cases his : i = sp
              · subst his
                rcases hhard j (inv.head j hl') hji with h | h | h
                · exact absurd ((hset i).2 (.inl rfl)) (hsj h)
                · have hjl : j < l.length := by have := inv.head j hl'; omega
                  exact absurd (anc_listed inv.closed j l[j] i (List.getElem?_eq_getElem hjl) (inv.closed j _ (List.getElem?_eq_getElem hjl) hl') h) hun
                · exact h _ _ _ hfj hbe
              · rw [if_neg his] at hb
                exact hst j (inv.head j hl') _ _ _ hfj hb
          · intro s k hcut
            by_cases hs : o.dst = some s
            · have hd : (l[i]?).bind (·.dst) = some s := by simp [ho, hs]
              have hik : i < k := (hcut i hd).1 ((hset i).2 (.inl rfl))
              have hlast : ∀ j, i < j → j < k → (l[j]?).bind (·.dst) ≠ some s := by
                intro j hj hjk hdj
                cases hx : l[j]? with
                | none => simp [hx] at hdj
                | some x =>
                  simp [hx] at hdj
                  have h1 := (hset j).1 ((hcut j (by simp [hx, hdj])).2 hjk)
                  rcases h1 with h1 | h1
                  · omega
                  · refine hbehind j x hj hx ?_ h1
                    cases hap : o.apart l.toArray x with
                    | false => rfl
                    | true => exact absurd hdj ((Oper.apart_spec hap).2.1 s hs)
              have hfr : ∀ m, i < m → m ≤ k → (frm l a0 vals' m).tmps.getD s undef = ((frm l a0 vals' i).put (some s) v).tmps.getD s undef := by
                intro m
                induction m with
                | zero => intro h; omega
                | succ m ihm =>
                  intro h1 h2
                  by_cases hmi : m = i
                  · subst hmi; simp only [frm, hd]; simp [vals']
                  · simp only [frm]
                    rw [put_other _ _ _ _ (hlast m (by omega) (by omega))]
                    exact ihm (by omega) (by omega)
              rw [hfr k hik (Nat.le_refl _), hs]
              exact put_same _ _ _ _ (by rw [frm_size, inv.tsize])
            · rw [put_other _ _ _ _ hs]
              have hne : (l[i]?).bind (·.dst) ≠ some s := by simp [ho, hs]
              rw [inv.slot s k (fun j hj => by
                have h1 := hcut j hj
                rw [hset j] at h1
                have hji : j ≠ i := fun e => hne (e ▸ hj)
                simpa [hji] using h1)]
              exact frm_congr fun j _ hj => by
                have hji : j ≠ i := fun e => hne (e ▸ hj)
                simp [vals', hji]

def uponS (w0 w : World) (F : Fact) : Result Next → Prop
  | .ok (.value v) w' => Below w0.heap.size w w' ∧ F v w'
  | _ => False
def ObligS (P : Program) (ops : Array Oper) (a0 : Act) (w0 : World) (done : Done) (o : Oper) (F : Fact) : Prop :=
  ∀ ρ w, Env ρ → Below w0.heap.size w0 w → (∀ s ∈ o.looksAt ops, look a0 done s (ρ (.tmp s)) w) → Region.wanted o (yieldedR ops ρ) = true ∧ uponS w0 w F ((execOp ρ o).run P w)

def Step (P : Program) (ops : Array Oper) (a0 : Act) (w0 : World) (done : Done) (o : Oper) (F : Fact) : Prop := Stable F ∧ Oblig P ops a0 w0 done o F

def ChainS (P : Program) (l : List Oper) (a0 : Act) (w0 : World) (E : List Oper → Act → World → Prop) (sp : Nat) (soft : Nat → Bool) : Nat → Nat → Done → Done → List Oper → Prop
  | 0, _, _, de, rest => ∀ w, Below w0.heap.size w0 w → Ends (E rest) w de.reverse a0
  | _ + 1, _, _, _, [] => False
  | n + 1, k, done, de, o :: rest => ∃ F, Stable F ∧ (k ≠ sp → soft k = true ∨ ((masks l []).getD k 0).testBit sp = true ∨ Hard w0 F) ∧
      (if k = sp then ObligS P l.toArray a0 w0 done o F else Oblig P l.toArray a0 w0 done o F) ∧ ChainS P l a0 w0 E sp soft n (k + 1) ((o.dst, F) :: done) ((o.dst, if soft k = true then fun _ _ => True else F) :: de) rest

def doneE (l : List Oper) (soft : Nat → Bool) (Fs : Nat → Fact) : Nat → Done
  | 0 => []
  | k + 1 => ((l[k]?).bind (·.dst), if soft k = true then fun _ _ => True else Fs k) :: doneE l soft Fs k
theorem doneE_congr {l : List Oper} {soft : Nat → Bool} {Fs Gs : Nat → Fact} : ∀ {k}, (∀ i < k, Fs i = Gs i) → doneE l soft Fs k = doneE l soft Gs k
  | 0, _ => rfl
  | k + 1, h => by simp only [doneE, h k (by omega), doneE_congr (k := k) (fun i hi => h i (by omega))]
theorem doneE_of (l : List Oper) (soft : Nat → Bool) (Fs : Nat → Fact) : ∀ k, doneE l soft Fs k = doneOf l (fun i => if soft i = true then fun _ _ => True else Fs i) k
  | 0 => rfl
  | k + 1 => by simp only [doneE, doneOf, doneE_of l soft Fs k]

theorem chainS_out {a0 : Act} {w0 : World} {E : List Oper → Act → World → Prop} {l : List Oper} {sp : Nat} {soft : Nat → Bool} :
    ∀ (n k : Nat) (Fs0 : Nat → Fact), (∀ i < k, Stable (Fs0 i) ∧ (i ≠ sp → soft i = true ∨ ((masks l []).getD i 0).testBit sp = true ∨ Hard w0 (Fs0 i))) →
      (∀ i < k, ∀ o, l[i]? = some o → if i = sp then ObligS P l.toArray a0 w0 (doneOf l Fs0 i) o (Fs0 i) else Oblig P l.toArray a0 w0 (doneOf l Fs0 i) o (Fs0 i)) →
      ChainS P l a0 w0 E sp soft n k (doneOf l Fs0 k) (doneE l soft Fs0 k) (l.drop k) →
      ∃ Fs : Nat → Fact, (∀ i < k + n, Stable (Fs i) ∧ (i ≠ sp → soft i = true ∨ ((masks l []).getD i 0).testBit sp = true ∨ Hard w0 (Fs i))) ∧
        (∀ i < k + n, ∀ o, l[i]? = some o → if i = sp then ObligS P l.toArray a0 w0 (doneOf l Fs i) o (Fs i) else Oblig P l.toArray a0 w0 (doneOf l Fs i) o (Fs i)) ∧
        ∀ w, Below w0.heap.size w0 w → Ends (E (l.drop (k + n))) w (doneE l soft Fs (k + n)).reverse a0 := by
  intro n
  induction n with
  | zero => intro k Fs0 h1 h2 h3; exact ⟨Fs0, h1, h2, h3⟩
  | succ n ih =>
    intro k Fs0 h1 h2 h3
    cases hd : l.drop k with
    | nil => rw [hd] at h3; exact h3.elim
    | cons o rest =>
      rw [hd] at h3
      obtain ⟨F, hF, hsd, hob, hch⟩ := h3
      have hk : l[k]? = some o := by
        have := congrArg (fun x => x[0]?) hd
        simpa using this
      have hrest : l.drop (k + 1) = rest := by
        rw [← List.drop_drop, hd]; rfl
      let Fs1 : Nat → Fact := fun i => if i = k then F else Fs0 i
      have e1 : ∀ m ≤ k, doneOf l Fs1 m = doneOf l Fs0 m := fun m hm => doneOf_congr fun i hi => by simp [Fs1, show i ≠ k by omega]
      have e2 : doneOf l Fs1 (k + 1) = (o.dst, F) :: doneOf l Fs0 k := by
        simp only [doneOf, e1 k (Nat.le_refl _), hk, Option.bind_some]
        simp [Fs1]
      have e4 : doneE l soft Fs1 k = doneE l soft Fs0 k := doneE_congr fun i hi => by simp [Fs1, show i ≠ k by omega]
      have e3 : doneE l soft Fs1 (k + 1) = (o.dst, if soft k = true then fun _ _ => True else F) :: doneE l soft Fs0 k := by
        simp only [doneE, e4, hk, Option.bind_some]
        simp [Fs1]
      obtain ⟨Fs, g1, g2, g3⟩ := ih (k + 1) Fs1
        (fun i hi => by
          by_cases h : i = k
          · subst h; simpa [Fs1] using And.intro hF hsd
          · simpa [Fs1, h] using h1 i (by omega))
        (fun i hi o' ho' => by
          by_cases h : i = k
          · subst h
            obtain rfl : o' = o := by rw [hk] at ho'; exact (Option.some.inj ho').symm
            rw [e1 i (Nat.le_refl _)]; simpa [Fs1] using hob
          · rw [e1 i (by omega)]; simpa [Fs1, h] using h2 i (by omega) o' ho')
        (by rw [e2, e3, hrest]; exact hch)
      exact ⟨Fs, by simpa [show k + 1 + n = k + (n + 1) by omega] using g1, by simpa [show k + 1 + n = k + (n + 1) by omega] using g2, by simpa [show k + 1 + n = k + (n + 1) by omega] using g3⟩

theorem wpOp_of_obligS {l : List Oper} {a0 : Act} {w0 : World} {done : Done} {F : Fact} {i : Nat} {o : Oper} {a : Act} {w : World} {K : Act → World → Prop} (ho : l[i]? = some o)
    (hob : ObligS P l.toArray a0 w0 done o F) (hb : Below w0.heap.size w0 w) (hs : ∀ s ∈ o.looksAt l.toArray, look a0 done s (a.tmps.getD s undef) w)
    (hK : ∀ v w', Below w0.heap.size w w' → F v w' → K (a.put o.dst v) w') : wpOp P l.toArray Q i K a w := by
  obtain ⟨hw, h⟩ := hob a.eval w (Env.of_act a) hb hs
  unfold wpOp
  simp only [List.getElem?_toArray, ho]
  rw [yielded_eq, if_pos hw]
  refine .inl ?_
  unfold Oper.wp
  generalize (execOp a.eval o).run P w = r at h
  cases r with
  | ok x w' =>
    cases x <;> simp only [uponS] at h <;> simp only [Oper.upon]
    exact hK _ _ h.1 h.2
  | halt x w' => simp only [uponS] at h

/-- **SUCH A REGION, WALKED ONCE.** -/
theorem wp_region_freeS {id : Nat} {l : List Oper} {a0 : Act} {w0 : World} (n sp : Nat) (soft : Nat → Bool) (hm : P.follows .mixedOrders = true) (hc : checkB l n a0.tmps.size = true) (hsf : softB l sp soft = true) (hspn : sp < n) (hsoft : soft sp = false)
    (h : ChainS P l a0 w0 (fun rest a w => wpList P l.toArray Q rest a w) sp soft n 0 [] [] l) : (Code.region id l.toArray true).wp P Q a0 w0 := by
  obtain ⟨Fs, h1, h2, h3⟩ := chainS_out (l := l) n 0 (fun _ _ _ => False) (fun i hi => by omega) (fun i hi => by omega) h
  have hn : n ≤ l.length := by
    simp only [checkB, Bool.and_eq_true, decide_eq_true_eq] at hc
    exact hc.2
  simp only [Nat.zero_add] at h1 h2 h3
  refine wp_region_any hm ?_
  have e : wpAny P .any l.toArray Q l.toArray.size (Array.replicate l.toArray.size false) a0 { w0 with drawn := w0.drawn + 1 } =
      AnyG (fun i K => wpOp P l.toArray Q i K) l.toArray (Q .normal) l.toArray.size (Array.replicate l.toArray.size false) a0 { w0 with drawn := w0.drawn + 1 } := by rw [anyG_plain]
  rw [e]
  have hrep : ∀ j, (Array.replicate l.toArray.size false).getD j false = false := fun j => by
    rcases Nat.lt_or_ge j l.length with h | h
    · simp [h]
    · simp [h]
  refine headS_any (op := fun i K => wpOp P l.toArray Q i K) (N := Q .normal) (l := l) (Fs := Fs) (vals := fun _ => undef) hc hsf hspn hsoft (fun i K K' a w h => wpOp_mono h) (fun i hi => (h1 i hi).1) (fun i hi => (h1 i hi).2) (fun i o a w K hi ho hb hs hK => ?_) ?_ _ _ _ _ ?_ ?_
  · have h2' := h2 i hi o ho
    by_cases his : i = sp
    · rw [if_pos his] at h2'
      exact wpOp_of_obligS (a := a) (w := w) (K := K) ho h2' hb hs (fun v w' h => hK v w' (by rw [if_pos his]; exact h))
    · rw [if_neg his] at h2'
      exact wpOp_of_oblig (a := a) (w := w) (K := K) ho h2' hb hs (fun v w' h => hK v w' (by rw [if_neg his]; exact h))
  · intro vals w hb hv
    rw [seq_wpList _ _ (by omega)]
    have h3' := h3 w hb
    rw [doneE_of] at h3'
    exact ends_out a0 n (fun i hi => by
      by_cases hso : soft i = true
      · simp [hso]
      · simp only [hso]; exact hv i hi (by simpa using hso)) h3'
  · have : ∀ k, unl (Array.replicate l.toArray.size false) k ≤ k := by
      intro k
      induction k with
      | zero => exact Nat.le_refl _
      | succ k ih => simp only [unl]; split <;> omega
    simpa using this l.length
  · refine ⟨by simp, fun i o _ hl => (by rw [hrep] at hl; cases hl), fun i hl => (by rw [hrep] at hl; cases hl), ⟨rfl, rfl, rfl, Nat.le_refl _, fun _ _ => rfl⟩, rfl, rfl, fun i hl => (by rw [hrep] at hl; cases hl), ?_⟩
    intro s k hcut
    have : ∀ j < k, (l[j]?).bind (·.dst) ≠ some s := fun j hj hd => by
      have := (hcut j hd).2 hj
      rw [hrep] at this; cases this
    have key : ∀ m ≤ k, (frm l a0 (fun _ => undef) m).tmps.getD s undef = a0.tmps.getD s undef := by
      intro m
      induction m with
      | zero => intro _; rfl
      | succ m ih => intro hm; simp only [frm]; rw [put_other _ _ _ _ (this m (by omega))]; exact ih (by omega)
    rw [key k (Nat.le_refl _)]
theorem step_val {ops : Array Oper} {a0 : Act} {w0 : World} {done : Done} {o : Oper} {S : List Tmp} (c : Value)
    (hS : o.looksAt ops = S)
    (h : ∀ ρ w, Env ρ → Below w0.heap.size w0 w → (∀ s ∈ S, look a0 done s (ρ (.tmp s)) w) → if Region.wanted o (yieldedR ops ρ) then (execOp ρ o).run P w = .ok (.value c) w else undef = c) : Step P ops a0 w0 done o (fun v _ => v = c) := by
  refine ⟨stable_eq c, fun ρ w hE hB hs => ?_⟩
  have h' := h ρ w hE hB (by rw [← hS]; exact hs)
  split
  · rename_i hw
    rw [if_pos hw] at h'
    rw [h']
    exact ⟨Below.refl _ _, rfl⟩
  · rename_i hw
    rw [if_neg hw] at h'
    exact h'
theorem step_call {ops : Array Oper} {a0 : Act} {w0 : World} {done : Done} {o : Oper} {S : List Tmp} (F : Fact) (hst : Stable F)
    (hS : o.looksAt ops = S)
    (h : ∀ ρ w, Env ρ → Below w0.heap.size w0 w → (∀ s ∈ S, look a0 done s (ρ (.tmp s)) w) → Region.wanted o (yieldedR ops ρ) = true ∧
      ∃ f args, (execOp ρ o).run P w = .ok (.enter f args) w ∧ Calls P f args w fun e w' => ∃ v, e = .returned v ∧ Below w.heap.size w w' ∧ F v w') : Step P ops a0 w0 done o F := by
  refine ⟨hst, fun ρ w hE hB hs => ?_⟩
  obtain ⟨hw, f, args, hrun, hc⟩ := h ρ w hE hB (by rw [← hS]; exact hs)
  rw [if_pos hw, hrun]
  exact ⟨Below.refl _ _, hc⟩
theorem step_static {ops : Array Oper} {a0 : Act} {w0 : World} {done : Done} {o : Oper} {S : List Tmp} (F : Fact) (hst : Stable F)
    {f : FuncId} {ags : Array Operand} {ats : Array TypeId} (ho : o.op = .call { callee := .value (.func f), args := ags, argTypes := ats }) (ef : ∀ args w, (callFunc f args).run P w = .ok (.enter f args) w)
    (hS : o.looksAt ops = S)
    (h : ∀ ρ w, Env ρ → Below w0.heap.size w0 w → (∀ s ∈ S, look a0 done s (ρ (.tmp s)) w) → Region.wanted o (yieldedR ops ρ) = true ∧
      Calls P f (ags.map ρ) w fun e w' => ∃ v, e = .returned v ∧ Below w.heap.size w w' ∧ F v w') : Step P ops a0 w0 done o F := by
  refine step_call F hst hS (fun ρ w hE hB hs => ?_)
  obtain ⟨hw, hc⟩ := h ρ w hE hB hs
  refine ⟨hw, f, ags.map ρ, ?_, hc⟩
  unfold execOp
  rw [ho]
  simp only [resolve, hE.func, Deferred.ofValue, Sem.run_bind, Sem.run_pure, Result.andThen_ok]
  have := ef (ags.map ρ) w
  simp only [invoke, Array.empty_append, Array.append_empty] at *
  exact this
theorem step_fact {ops : Array Oper} {a0 : Act} {w0 : World} {done : Done} {o : Oper} {S : List Tmp} (F : Fact) (hst : Stable F)
    (hS : o.looksAt ops = S)
    (h : ∀ ρ w, Env ρ → Below w0.heap.size w0 w → (∀ s ∈ S, look a0 done s (ρ (.tmp s)) w) → if Region.wanted o (yieldedR ops ρ) then ∃ v, (execOp ρ o).run P w = .ok (.value v) w ∧ F v w else F undef w) : Step P ops a0 w0 done o F := by
  refine ⟨hst, fun ρ w hE hB hs => ?_⟩
  have h' := h ρ w hE hB (by rw [← hS]; exact hs)
  split
  · rename_i hw
    rw [if_pos hw] at h'
    obtain ⟨v, hv, hF⟩ := h'
    rw [hv]
    exact ⟨Below.refl _ _, hF⟩
  · rename_i hw
    rw [if_neg hw] at h'
    exact h'
theorem step_make {ops : Array Oper} {a0 : Act} {w0 : World} {done : Done} {o : Oper} {S : List Tmp} (F : Fact) (hst : Stable F)
    (hS : o.looksAt ops = S)
    (h : ∀ ρ w, Env ρ → Below w0.heap.size w0 w → (∀ s ∈ S, look a0 done s (ρ (.tmp s)) w) → Region.wanted o (yieldedR ops ρ) = true ∧ ∃ v w', (execOp ρ o).run P w = .ok (.value v) w' ∧ Below w.heap.size w w' ∧ F v w') : Step P ops a0 w0 done o F := by
  refine ⟨hst, fun ρ w hE hB hs => ?_⟩
  obtain ⟨hw, v, w', hrun, h1, h2⟩ := h ρ w hE hB (by rw [← hS]; exact hs)
  rw [if_pos hw, hrun]
  exact ⟨h1, h2⟩

theorem chainS_hard {l : List Oper} {a0 : Act} {w0 : World} {E : List Oper → Act → World → Prop} {sp : Nat} {soft : Nat → Bool} {n k : Nat} {done de : Done} {o : Oper} {rest : List Oper} {F : Fact} (hst : Step P l.toArray a0 w0 done o F) (hk : k ≠ sp) (hs : soft k = false) (hh : Hard w0 F)
    (hr : ChainS P l a0 w0 E sp soft n (k + 1) ((o.dst, F) :: done) ((o.dst, F) :: de) rest) : ChainS P l a0 w0 E sp soft (n + 1) k done de (o :: rest) :=
  ⟨F, hst.1, fun _ => .inr (.inr hh), by rw [if_neg hk]; exact hst.2, by rw [hs]; exact hr⟩
theorem chainS_soft {l : List Oper} {a0 : Act} {w0 : World} {E : List Oper → Act → World → Prop} {sp : Nat} {soft : Nat → Bool} {n k : Nat} {done de : Done} {o : Oper} {rest : List Oper} {F : Fact} (hst : Step P l.toArray a0 w0 done o F) (hk : k ≠ sp) (hs : soft k = true)
    (hr : ChainS P l a0 w0 E sp soft n (k + 1) ((o.dst, F) :: done) ((o.dst, fun _ _ => True) :: de) rest) : ChainS P l a0 w0 E sp soft (n + 1) k done de (o :: rest) :=
  ⟨F, hst.1, fun _ => .inl hs, by rw [if_neg hk]; exact hst.2, by rw [hs]; exact hr⟩
theorem chainS_late {l : List Oper} {a0 : Act} {w0 : World} {E : List Oper → Act → World → Prop} {sp : Nat} {soft : Nat → Bool} {n k : Nat} {done de : Done} {o : Oper} {rest : List Oper} {F : Fact} (hst : Step P l.toArray a0 w0 done o F) (hk : k ≠ sp) (hs : soft k = false) (hl : ((masks l []).getD k 0).testBit sp = true)
    (hr : ChainS P l a0 w0 E sp soft n (k + 1) ((o.dst, F) :: done) ((o.dst, F) :: de) rest) : ChainS P l a0 w0 E sp soft (n + 1) k done de (o :: rest) :=
  ⟨F, hst.1, fun _ => .inr (.inl hl), by rw [if_neg hk]; exact hst.2, by rw [hs]; exact hr⟩
theorem chainS_sp {l : List Oper} {a0 : Act} {w0 : World} {E : List Oper → Act → World → Prop} {sp : Nat} {soft : Nat → Bool} {n : Nat} {done de : Done} {o : Oper} {rest : List Oper} {S : List Tmp} (F : Fact) (hF : Stable F) (hs : soft sp = false) (hS : o.looksAt l.toArray = S)
    (h : ∀ ρ w, Env ρ → Below w0.heap.size w0 w → (∀ s ∈ S, look a0 done s (ρ (.tmp s)) w) → Region.wanted o (yieldedR l.toArray ρ) = true ∧ ∃ v w', (execOp ρ o).run P w = .ok (.value v) w' ∧ Below w0.heap.size w w' ∧ F v w')
    (hr : ChainS P l a0 w0 E sp soft n (sp + 1) ((o.dst, F) :: done) ((o.dst, F) :: de) rest) : ChainS P l a0 w0 E sp soft (n + 1) sp done de (o :: rest) := by
  refine ⟨F, hF, fun h => absurd rfl h, ?_, by rw [hs]; exact hr⟩
  rw [if_pos rfl]
  intro ρ w hE hB hl
  obtain ⟨hw, v, w', hrun, h1, h2⟩ := h ρ w hE hB (by rw [← hS]; exact hl)
  refine ⟨hw, ?_⟩
  rw [hrun]
  exact ⟨h1, h2⟩
end
end Go.Free
namespace Go.Free
open Go Go.RowKit Go.Cor
theorem step_append0 {P : Program} {ops : Array Oper} {a0 : Act} {w0 : World} {done : Done} {o : Oper} {S : List Tmp} {base : Nat} {e t : TypeId} {k : IntKind} {xs : List Int} {z : Value} {bytes : Nat} {s x : Tmp}
    (ht : ElemT P t e z 1 bytes) (ho : o.op = .call { callee := .builtin .append, args := #[.tmp s, .tmp x], argTypes := #[t, t] }) (hS : o.looksAt ops = S) (hbase : base ≤ w0.heap.size)
    (h : ∀ ρ w, Env ρ → Below w0.heap.size w0 w → (∀ s ∈ S, look a0 done s (ρ (.tmp s)) w) → Region.wanted o (yieldedR ops ρ) = true ∧ LitF base e (ρ (.tmp s)) w ∧ RdF k xs (ρ (.tmp x)) w)
    (hbytes : xs.length * bytes ≤ 140737488355328) (h63 : xs.length ≤ 9223372036854775807) : Step P ops a0 w0 done o (OwF base e k xs) := by
  refine step_make (OwF base e k xs) (OwF.stable _ _ _ _) hS (fun ρ w hE hB hs => ?_)
  obtain ⟨hw, ⟨g, e1, h1, h2⟩, A, m, c, e2, h3⟩ := h ρ w hE hB hs
  obtain rfl := h3.len
  obtain ⟨A', c', w', hrun, hown, hbel⟩ := run_append_cap0 (P := P) ht o.type h1 h2 h3.toV hbytes h63 (Nat.le_trans hbase hB.size)
  refine ⟨hw, _, w', ?_, hbel, A', _, c', rfl, hown⟩
  unfold execOp
  simp only [ho, resolve, invoke, builtin, Sem.run_bind, Sem.run_pure, Result.andThen_ok, List.map_toArray, List.map_cons, List.map_nil, e1, e2, hrun]
/-- an append onto a row that the region has made -/
theorem chainS_append {P : Program} {l : List Oper} {a0 : Act} {w0 : World} {E : List Oper → Act → World → Prop} {sp : Nat} {soft : Nat → Bool} {n : Nat} {done de : Done} {o : Oper} {rest : List Oper} {S : List Tmp} {base : Nat} {e t : TypeId} {k : IntKind} {xs ys : List Int} {z : Value} {bytes : Nat} {s x : Tmp}
    (hs : soft sp = false) (ht : ElemT P t e z 1 bytes) (ho : o.op = .call { callee := .builtin .append, args := #[.tmp s, .tmp x], argTypes := #[t, t] }) (hS : o.looksAt l.toArray = S) (hbase : base = w0.heap.size)
    (h : ∀ ρ w, Env ρ → Below w0.heap.size w0 w → (∀ s ∈ S, look a0 done s (ρ (.tmp s)) w) → Region.wanted o (yieldedR l.toArray ρ) = true ∧ OwF base e k xs (ρ (.tmp s)) w ∧ RdF k ys (ρ (.tmp x)) w)
    (hbytes : (xs.length + ys.length) * bytes ≤ 140737488355328) (h63 : xs.length + ys.length ≤ 9223372036854775807)
    (hr : ChainS P l a0 w0 E sp soft n (sp + 1) ((o.dst, OwF base e k (xs ++ ys)) :: done) ((o.dst, OwF base e k (xs ++ ys)) :: de) rest) : ChainS P l a0 w0 E sp soft (n + 1) sp done de (o :: rest) := by
  refine chainS_sp (OwF base e k (xs ++ ys)) (OwF.stable _ _ _ _) hs hS (fun ρ w hE hB hl => ?_) hr
  obtain ⟨hw, ⟨A, m, c, e1, h1⟩, A2, m2, c2, e2, h2⟩ := h ρ w hE hB hl
  have hl1 : xs.length = m := by have := h1.1; simpa using this
  have hl2 := h2.len
  subst hl1 hl2
  obtain ⟨A', c', w', hrun, hown, hg, _⟩ := run_append_r (P := P) w ht o.type base _ _ _ h1 A2 _ c2 _ h2.toV (ints_oneCell k ys) hbytes h63 (by rw [hbase]; exact hB.size)
  refine ⟨hw, .slice A' (xs.length + ys.length) c', w', ?_, ?_, A', xs.length + ys.length, c', rfl, ?_⟩
  · unfold execOp
    simp only [ho, resolve, invoke, builtin, Sem.run_bind, Sem.run_pure, Result.andThen_ok, List.map_toArray, List.map_cons, List.map_nil, e1, e2, hrun]
  · subst hbase
    exact below_grown (Below.refl _ _) h1 hg hB.size
  · exact owns_app hown
end Go.Free
