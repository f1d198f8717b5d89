/-
  A region that draws its order, in a round, in which each operation may write blocks of its own: walked once. (Printed by wip/genfreet.py.)
  A row of the call's own that is not empty has an address.
-/
import Derived.Test.YtkbcmblgieoleaaG6
import Derived.Test.YtkbcmblgieoleaaG9
import Derived.Test.YtkbcmblgieoleaaG11
import Derived.Test.YtkbcmblgieoleaaG23
namespace Go.Free.T
open Go Go.RowKit Go.Free Go.Cor
/-- what the others may have written, ahead of operation i; what all may have written -/
def U (T : Nat → Nat → Prop) (N i : Nat) : Nat → Prop := fun b => ∃ j, j < N ∧ j ≠ i ∧ T j b
def UA (T : Nat → Nat → Prop) (N : Nat) : Nat → Prop := fun b => ∃ j, j < N ∧ T j b
/-- what is known of operation i's value abides what the others write -/
def StabT (T : Nat → Nat → Prop) (N : Nat) (w0 : World) (i : Nat) (F : Fact) : Prop := ∀ j, j < N → j ≠ i → ∀ v w w', w0.heap.size ≤ w.heap.size → F v w → Mod (T j) w w' → F v w'
theorem stabT_eq (T : Nat → Nat → Prop) (N : Nat) (w0 : World) (i : Nat) (c : Value) : StabT T N w0 i (fun v _ => v = c) := fun _ _ _ _ _ _ _ h _ => h
/-- beside: a value that X names holds a block for itself: one that it may write, or a new one -/
def uponT (Ti : Nat → Prop) (x : Bool) (P : Program) (w : World) (F : Fact) : Result Next → Prop
  | .ok (.value v) w' => Mod Ti w w' ∧ F v w' ∧ (x = true → ∀ g, v.ownBlock = some g → Ti g ∨ (w.heap.size ≤ g ∧ g < w'.heap.size))
  | .ok .skip w' => Mod Ti w w' ∧ F undef w'
  | .ok (.enter f args) w' => Mod Ti w w' ∧ Calls P f args w' fun e w'' => ∃ v, e = .returned v ∧ Mod Ti w' w'' ∧ F v w'' ∧ (x = true → ∀ g, v.ownBlock = some g → Ti g ∨ (w.heap.size ≤ g ∧ g < w''.heap.size))
  | _ => False
/-- the slot s holds what operation i gave, in the end -/
def lastB (l : List Oper) (n i s N : Nat) : Bool := decide (i < n) && ((l[i]?).bind (·.dst) == some s) && decide (s < N) && (List.range n).all fun j => decide (j ≤ i) || !((l[j]?).bind (·.dst) == some s)
theorem last_spec {l : List Oper} {n i s N : Nat} {a0 : Act} {vals : Nat → Value} (h : lastB l n i s N = true) (hN : a0.tmps.size = N) : (frm l a0 vals n).tmps.getD s undef = vals i := by
  simp only [lastB, Bool.and_eq_true, decide_eq_true_eq, beq_iff_eq] at h
  obtain ⟨⟨⟨hi, hd⟩, hs⟩, hall⟩ := h
  have hoth : ∀ j, j < n → i < j → (l[j]?).bind (·.dst) ≠ some s := fun j hj hij => by
    have := List.all_eq_true.1 hall j (List.mem_range.2 hj)
    simp only [Bool.or_eq_true, decide_eq_true_eq, Bool.not_eq_true', beq_eq_false_iff_ne] at this
    rcases this with h | h
    · omega
    · exact h
  have key : ∀ k, i < k → k ≤ n → (frm l a0 vals k).tmps.getD s undef = vals i := by
    intro k
    induction k with
    | zero => intro h; omega
    | succ k ih =>
      intro h1 h2
      by_cases e : k = i
      · subst e
        simp only [frm, hd]
        simp [Act.put, frm_size, hN, hs]
      · simp only [frm]
        rw [put_other _ _ _ _ (hoth k (by omega) (by omega))]
        exact ih (by omega) (by omega)
  exact key n hi (Nat.le_refl _)
/-- what two slots hold lies apart -/
def AptS (s1 s2 : Tmp) (a : Act) : Prop := ∀ g, (a.tmps.getD s1 undef).ownBlock = some g → (a.tmps.getD s2 undef).ownBlock ≠ some g
def ObligT (T : Nat → Nat → Prop) (X : Nat → Bool) (N : Nat) (P : Program) (ops : Array Oper) (a0 : Act) (w0 : World) (i : Nat) (done : Done) (o : Oper) (F : Fact) : Prop :=
  ∀ ρ w, Env ρ → Mod (U T N i) w0 w → (∀ s ∈ o.looksAt ops, look a0 done s (ρ (.tmp s)) w) →
    if Region.wanted o (yieldedR ops ρ) then uponT (T i) (X i) P w F ((execOp ρ o).run P w) else F undef w
def ChainT (T : Nat → Nat → Prop) (X : Nat → Bool) (N : Nat) (P : Program) (ops : Array Oper) (a0 : Act) (w0 : World) (E : List Oper → Act → World → Prop) : Nat → Nat → Done → List Oper → Prop
  | 0, _, done, rest => ∀ w, Mod (UA T N) w0 w → Ends (E rest) w done.reverse a0
  | _ + 1, _, _, [] => False
  | n + 1, k, done, o :: rest => ∃ F, StabT T N w0 k F ∧ ObligT T X N P ops a0 w0 k done o F ∧ ChainT T X N P ops a0 w0 E n (k + 1) ((o.dst, F) :: done) rest

theorem chain_outT {T : Nat → Nat → Prop} {X : Nat → Bool} {N : Nat} {P : Program} {ops : Array Oper} {a0 : Act} {w0 : World} {E : List Oper → Act → World → Prop} {l : List Oper} :
    ∀ (n k : Nat) (Fs0 : Nat → Fact), (∀ i < k, StabT T N w0 i (Fs0 i)) → (∀ i < k, ∀ o, l[i]? = some o → ObligT T X N P ops a0 w0 i (doneOf l Fs0 i) o (Fs0 i)) →
      ChainT T X N P ops a0 w0 E n k (doneOf l Fs0 k) (l.drop k) →
      ∃ Fs : Nat → Fact, (∀ i < k + n, StabT T N w0 i (Fs i)) ∧ (∀ i < k + n, ∀ o, l[i]? = some o → ObligT T X N P ops a0 w0 i (doneOf l Fs i) o (Fs i)) ∧
        ∀ w, Mod (UA T N) w0 w → Ends (E (l.drop (k + n))) w (doneOf l Fs (k + n)).reverse a0 := by
  intro n
  induction n with
  | zero => intro k Fs0 h1 h2 h3; exact ⟨Fs0, h1, h2, h3⟩
  | succ n ih =>
    intro k Fs0 h1 h2 h3
    cases hd : l.drop k with
    | nil => rw [hd] at h3; exact h3.elim
    | cons o rest =>
      rw [hd] at h3
      obtain ⟨F, hF, hob, hch⟩ := h3
      have hk : l[k]? = some o := by
        have := congrArg (fun x => x[0]?) hd
        simpa using this
      have hrest : l.drop (k + 1) = rest := by
        rw [← List.drop_drop, hd]; rfl
      let Fs1 : Nat → Fact := fun i => if i = k then F else Fs0 i
      have e1 : ∀ m ≤ k, doneOf l Fs1 m = doneOf l Fs0 m := fun m hm => doneOf_congr fun i hi => by simp [Fs1, show i ≠ k by omega]
      have e2 : doneOf l Fs1 (k + 1) = (o.dst, F) :: doneOf l Fs0 k := by
        simp only [doneOf, e1 k (Nat.le_refl _), hk, Option.bind_some]
        simp [Fs1]
      obtain ⟨Fs, g1, g2, g3⟩ := ih (k + 1) Fs1
        (fun i hi => by by_cases h : i = k <;> simp [Fs1, h, hF]; exact h1 i (by omega))
        (fun i hi o' ho' => by
          by_cases h : i = k
          · subst h
            obtain rfl : o' = o := by rw [hk] at ho'; exact (Option.some.inj ho').symm
            rw [e1 i (Nat.le_refl _)]; simpa [Fs1] using hob
          · rw [e1 i (by omega)]; simpa [Fs1, h] using h2 i (by omega) o' ho')
        (by rw [e2, hrest]; exact hch)
      exact ⟨Fs, by simpa [show k + 1 + n = k + (n + 1) by omega] using g1, by simpa [show k + 1 + n = k + (n + 1) by omega] using g2, by simpa [show k + 1 + n = k + (n + 1) by omega] using g3⟩

structure InvT (T : Nat → Nat → Prop) (X : Nat → Bool) (l : List Oper) (n : Nat) (Fs : Nat → Fact) (a0 : Act) (w0 : World) (listed : Array Bool) (vals : Nat → Value) (a : Act) (w : World) : Prop where
  size : listed.size = l.length
  closed : Closed l listed
  head : ∀ i, listed.getD i false = true → i < n
  below : Mod (fun b => ∃ j, listed.getD j false = true ∧ T j b) w0 w
  dfs : a.defers = a0.defers
  tsize : a.tmps.size = a0.tmps.size
  facts : ∀ i, listed.getD i false = true → Fs i (vals i) w
  own : ∀ i, listed.getD i false = true → X i = true → ∀ g, (vals i).ownBlock = some g → g < w.heap.size ∧ (T i g ∨ w0.heap.size ≤ g)
  apt : ∀ i j, listed.getD i false = true → listed.getD j false = true → i ≠ j → X i = true → X j = true → ∀ g, (vals i).ownBlock = some g → (vals j).ownBlock ≠ some g
  slot : ∀ s k, (∀ i, (l[i]?).bind (·.dst) = some s → (listed.getD i false = true ↔ i < k)) → a.tmps.getD s undef = (frm l a0 vals k).tmps.getD s undef

section
variable {P : Program} {Q : Exit → Act → World → Prop} {r : Nat}
theorem head_anyT {T : Nat → Nat → Prop} {X : Nat → Bool} {op : Nat → (Act → World → Prop) → Act → World → Prop} {l : List Oper} {N : Act → World → Prop} {n : Nat} {a0 : Act} {w0 : World} {Fs : Nat → Fact}
    (hc : checkB l n a0.tmps.size = true)
    (hmono : ∀ i (K K' : Act → World → Prop) a w, (∀ a w, K a w → K' a w) → op i K a w → op i K' a w)
    (hst : ∀ i < n, StabT T n w0 i (Fs i)) (hTd : ∀ i j, i < n → j < n → i ≠ j → ∀ g, T i g → ¬ T j g) (hTl : ∀ j, j < n → ∀ g, T j g → g < w0.heap.size)
    (hop : ∀ i o a w K, i < n → l[i]? = some o → Mod (U T n i) w0 w → (∀ s ∈ o.looksAt l.toArray, look a0 (doneOf l Fs i) s (a.tmps.getD s undef) w) →
      (∀ v w', Mod (T i) w w' → (X i = true → ∀ g, v.ownBlock = some g → T i g ∨ (w.heap.size ≤ g ∧ g < w'.heap.size)) → Fs i v w' → K (a.put o.dst v) w') → op i K a w)
    (hend : ∀ vals w, Mod (UA T n) w0 w → (∀ i j, i < n → j < n → i ≠ j → X i = true → X j = true → ∀ g, (vals i).ownBlock = some g → (vals j).ownBlock ≠ some g) → (∀ i < n, Fs i (vals i) w) → seqG op N (l.length - n) n (frm l a0 vals n) w) :
    ∀ (fuel : Nat) (listed : Array Bool) (vals : Nat → Value) (a : Act) (w : World), unl listed l.length ≤ fuel → InvT T X l n Fs a0 w0 listed vals a w → AnyG op l.toArray N fuel listed a w := by
  simp only [checkB, Bool.and_eq_true, decide_eq_true_eq] at hc
  obtain ⟨⟨⟨⟨⟨hdst, hns⟩, hok⟩, hed⟩, htl⟩, hnl⟩ := hc
  -- all of the head has come up
  have full : ∀ (fuel : Nat) (listed : Array Bool) (vals : Nat → Value) (a : Act) (w : World), unl listed l.length ≤ fuel → InvT T X l n Fs a0 w0 listed vals a w → (∀ i < n, listed.getD i false = true) → AnyG op l.toArray N fuel listed a w := by
    intro fuel listed vals a w hf inv hall
    have hiff : ∀ i, listed.getD i false = true ↔ i < n := fun i => ⟨inv.head i, hall i⟩
    have ha : a = frm l a0 vals n := by
      have h1 : a.tmps = (frm l a0 vals n).tmps := by
        apply Array.ext_getElem?
        intro s
        have hs := inv.slot s n (fun i _ => hiff i)
        have hz : a.tmps.size = (frm l a0 vals n).tmps.size := by rw [frm_size, inv.tsize]
        rcases Nat.lt_or_ge s a.tmps.size with h | h
        · have h' : s < (frm l a0 vals n).tmps.size := by omega
          simp only [Array.getD_eq_getD_getElem?, Array.getElem?_eq_getElem h, Array.getElem?_eq_getElem h', Option.getD_some] at hs
          rw [Array.getElem?_eq_getElem h, Array.getElem?_eq_getElem h', hs]
        · rw [Array.getElem?_eq_none h, Array.getElem?_eq_none (by omega)]
      have h2 : a.defers = (frm l a0 vals n).defers := by rw [frm_defers, inv.dfs]
      cases a; cases hfr : frm l a0 vals n
      rw [hfr] at h1 h2
      simp only at h1 h2
      rw [h1, h2]
    have hcount : ∀ m, n + m ≤ l.length → m ≤ unl listed (n + m) := by
      intro m
      induction m with
      | zero => intro _; omega
      | succ m ih =>
        intro h
        have := ih (by omega)
        rw [show n + (m + 1) = (n + m) + 1 by omega, unl, if_neg (fun h2 => by have := (hiff _).1 h2; omega)]
        omega
    have := hcount (l.length - n) (by omega)
    rw [show n + (l.length - n) = l.length by omega] at this
    rw [ha]
    exact tail_any htl hed hmono (l.length - n) n fuel listed _ w (Nat.le_refl _) (by omega) (by omega) inv.size inv.closed hiff (hend vals w (inv.below.weak fun k _ h h2 => h (by obtain ⟨j, h3, h4⟩ := h2; exact ⟨j, inv.head j h3, h4⟩)) (fun i j hi hj => inv.apt i j (hall i hi) (hall j hj)) (fun i hi => inv.facts i (hall i hi)))
  intro fuel
  induction fuel with
  | zero =>
    intro listed vals a w hf inv
    have hall := unl_zero listed l.length (by omega)
    exact full 0 listed vals a w hf inv (fun i hi => hall i (by omega))
  | succ fuel ih =>
    intro listed vals a w hf inv
    by_cases hall : ∀ i < n, listed.getD i false = true
    · exact full _ listed vals a w hf inv hall
    · obtain ⟨i0, hi0, hun0, hbelow0⟩ := least_unlisted listed n (by
        apply Classical.byContradiction
        intro h
        exact hall fun i hi => Classical.byContradiction fun h2 => h ⟨i, ⟨hi, h2⟩⟩)
      have hr0 := ready_least hed inv.size (show i0 < l.length by omega) hun0 hbelow0
      refine ⟨fun h => (by rw [h] at hr0; cases hr0), fun i hi => ?_⟩
      obtain ⟨hiun, o, ho', hall'⟩ := mem_ready.1 hi
      have ho : l[i]? = some o := by simpa using ho'
      have hil : i < l.length := (List.getElem?_eq_some_iff.1 ho).1
      have hun : ¬ listed.getD i false = true := by rw [getD_both hiun]; simp
      have hin : i < n := by
        rcases Nat.lt_or_ge i n with h | h
        · exact h
        · exact absurd (anc_listed inv.closed i o i0 ho hall' (tailB_spec htl hil h (by omega))) hun0
      -- whoever is not apart and stands ahead has come up; whoever stands behind has not
      have hahead : ∀ j x, j < i → l[j]? = some x → x.apart l.toArray o = false → listed.getD j false = true := fun j x hj hx hap => by
        rcases okB_spec hok hj hx ho with h | h
        · exact anc_listed inv.closed i o j ho hall' h
        · rw [hap] at h; cases h
      have hbehind : ∀ j x, i < j → l[j]? = some x → o.apart l.toArray x = false → ¬ listed.getD j false = true := fun j x hj hx hap hl => by
        rcases okB_spec hok hj ho hx with h | h
        · exact hun (anc_listed inv.closed j x i hx (inv.closed j x hx hl) h)
        · rw [hap] at h; cases h
      refine hop i o a w _ hin ho (inv.below.weak fun k _ h h2 => h (by obtain ⟨j, h3, h4⟩ := h2; exact ⟨j, inv.head j h3, fun e => hun (e ▸ h3), h4⟩)) ?_ ?_
      · intro s hs
        have hcut : ∀ j, (l[j]?).bind (·.dst) = some s → (listed.getD j false = true ↔ j < i) := by
          intro j hj
          cases hx : l[j]? with
          | none => simp [hx] at hj
          | some x =>
            simp [hx] at hj
            constructor
            · intro hl
              rcases Nat.lt_trichotomy j i with h | h | h
              · exact h
              · subst h; exact absurd hl hun
              · refine absurd hl (hbehind j x h hx ?_)
                cases hap : o.apart l.toArray x with
                | false => rfl
                | true => exact absurd hs ((Oper.apart_spec hap).2.2 s hj)
            · intro h
              refine hahead j x h hx ?_
              cases hap : x.apart l.toArray o with
              | false => rfl
              | true => exact absurd hs ((Oper.apart_spec hap).1 s hj)
        rw [inv.slot s i hcut]
        exact look_frm (fun ⟨j, _, hj⟩ => dstB_spec hdst hj) fun j hj hd => inv.facts j ((hcut j hd).2 hj)
      · intro v w' hb hX hF
        let vals' : Nat → Value := fun j => if j = i then v else vals j
        refine ih _ vals' _ w' ?_ ?_
        · have := unl_set_lt listed i (by rw [inv.size]; exact hil) hiun l.length hil
          omega
        · have hset : ∀ j, (listed.setIfInBounds i true).getD j false = true ↔ j = i ∨ listed.getD j false = true := by
            intro j
            by_cases hji : j = i
            · subst hji; simp [inv.size, hil]
            · rw [getD_set_ne false (Ne.symm hji)]; simp [hji]
          refine ⟨by simp [inv.size], ?_, ?_, Keep.trans (inv.below.weak fun k _ h h2 => h (by obtain ⟨j, h3, h4⟩ := h2; exact ⟨j, (hset j).2 (.inr h3), h4⟩)) (hb.weak fun k _ h h2 => h ⟨i, (hset i).2 (.inl rfl), h2⟩) (fun _ _ h => h), by rw [put_defers', inv.dfs], by rw [put_size, inv.tsize], ?_, ?_, ?_, ?_⟩
          · intro j x hx hl e he hbd
            rcases (hset j).1 hl with rfl | hl
            · obtain rfl : x = o := by rw [ho] at hx; exact (Option.some.inj hx).symm
              exact getD_set_true (hall' e he hbd)
            · exact getD_set_true (inv.closed j x hx hl e he hbd)
          · intro j hl
            rcases (hset j).1 hl with rfl | hl
            · exact hin
            · exact inv.head j hl
          · intro j hl
            by_cases hji : j = i
            · subst hji; simp [vals', hF]
            · simp only [vals', if_neg hji]
              have hl' := ((hset j).1 hl).resolve_left hji
              exact hst j (inv.head j hl') i hin (Ne.symm hji) _ _ _ inv.below.size (inv.facts j hl') hb
          · intro j hlj hx g hg
            by_cases hji : j = i
            · subst hji
              simp only [vals', if_true] at hg
              rcases hX hx g hg with h | h
              · exact ⟨by have := hTl j hin g h; have := inv.below.size; have := hb.size; omega, .inl h⟩
              · exact ⟨h.2, .inr (Nat.le_trans inv.below.size h.1)⟩
            · simp only [vals', if_neg hji] at hg
              have h := inv.own j (((hset j).1 hlj).resolve_left hji) hx g hg
              exact ⟨Nat.lt_of_lt_of_le h.1 hb.size, h.2⟩
          · have key : ∀ j, j ≠ i → listed.getD j false = true → X i = true → X j = true → ∀ g, v.ownBlock = some g → (vals j).ownBlock ≠ some g := by
              intro j hji hlj hxi hxj g hg hg2
              have h := inv.own j hlj hxj g hg2
              rcases hX hxi g hg with h1 | h1
              · rcases h.2 with h2 | h2
                · exact hTd i j hin (inv.head j hlj) (Ne.symm hji) g h1 h2
                · have := hTl i hin g h1; omega
              · have := h.1; omega
            intro j1 j2 h1 h2 hne hx1 hx2 g hg1 hg2
            by_cases e1 : j1 = i
            · subst e1
              simp only [vals', if_true, if_neg (Ne.symm hne)] at hg1 hg2
              exact key j2 (Ne.symm hne) (((hset j2).1 h2).resolve_left (Ne.symm hne)) hx1 hx2 g hg1 hg2
            · by_cases e2 : j2 = i
              · subst e2
                simp only [vals', if_true, if_neg e1] at hg1 hg2
                exact key j1 e1 (((hset j1).1 h1).resolve_left e1) hx2 hx1 g hg2 hg1
              · simp only [vals', if_neg e1, if_neg e2] at hg1 hg2
                exact inv.apt j1 j2 (((hset j1).1 h1).resolve_left e1) (((hset j2).1 h2).resolve_left e2) hne hx1 hx2 g hg1 hg2
          · intro s k hcut
            by_cases hs : o.dst = some s
            · -- i is the last writer of s ahead of k
              have hd : (l[i]?).bind (·.dst) = some s := by simp [ho, hs]
              have hik : i < k := (hcut i hd).1 ((hset i).2 (.inl rfl))
              have hlast : ∀ j, i < j → j < k → (l[j]?).bind (·.dst) ≠ some s := by
                intro j hj hjk hdj
                cases hx : l[j]? with
                | none => simp [hx] at hdj
                | some x =>
                  simp [hx] at hdj
                  have h1 := (hset j).1 ((hcut j (by simp [hx, hdj])).2 hjk)
                  rcases h1 with h1 | h1
                  · omega
                  · refine hbehind j x hj hx ?_ h1
                    cases hap : o.apart l.toArray x with
                    | false => rfl
                    | true => exact absurd hdj ((Oper.apart_spec hap).2.1 s hs)
              have hfr : ∀ m, i < m → m ≤ k → (frm l a0 vals' m).tmps.getD s undef = ((frm l a0 vals' i).put (some s) v).tmps.getD s undef := by
                intro m
                induction m with
                | zero => intro h; omega
                | succ m ihm =>
                  intro h1 h2
                  by_cases hmi : m = i
                  · subst hmi; simp only [frm, hd]; simp [vals']
                  · simp only [frm]
                    rw [put_other _ _ _ _ (hlast m (by omega) (by omega))]
                    exact ihm (by omega) (by omega)
              rw [hfr k hik (Nat.le_refl _), hs]
              exact put_same _ _ _ _ (by rw [frm_size, inv.tsize])
            · rw [put_other _ _ _ _ hs]
              have hne : (l[i]?).bind (·.dst) ≠ some s := by simp [ho, hs]
              rw [inv.slot s k (fun j hj => by
                have h1 := hcut j hj
                rw [hset j] at h1
                have hji : j ≠ i := fun e => hne (e ▸ hj)
                simpa [hji] using h1)]
              exact frm_congr fun j _ hj => by
                have hji : j ≠ i := fun e => hne (e ▸ hj)
                simp [vals', hji]
theorem wpOpIn_of_obligT {T : Nat → Nat → Prop} {X : Nat → Bool} {N : Nat} {l : List Oper} {a0 : Act} {w0 : World} {done : Done} {F : Fact} {i : Nat} {o : Oper} {a : Act} {w : World} {K : Act → World → Prop} (hnd : ∀ c, o.op ≠ .defer c) (ho : l[i]? = some o)
    (hob : ObligT T X N P l.toArray a0 w0 i done o F) (hb : Mod (U T N i) w0 w) (hs : ∀ s ∈ o.looksAt l.toArray, look a0 done s (a.tmps.getD s undef) w)
    (hK : ∀ v w', Mod (T i) w w' → (X i = true → ∀ g, v.ownBlock = some g → T i g ∨ (w.heap.size ≤ g ∧ g < w'.heap.size)) → F v w' → K (a.put o.dst v) w') : wpOpIn (Fence.wide.inRound r) 0 P l.toArray Q i K a w := by
  have h := hob a.eval w (Env.of_act a) hb hs
  unfold wpOpIn
  simp only [List.getElem?_toArray, ho]
  rw [yielded_eq]
  split
  · rename_i hw
    rw [if_pos hw] at h
    refine ⟨fun _ _ => trivial, ?_⟩
    rw [Oper.semAt_eq _ _ _ hnd]
    generalize (execOp a.eval o).run P w = q at h
    cases q with
    | ok x w' =>
      cases x <;> simp only [uponT] at h <;> simp only [Oper.uponIn]
      case value v => exact hK _ _ h.1 h.2.2 h.2.1
      case skip => exact hK _ _ h.1 (fun _ g hg => by cases hg) h.2
      case enter f args =>
        obtain ⟨h1, h2⟩ := h
        refine ⟨fun hd => (by cases hd), CallsIn.inRound r (callsIn_wide.2 (h2.mono ?_))⟩
        rintro e w'' ⟨v, rfl, h3, h4, h5⟩
        exact hK _ _ (Mod.trans h1 h3) h5 h4
    | halt x w' => simp only [uponT] at h
  · rename_i hw
    rw [if_neg hw] at h
    exact ⟨fun _ _ => trivial, hK _ _ (Keep.refl _ _) (fun _ g hg => by cases hg) h⟩
theorem wpIn_region_freeT {T : Nat → Nat → Prop} {X : Nat → Bool} (s1 s2 i1 i2 : Nat) {id : Nat} {l : List Oper} {a0 : Act} {w0 : World} (n : Nat) (hm : P.follows .mixedOrders = true) (hc : checkB l n a0.tmps.size = true) (hd : noDefer l = true)
    (hdj : ∀ i j, i < n → j < n → i ≠ j → ∀ g, T i g → ¬ T j g) (hlw : ∀ j, j < n → ∀ g, T j g → g < w0.heap.size) (hx1 : X i1 = true) (hx2 : X i2 = true) (hi12 : i1 < n ∧ i2 < n ∧ i1 ≠ i2) (hu1 : lastB l n i1 s1 a0.tmps.size = true) (hu2 : lastB l n i2 s2 a0.tmps.size = true)
    (h : ChainT T X n P l.toArray a0 w0 (fun rest a w => AptS s1 s2 a → wpListIn (Fence.wide.inRound r) 0 P l.toArray Q rest a w) n 0 [] l) : (Code.region id l.toArray true).wpIn (Fence.wide.inRound r) 0 P Q a0 w0 := by
  obtain ⟨Fs, h1, h2, h3⟩ := chain_outT (l := l) n 0 (fun _ _ _ => False) (fun i hi => by omega) (fun i hi => by omega) h
  have hn : n ≤ l.length := by
    simp only [checkB, Bool.and_eq_true, decide_eq_true_eq] at hc
    exact hc.2
  simp only [Nat.zero_add] at h1 h2 h3
  refine wpIn_region_any hm ?_
  have e : wpAnyIn (Fence.wide.inRound r) 0 P .any l.toArray Q l.toArray.size (Array.replicate l.toArray.size false) a0 { w0 with drawn := w0.drawn + 1 } =
      AnyG (fun i K => wpOpIn (Fence.wide.inRound r) 0 P l.toArray Q i K) l.toArray (Q .normal) l.toArray.size (Array.replicate l.toArray.size false) a0 { w0 with drawn := w0.drawn + 1 } := by rw [anyG_in]
  rw [e]
  have hrep : ∀ j, (Array.replicate l.toArray.size false).getD j false = false := fun j => by
    rcases Nat.lt_or_ge j l.length with h | h
    · simp [h]
    · simp [h]
  refine head_anyT (op := fun i K => wpOpIn (Fence.wide.inRound r) 0 P l.toArray Q i K) (N := Q .normal) (l := l) (Fs := Fs) (vals := fun _ => undef) hc (fun i K K' a w h => wpOpIn_mono h) h1 hdj hlw (fun i o a w K hi ho hb hs hK => wpOpIn_of_obligT (a := a) (w := w) (K := K) (noDefer_spec hd ho) ho (h2 i hi o ho) hb hs hK) ?_ _ _ _ _ ?_ ?_
  · intro vals w hb hap hv
    rw [seq_wpListIn _ _ (by omega)]
    exact ends_out a0 n hv (h3 w hb) (fun g hg => by rw [last_spec hu1 rfl] at hg; rw [last_spec hu2 rfl]; exact hap i1 i2 hi12.1 hi12.2.1 hi12.2.2 hx1 hx2 g hg)
  · have : ∀ k, unl (Array.replicate l.toArray.size false) k ≤ k := by
      intro k
      induction k with
      | zero => exact Nat.le_refl _
      | succ k ih => simp only [unl]; split <;> omega
    simpa using this l.length
  · refine ⟨by simp, fun i o _ hl => (by rw [hrep] at hl; cases hl), fun i hl => (by rw [hrep] at hl; cases hl), ⟨rfl, rfl, rfl, Nat.le_refl _, fun _ _ _ => rfl⟩, rfl, rfl, fun i hl => (by rw [hrep] at hl; cases hl), fun i hl => (by rw [hrep] at hl; cases hl), fun i j hl => (by rw [hrep] at hl; cases hl), ?_⟩
    intro s k hcut
    have : ∀ j < k, (l[j]?).bind (·.dst) ≠ some s := fun j hj hd => by
      have := (hcut j hd).2 hj
      rw [hrep] at this; cases this
    have key : ∀ m ≤ k, (frm l a0 (fun _ => undef) m).tmps.getD s undef = a0.tmps.getD s undef := by
      intro m
      induction m with
      | zero => intro _; rfl
      | succ m ih => intro hm; simp only [frm]; rw [put_other _ _ _ _ (this m (by omega))]; exact ih (by omega)
    rw [key k (Nat.le_refl _)]
end
section
variable {P : Program} {T : Nat → Nat → Prop} {X : Nat → Bool} {N : Nat}
theorem chainT_val {ops : Array Oper} {a0 : Act} {w0 : World} {E : List Oper → Act → World → Prop} {n k : Nat} {done : Done} {o : Oper} {rest : List Oper} {S : List Tmp} (c : Value) (hx : X k = false)
    (hS : o.looksAt ops = S)
    (h : ∀ ρ w, Env ρ → Mod (U T N k) w0 w → (∀ s ∈ S, look a0 done s (ρ (.tmp s)) w) → if Region.wanted o (yieldedR ops ρ) then (execOp ρ o).run P w = .ok (.value c) w else undef = c)
    (hr : ChainT T X N P ops a0 w0 E n (k + 1) ((o.dst, fun v _ => v = c) :: done) rest) : ChainT T X N P ops a0 w0 E (n + 1) k done (o :: rest) := by
  refine ⟨_, stabT_eq T N w0 k c, fun ρ w hE hB hs => ?_, hr⟩
  have h' := h ρ w hE hB (by rw [← hS]; exact hs)
  split
  · rename_i hw
    rw [if_pos hw] at h'
    rw [h']
    exact ⟨Keep.refl _ _, rfl, fun h => (by rw [hx] at h; cases h)⟩
  · rename_i hw
    rw [if_neg hw] at h'
    exact h'
theorem chainT_make {ops : Array Oper} {a0 : Act} {w0 : World} {E : List Oper → Act → World → Prop} {n k : Nat} {done : Done} {o : Oper} {rest : List Oper} {S : List Tmp} (F : Fact) (hx : X k = false) (hst : StabT T N w0 k F)
    (hS : o.looksAt ops = S)
    (h : ∀ ρ w, Env ρ → Mod (U T N k) w0 w → (∀ s ∈ S, look a0 done s (ρ (.tmp s)) w) → Region.wanted o (yieldedR ops ρ) = true ∧ ∃ v w', (execOp ρ o).run P w = .ok (.value v) w' ∧ Mod (T k) w w' ∧ F v w')
    (hr : ChainT T X N P ops a0 w0 E n (k + 1) ((o.dst, F) :: done) rest) : ChainT T X N P ops a0 w0 E (n + 1) k done (o :: rest) := by
  refine ⟨F, hst, fun ρ w hE hB hs => ?_, hr⟩
  obtain ⟨hw, v, w', hrun, h1, h2⟩ := h ρ w hE hB (by rw [← hS]; exact hs)
  rw [if_pos hw, hrun]
  exact ⟨h1, h2, fun h => (by rw [hx] at h; cases h)⟩
/-- a row of the call's own behind an append: it lies in the blocks that may be written, or anew -/
def ApF (w0 : World) (Tk : Nat → Prop) (base : Nat) (e : TypeId) (kk : IntKind) (xs : List Int) : Fact := fun v w => ∃ A n c, v = .slice A n c ∧ Owns w base e kk A n c xs ∧ ∀ g, (Value.slice A n c).ownBlock = some g → Tk g ∨ w0.heap.size ≤ g
theorem ApF.stab {w0 : World} {k : Nat} {base : Nat} {e : TypeId} {kk : IntKind} {xs : List Int} (hd : ∀ j, j < N → j ≠ k → ∀ g, T k g → ¬ T j g) (hl : ∀ j, j < N → ∀ g, T j g → g < w0.heap.size) : StabT T N w0 k (ApF w0 (T k) base e kk xs) := by
  rintro j hj hjk v w w' hw ⟨A, n, c, rfl, ho, hg⟩ hm
  refine ⟨A, n, c, rfl, owns_keep ho hm (fun g e _ => ?_), hg⟩
  rcases hg g e with h | h
  · exact hd j hj hjk g h
  · intro h2; have := hl j hj g h2; omega
theorem chainT_append {ops : Array Oper} {a0 : Act} {w0 : World} {E : List Oper → Act → World → Prop} {n k : Nat} {done : Done} {o : Oper} {rest : List Oper} {S : List Tmp} {base : Nat} {e t : TypeId} {kk : IntKind} {xs ys : List Int} {z : Value} {bytes : Nat} {s x : Tmp}
    (hd : ∀ j, j < N → j ≠ k → ∀ g, T k g → ¬ T j g) (hl : ∀ j, j < N → ∀ g, T j g → g < w0.heap.size)
    (ht : ElemT P t e z 1 bytes) (ho : o.op = .call { callee := .builtin .append, args := #[.tmp s, .tmp x], argTypes := #[t, t] }) (hS : o.looksAt ops = S) (hbase : base ≤ w0.heap.size)
    (h : ∀ ρ w, Env ρ → Mod (U T N k) w0 w → (∀ s ∈ S, look a0 done s (ρ (.tmp s)) w) → Region.wanted o (yieldedR ops ρ) = true ∧
      (∃ A n c, ρ (.tmp s) = .slice A n c ∧ Owns w base e kk A n c xs ∧ ∀ g, (Value.slice A n c).ownBlock = some g → T k g) ∧ RdF kk ys (ρ (.tmp x)) w)
    (hbytes : (xs.length + ys.length) * bytes ≤ 140737488355328) (h63 : xs.length + ys.length ≤ 9223372036854775807)
    (hr : ChainT T X N P ops a0 w0 E n (k + 1) ((o.dst, ApF w0 (T k) base e kk (xs ++ ys)) :: done) rest) : ChainT T X N P ops a0 w0 E (n + 1) k done (o :: rest) := by
  refine ⟨ApF w0 (T k) base e kk (xs ++ ys), ApF.stab hd hl, fun ρ w hE hB hs => ?_, hr⟩
  obtain ⟨hw, ⟨A, n, c, e1, h1, h2⟩, A', m, c', e2, h3⟩ := h ρ w hE hB (by rw [← hS]; exact hs)
  have hn : xs.length = n := row_len h1
  have hm : ys.length = m := h3.len
  subst hn hm
  obtain ⟨A2, c2, w', hrun, hown, hgr, hat⟩ := run_append_r (P := P) w ht o.type base _ _ _ h1 A' _ c' _ h3.toV ints_one hbytes h63 (Nat.le_trans hbase hB.size)
  have hrun2 : (execOp ρ o).run P w = .ok (.value (.slice A2 (xs.length + ys.length) c2)) w' := by
    unfold execOp
    simp only [ho, resolve, invoke, builtin, Sem.run_bind, Sem.run_pure, Result.andThen_ok, List.map_toArray, List.map_cons, List.map_nil, e1, e2, hrun]
  rw [if_pos hw, hrun2]
  refine ⟨Keep.grown hgr (fun g hg hn => hn (h2 g hg)), ⟨A2, _, c2, rfl, owns_app hown, fun g hg => ?_⟩, fun _ g hg => ?_⟩
  · rcases hat with h | h
    · exact .inl (h2 g (h.symm.trans hg))
    · rw [h] at hg; cases hg; exact .inr hB.size
  · rcases hat with h | h
    · exact .inl (h2 g (h.symm.trans hg))
    · have := (hown.lt g hg).2
      rw [h] at hg; cases hg; exact .inr ⟨Nat.le_refl _, this⟩
end
end Go.Free.T

namespace Go.Cor
open Go Go.RowKit
/-- a row that is not empty, of the call's own -/
theorem owns_addr {w : World} {B : Nat} {E : TypeId} {k : IntKind} {A : Option Addr} {n c : Nat} {xs : List Int} (h : Owns w B E k A n c xs) (hn : 0 < n) : ∃ g, A = some ⟨g, 0, none⟩ ∧ B ≤ g ∧ g < w.heap.size := by
  rcases h.2 with ⟨h1, h2⟩ | ⟨g, cap, cur, h1, hB, hg, _⟩
  · omega
  · injection h1 with e1 e2 e3
    exact ⟨g, e1, hB, lt_of_block hg⟩
end Go.Cor
