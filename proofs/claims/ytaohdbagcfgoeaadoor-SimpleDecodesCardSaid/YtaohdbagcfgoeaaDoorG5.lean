/-
  append, by laws that take a source that may be nil, and hand the new slice over in its own form; plain and fenced.
-/
import Derived.OwnWalk
import Derived.OwnWalkIn
import Derived.Laws.Concat
import Derived.Test.YtaohdbagcfgoeaaDoorG4
namespace Go.Cor
open Go Go.RowKit

/-- what the program's tables say of a slice type t and its element type e -/
structure ElemT (P : Program) (t e : TypeId) (z : Value) (size bytes : Nat) : Prop where
  und : P.underlying t = some (.slice e)
  info : (P.info? e).map (fun i => (i.zero, i.size, i.bytes)) = some (some z, size, bytes)
  zs : z.cells.size = size
  pos : 0 < size

/-- a slice value reads as cells -/
structure RdV (w : World) (size : Nat) (A : Option Addr) (n c : Nat) (vs : List Value) : Prop where
  len : vs.length = n * size
  cap : n ≤ c
  max : c ≤ maxLen
  nil : A = none → c = 0
  get : 0 < n → ∃ b o, A = some ⟨b, o, none⟩ ∧ b < w.heap.size ∧ ∀ j u, vs[j]? = some u → w.cell? ⟨b, o + j, none⟩ = some u

theorem Rd.toV {w : World} {k : IntKind} {A : Option Addr} {n c : Nat} {xs : List Int} (h : Rd w k A n c xs) : RdV w 1 A n c (xs.map (.int k)) :=
  ⟨by simp [h.len], h.cap, h.max, h.nil, fun hn => by
    obtain ⟨b, o, had, hb, hc⟩ := h.get hn
    refine ⟨b, o, had, hb, fun j u hu => ?_⟩
    have hj : j < xs.length := by have := (List.getElem?_eq_some_iff.1 hu).1; simpa using this
    rw [hc j (by have := h.len; omega)]
    rw [List.getElem?_map, List.getElem?_eq_getElem hj] at hu
    simp at hu
    simp [List.getElem?_eq_getElem hj, hu]⟩
theorem RdV.keep {w w' : World} {size : Nat} {A : Option Addr} {n c : Nat} {vs : List Value} (h : RdV w size A n c vs) (hs : w.heap.size ≤ w'.heap.size) (hk : ∀ b, b < w.heap.size → (∃ o, A = some ⟨b, o, none⟩) → w'.heap[b]? = w.heap[b]?) : RdV w' size A n c vs :=
  ⟨h.len, h.cap, h.max, h.nil, fun hn => by
    obtain ⟨b, o, had, hb, hc⟩ := h.get hn
    exact ⟨b, o, had, by omega, fun j u hu => by rw [World.cell?_of_block (w := w) (w' := w') (a := ⟨b, o + j, none⟩) (hk b hb ⟨o, had⟩)]; exact hc j u hu⟩⟩
theorem RdV.below {w w' : World} {size : Nat} {A : Option Addr} {n c : Nat} {vs : List Value} (h : RdV w size A n c vs) (hb : Below w.heap.size w w') : RdV w' size A n c vs := h.keep hb.size fun b hlt _ => hb.block b hlt
theorem RdV.own {w : World} {B : Nat} {E : TypeId} {size : Nat} {A : Option Addr} {n c : Nat} {vs : List Value} (h : w.ownsRow B E size (.slice A n c) n vs) : RdV w size A n c vs := by
  rcases h.2 with ⟨hv, rfl⟩ | ⟨g, cap, cur, hv, hB, hg, hnc, hcm, hcs, ht⟩
  · injection hv with h1 h2 h3; subst h1 h3
    exact ⟨h.1, Nat.le_refl _, by simp [maxLen], fun _ => rfl, fun h => by omega⟩
  · injection hv with h1 h2 h3; subst h1 h3
    refine ⟨h.1, hnc, hcm, fun h => (by cases h), fun _ => ?_⟩
    refine ⟨g, 0, rfl, (Array.getElem?_eq_some_iff.1 hg).1, fun j u hu => ?_⟩
    have := h.cells (g := g) rfl j u hu
    simpa [Addr.add_lit] using this
theorem RdV.one {w : World} {g : Nat} {u : Value} {t : TypeId} (h : Box w g t u) : RdV w 1 (some ⟨g, 0, none⟩) 1 1 [u] :=
  ⟨rfl, Nat.le_refl _, by simp [maxLen], fun h => (by cases h), fun _ => by
    refine ⟨g, 0, rfl, lt_of_block h, fun j u' hu => ?_⟩
    cases j with
    | zero => simp at hu; subst hu; simpa using cell_of_one h
    | succ j => simp at hu⟩

section
variable {P : Program} (w : World)
theorem run_append_nil_src (base : Nat) (t ty e : TypeId) (i : TypeInfo) (size : Nat) (ht : P.underlying t = some (.slice e)) (hi : P.info? e = some i)
    (v : Value) (n : Nat) (xs : List Value) (hown : w.ownsRow base e size v n xs) (c : Nat) : (Builtin.append_ #[t, t] ty #[v, .slice none 0 c]).run P w = .ok v w := by
  rcases hown.2 with ⟨rfl, rfl⟩ | ⟨g, cap, cur, rfl, _, _, hnc, _⟩
  · simp [Builtin.append_, run_underlying ht, sizeOf, typeInfo, hi, Builtin.lenOf, Builtin.firstCells]
  · simp [Builtin.append_, run_underlying ht, sizeOf, typeInfo, hi, Builtin.lenOf, Builtin.firstCells, hnc, storeCells]

theorem owns_form {base : Nat} {e : TypeId} {size : Nat} {v : Value} {n : Nat} {xs : List Value} (h : w.ownsRow base e size v n xs) : ∃ A c, v = .slice A n c := by
  rcases h.2 with ⟨rfl, rfl⟩ | ⟨g, cap, cur, rfl, _⟩
  · exact ⟨none, 0, rfl⟩
  · exact ⟨_, _, rfl⟩

theorem run_append_r {t e : TypeId} {z : Value} {size bytes : Nat} (ht : ElemT P t e z size bytes) (ty : TypeId) (base : Nat)
    (v : Value) (n : Nat) (xs : List Value) (hown : w.ownsRow base e size v n xs)
    (A : Option Addr) (m c : Nat) (news : List Value) (hr : RdV w size A m c news) (h1 : ∀ u ∈ news, u.oneCell' = true)
    (hbytes : (n + m) * bytes ≤ 140737488355328) (h63 : n + m ≤ 9223372036854775807) (hbase : base ≤ w.heap.size) :
    ∃ A' c' w', (Builtin.append_ #[t, t] ty #[v, .slice A m c]).run P w = .ok (.slice A' (n + m) c') w' ∧ w'.ownsRow base e size (.slice A' (n + m) c') (n + m) (xs ++ news) ∧ w.grownBy w' v.ownBlock ∧
      ((Value.slice A' (n + m) c').ownBlock = v.ownBlock ∨ (Value.slice A' (n + m) c').ownBlock = some w.heap.size) := by
  obtain ⟨i, hi, hz, hsize, hby⟩ := info_parts ht.info
  cases A with
  | none =>
    have hc := hr.nil rfl
    have hm : m = 0 := by have := hr.cap; omega
    subst hm
    have hn : news = [] := List.eq_nil_of_length_eq_zero (by simpa using hr.len)
    subst hn
    have hrun := run_append_nil_src (P := P) w base t ty e i size ht.und hi v n xs hown c
    obtain ⟨A', c', rfl⟩ := owns_form w hown
    exact ⟨A', c', w, hrun, by simpa using hown, World.grownBy.refl w _, .inl rfl⟩
  | some ad =>
    have hcell : ∀ j u, news[j]? = some u → w.cell? (ad.add j) = some u := by
      intro j u hu
      rcases Nat.eq_zero_or_pos m with h0 | h0
      · subst h0
        have hn : news = [] := List.eq_nil_of_length_eq_zero (by simpa using hr.len)
        subst hn; simp at hu
      · obtain ⟨b, o, had, _, hcell⟩ := hr.get h0
        injection had with had; subst had
        rw [Addr.add_lit]; exact hcell j u hu
    obtain ⟨v', w', hrun, h2, h3, _, h5⟩ := run_append_own_at (P := P) w base t ty e i z size bytes ht.und hi hz hsize hby ht.zs ht.pos v n xs hown ad m c news hr.len
      hcell h1 (by unfold maxLen; omega) hbytes hbase
    obtain ⟨A', c', rfl⟩ := owns_form w' h2
    exact ⟨A', c', w', hrun, h2, h3, h5⟩
end

/-- what is left to show behind an append -/
def Appended (w : World) (base : Nat) (e : TypeId) (size : Nat) (v : Value) (n : Nat) (xs : List Value) (K : Value → World → Prop) : Prop :=
  ∀ A' c' w', w'.ownsRow base e size (.slice A' n c') n xs → w.grownBy w' v.ownBlock → ((Value.slice A' n c').ownBlock = v.ownBlock ∨ (Value.slice A' n c').ownBlock = some w.heap.size) → K (.slice A' n c') w'

theorem wpList_append_r {P : Program} {w : World} {ops : Array Oper} {rest : List Oper} {o : Oper} {a : Act} {Q : Exit → Act → World → Prop} (hgd : o.guard = none) {s x : Operand} {t : TypeId}
    (ho : o.op = .call { callee := .builtin .append, args := #[s, x], argTypes := #[t, t] })
    {e : TypeId} {z : Value} {size bytes : Nat} (ht : ElemT P t e z size bytes) {base : Nat}
    {v : Value} {n : Nat} {xs : List Value} (hown : w.ownsRow base e size v n xs) (hs : a.eval s = v)
    {A : Option Addr} {m c : Nat} {news : List Value} (hr : RdV w size A m c news) (hx : a.eval x = .slice A m c) (h1 : ∀ u ∈ news, u.oneCell' = true)
    (hbytes : (n + m) * bytes ≤ 140737488355328) (h63 : n + m ≤ 9223372036854775807) (hbase : base ≤ w.heap.size)
    (h : Appended w base e size v (n + m) (xs ++ news) fun v' w' => wpList P ops Q rest (a.put o.dst v') w') : wpList P ops Q (o :: rest) a w := by
  refine wpList_plain hgd fun K hK => ?_
  obtain ⟨A', c', w', hrun, h2, h3, h4⟩ := run_append_r (P := P) w ht o.type base v n xs hown A m c news hr h1 hbytes h63 hbase
  unfold Oper.wp execOp
  simp only [ho, resolve, invoke, builtin, Sem.run_bind, Sem.run_pure, Result.andThen_ok, List.map_toArray, List.map_cons, List.map_nil, hs, hx, hrun]
  exact hK _ _ (h A' c' w' h2 h3 h4)

theorem wpListIn_append_r {F : Fence} {N : Nat} {P : Program} {w : World} {ops : Array Oper} {rest : List Oper} {o : Oper} {a : Act} {Q : Exit → Act → World → Prop} (hgd : o.guard = none) {s x : Operand} {t : TypeId}
    (ho : o.op = .call { callee := .builtin .append, args := #[s, x], argTypes := #[t, t] })
    {e : TypeId} {z : Value} {size bytes : Nat} (ht : ElemT P t e z size bytes) {base : Nat}
    {v : Value} {n : Nat} {xs : List Value} (hown : w.ownsRow base e size v n xs) (hs : a.eval s = v)
    {A : Option Addr} {m c : Nat} {news : List Value} (hr : RdV w size A m c news) (hx : a.eval x = .slice A m c) (h1 : ∀ u ∈ news, u.oneCell' = true)
    (hbytes : (n + m) * bytes ≤ 140737488355328) (h63 : n + m ≤ 9223372036854775807) (hbase : base ≤ w.heap.size)
    (h : Appended w base e size v (n + m) (xs ++ news) fun v' w' => wpListIn F N P ops Q rest (a.put o.dst v') w') : wpListIn F N P ops Q (o :: rest) a w := by
  refine wpListIn_plain hgd fun K hK => ?_
  obtain ⟨A', c', w', hrun, h2, h3, h4⟩ := run_append_r (P := P) w ht o.type base v n xs hown A m c news hr h1 hbytes h63 hbase
  unfold Oper.wpIn
  refine ⟨?_, ?_⟩
  · simp [Oper.about, ho, resolve, Target.leads, Sem.run_pure]
  · rw [Oper.semAt_plain F _ _ (by rw [ho]; intro c hc'; cases hc')]
    simp [execOp, ho, resolve, invoke, builtin, hs, hx, hrun, Result.andThen]
    exact hK _ _ (h A' c' w' h2 h3 h4)

theorem ints_one {k : IntKind} {xs : List Int} : ∀ u ∈ xs.map (Value.int k), u.oneCell' = true := ints_oneCell k xs
theorem one_one {k : IntKind} {x : Int} : ∀ u ∈ [Value.int k x], u.oneCell' = true := by intro u hu; simp at hu; subst hu; rfl
theorem owns_snoc {w : World} {B : Nat} {E : TypeId} {k : IntKind} {v : Value} {n : Nat} {xs : List Int} {x : Int} (h : w.ownsRow B E 1 v (n + 1) (xs.map (.int k) ++ [.int k x])) : w.ownsRow B E 1 v (n + 1) ((xs ++ [x]).map (.int k)) := by simpa using h
theorem owns_app {w : World} {B : Nat} {E : TypeId} {k : IntKind} {v : Value} {n : Nat} {xs ys : List Int} (h : w.ownsRow B E 1 v n (xs.map (.int k) ++ ys.map (.int k))) : w.ownsRow B E 1 v n ((xs ++ ys).map (.int k)) := by simpa using h
theorem owns_nil (w : World) (B : Nat) (E : TypeId) (k : IntKind) : w.ownsRow B E 1 (.slice none 0 0) 0 (([] : List Int).map (.int k)) := World.ownsRow_nil w B E 1
/-- the empty slice that a literal makes -/
theorem owns_lit0 {w : World} {B : Nat} {E : TypeId} {size : Nat} (h : B ≤ w.heap.size) : (w.alloc (.cells #[] E)).ownsRow B E size (.slice (some ⟨w.heap.size, 0, none⟩) 0 0) 0 [] :=
  ⟨by simp, .inr ⟨w.heap.size, 0, #[], rfl, h, heap_alloc_new w _, Nat.le_refl _, by simp [maxLen], by simp, by simp⟩⟩
theorem owns_lit1 {w : World} {B : Nat} {E : TypeId} {u : Value} (h : B ≤ w.heap.size) : (w.alloc (.cells #[u] E)).ownsRow B E 1 (.slice (some ⟨w.heap.size, 0, none⟩) 1 1) 1 [u] :=
  ⟨by simp, .inr ⟨w.heap.size, 1, #[u], rfl, h, heap_alloc_new w _, Nat.le_refl _, by simp [maxLen], by simp, by simp⟩⟩
theorem own_far {w : World} {B : Nat} {E : TypeId} {size : Nat} {v : Value} {n : Nat} {xs : List Value} (h : w.ownsRow B E size v n xs) {g : Nat} (hg : g < B) : v.ownBlock ≠ some g := fun e => by have := (h.lt g e).1; omega
/-- behind an append onto a row of the call's own: what lay below is as it was -/
theorem below_grown {w0 w w' : World} {B : Nat} {v : Value} {E : TypeId} {size n : Nat} {xs : List Value} (hb : Below B w0 w) (hown : w.ownsRow B E size v n xs) (hg : w.grownBy w' v.ownBlock) (hB : B ≤ w.heap.size) : Below B w0 w' :=
  hb.grown hg hB fun k hk => (hown.lt k hk).1
/-- the block of an owned row holds cells -/
theorem owns_cells {w : World} {B : Nat} {E : TypeId} {size : Nat} {v : Value} {n : Nat} {xs : List Value} (h : w.ownsRow B E size v n xs) {g : Nat} (hg : v.ownBlock = some g) : ¬ NonCell w g := by
  rcases h.2 with ⟨rfl, _⟩ | ⟨g', cap, cur, rfl, _, hh, _⟩
  · simp [Value.ownBlock] at hg
  · simp [Value.ownBlock] at hg
    subst hg
    exact fun ⟨o, ho, hc⟩ => by rw [hh] at ho; cases ho; simp [Obj.isCells] at hc
theorem Box.grown {w w' : World} {b : Nat} {t : TypeId} {u : Value} {row : Option Nat} (h : Box w b t u) (hg : w.grownBy w' row) (hne : row ≠ some b) : Box w' b t u := (hg.block b (lt_of_block h) (fun e => hne e.symm)).trans h
/-- the new slice of an append lies where the old one lay, or in a new block -/
theorem own_ne {v v' : Value} {w : World} {b : Nat} (hat : v'.ownBlock = v.ownBlock ∨ v'.ownBlock = some w.heap.size) (h : v.ownBlock ≠ some b) (hb : b < w.heap.size) : v'.ownBlock ≠ some b := by
  rcases hat with e | e <;> rw [e]
  · exact h
  · intro e; injection e; omega
/-- the slice that a literal makes -/
theorem Rd.lit (w : World) (E : TypeId) (k : IntKind) (xs : List Int) (h : xs.length ≤ maxLen := by decide) : Rd (w.alloc (.cells (xs.map (.int k)).toArray E)) k (some ⟨w.heap.size, 0, none⟩) xs.length xs.length xs :=
  ⟨rfl, Nat.le_refl _, h, fun h => (by cases h), fun _ => by
    refine ⟨w.heap.size, 0, rfl, by simp, fun i hi => ?_⟩
    have := cell_of_row (w.alloc (.cells (xs.map (.int k)).toArray E)) w.heap.size (0 + i) _ E (0, 0) (heap_alloc_new w _)
    rw [this]
    simp [hi]⟩
theorem strOfNums_append (xs ys : List Int) : strOfNums (xs ++ ys) = strOfNums xs ++ strOfNums ys := by
  simp only [strOfNums, List.map_append]
  exact (ByteArray.mk_append_mk _ _).symm
theorem strOfNums_inj {xs ys : List Int} (hx : ∀ x ∈ xs, 0 ≤ x ∧ x ≤ 255) (hy : ∀ x ∈ ys, 0 ≤ x ∧ x ≤ 255) (h : strOfNums xs = strOfNums ys) : xs = ys := by
  have h1 : xs.map (fun n => UInt8.ofNat n.toNat) = ys.map (fun n => UInt8.ofNat n.toNat) := by
    rw [← strOfNums_data, ← strOfNums_data, h]
  clear h
  induction xs generalizing ys with
  | nil => cases ys with
    | nil => rfl
    | cons y ys => simp at h1
  | cons x xs ih =>
    cases ys with
    | nil => simp at h1
    | cons y ys =>
      simp only [List.map_cons, List.cons.injEq] at h1
      have hx' := hx x (by simp)
      have hy' := hy y (by simp)
      have e : x.toNat = y.toNat := by
        have := congrArg UInt8.toNat h1.1
        simp only [UInt8.toNat_ofNat'] at this
        omega
      rw [ih (fun z hz => hx z (by simp [hz])) (fun z hz => hy z (by simp [hz])) h1.2, show x = y by omega]

/-- append onto the empty slice that a literal made: new memory, or nothing -/
theorem run_append_cap0 {P : Program} {w : World} {t e : TypeId} {z : Value} {size bytes : Nat} (ht : ElemT P t e z size bytes) (ty : TypeId) {base : Nat}
    {g : Nat} (hbg : base ≤ g) (hblk : w.heap[g]? = some (.cells #[] e (0, 0)))
    {A : Option Addr} {m c : Nat} {news : List Value} (hr : RdV w size A m c news)
    (hbytes : m * bytes ≤ 140737488355328) (h63 : m ≤ 9223372036854775807) (hbase : base ≤ w.heap.size) :
    ∃ A' c' w', (Builtin.append_ #[t, t] ty #[.slice (some ⟨g, 0, none⟩) 0 0, .slice A m c]).run P w = .ok (.slice A' m c') w' ∧ w'.ownsRow base e size (.slice A' m c') m news ∧ Below w.heap.size w w' := by
  have hown0 : w.ownsRow base e size (.slice (some ⟨g, 0, none⟩) 0 0) 0 [] := ⟨by simp, .inr ⟨g, 0, #[], rfl, hbg, hblk, Nat.le_refl _, by simp [maxLen], by simp, by simp⟩⟩
  obtain ⟨i, hi, hz, hsize, hby⟩ := info_parts ht.info
  cases A with
  | none =>
    have hc := hr.nil rfl
    have hm : m = 0 := by have := hr.cap; omega
    subst hm
    have hn : news = [] := List.eq_nil_of_length_eq_zero (by simpa using hr.len)
    subst hn
    exact ⟨_, _, w, run_append_nil_src (P := P) w base t ty e i size ht.und hi _ 0 [] hown0 c, hown0, Below.refl _ _⟩
  | some ad =>
    rcases Nat.eq_zero_or_pos m with h0 | h0
    · subst h0
      have hn : news = [] := List.eq_nil_of_length_eq_zero (by simpa using hr.len)
      subst hn
      refine ⟨_, _, w, ?_, hown0, Below.refl _ _⟩
      simp [Builtin.append_, run_underlying ht.und, sizeOf, typeInfo, hi, Builtin.lenOf, Builtin.firstCells, loadCells, loadCellsFrom, storeCells]
    · obtain ⟨b, o, had, _, hcell⟩ := hr.get h0
      injection had with had; subst had
      subst hsize; subst hby
      have hrun := run_append_grow (P := P) w t ty e i z ht.und hi hz ⟨g, 0, none⟩ 0 0 [] (by simp) (fun j v h => by simp at h) ⟨b, o, none⟩ m c news hr.len (fun j u hu => by rw [Addr.add_lit]; exact hcell j u hu) (by omega) (by simp; omega)
        (growslice_fits (by omega) (by simpa using hbytes))
      simp only [Nat.zero_add] at hrun
      refine ⟨_, _, _, hrun, ⟨hr.len, .inr ⟨w.heap.size, _, _, rfl, hbase, heap_alloc_new w.drew _, grownCap_ge w m 0 e, grownCap_le_maxLen w m 0 e (by unfold maxLen; omega), ?_, ?_⟩⟩, ((Below.refl _ _).drew).alloc (by simp) _⟩
      · simp only [Array.size_append, List.size_toArray, size_zeroCells, ht.zs, hr.len, ← Nat.add_mul, List.length_nil, Nat.zero_add]
        congr 1
        have := grownCap_ge w m 0 e
        omega
      · simp only [Array.toList_append, List.nil_append]
        rw [← hr.len]
        exact List.take_left
end Go.Cor
