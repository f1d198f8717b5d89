/-
  Chapter 3: the cursor: New, At, Left, Peek, End, Bytes, and the next number of so many bytes.
-/
import Derived.Test.YthpndhdpohmoaaaTrap
import Derived.Test.YthpndhdpohmoaaaSli
import Derived.Deep.QuietTactic
import Derived.BigQuiet
import Derived.StillTailTactics
namespace Go.Cor
open Go Go.RowKit

/-- what bytes come to, the least first -/
def num : List Int → Int
  | [] => 0
  | x :: r => x + 256 * num r
def By (xs : List Int) : Prop := ∀ x ∈ xs, 0 ≤ x ∧ x ≤ 255
theorem By.drop {xs : List Int} (h : By xs) (k : Nat) : By (xs.drop k) := fun x hx => h x (List.mem_of_mem_drop hx)
theorem By.take {xs : List Int} (h : By xs) (k : Nat) : By (xs.take k) := fun x hx => h x (List.mem_of_mem_take hx)
theorem num_bd {xs : List Int} (h : By xs) : 0 ≤ num xs ∧ num xs < 256 ^ xs.length := by
  induction xs with
  | nil => simp [num]
  | cons x r ih =>
    have h1 := h x (by simp)
    have h2 := ih fun y hy => h y (by simp [hy])
    simp only [num, List.length_cons, Int.pow_succ]
    have hp : (0 : Int) < 256 ^ r.length := Int.pow_pos (by decide)
    generalize (256 : Int) ^ r.length = q at *
    omega
theorem num_snoc (xs : List Int) (x : Int) : num (xs ++ [x]) = num xs + 256 ^ xs.length * x := by
  induction xs with
  | nil => simp [num]
  | cons y r ih =>
    simp only [List.cons_append, num, ih, List.length_cons, Int.pow_succ, Int.mul_add]
    rw [Int.mul_comm (256 ^ r.length) 256, Int.mul_assoc]
    omega

/-- a cursor at p, over the bytes xs, of which at_ are behind it -/
structure Cu (w : World) (T : TypeId) (p : Nat) (A : Option Addr) (n c : Nat) (xs : List Int) (at_ : Nat) : Prop where
  blk : w.heap[p]? = some (.cells #[.slice A n c, .int .i64 at_] T (0, 0))
  rd : Rd w .u8 A n c xs
  ne : ∀ b o, A = some ⟨b, o, none⟩ → b ≠ p
  le : at_ ≤ n
  small : n ≤ 100000
  bytes : By xs
section
variable {w w' : World} {T : TypeId} {p : Nat} {A : Option Addr} {n c : Nat} {xs : List Int} {at_ : Nat}
theorem Cu.keep {S : World → Nat → Prop} (h : Cu w T p A n c xs at_) (hk : Keep S w w') (hp : S w p) (hA : ∀ b o, A = some ⟨b, o, none⟩ → S w b) : Cu w' T p A n c xs at_ :=
  ⟨(hk.block p (lt_of_block h.blk) hp).trans h.blk, h.rd.keep hk.size fun b hb ⟨o, ho⟩ => hk.block b hb (hA b o ho), h.ne, h.le, h.small, h.bytes⟩
theorem Cu.below (h : Cu w T p A n c xs at_) (hb : Below w.heap.size w w') : Cu w' T p A n c xs at_ := h.keep (S := fun _ _ => True) (.of_below hb) trivial fun _ _ _ => trivial
theorem Cu.alloc' (h : Cu w T p A n c xs at_) (o : Obj) : Cu (w.alloc o) T p A n c xs at_ := h.below ((Below.refl _ _).alloc (Nat.le_refl _) o)
theorem Cu.lt (h : Cu w T p A n c xs at_) : p < w.heap.size := lt_of_block h.blk
theorem Cu.c0 (h : Cu w T p A n c xs at_) : w.cell? ⟨p, 0, none⟩ = some (.slice A n c) := by simp [World.cell?, h.blk]
theorem Cu.c1 (h : Cu w T p A n c xs at_) : w.cell? ⟨p, 1, none⟩ = some (.int .i64 at_) := by simp [World.cell?, h.blk]
theorem Cu.f1 (h : Cu w T p A n c xs at_) : w.frozen? ⟨p, 1, none⟩ = false := by simp [World.frozen?, h.blk]
theorem Cu.move (h : Cu w T p A n c xs at_) {m : Nat} (hm : m ≤ n) : Cu (w.setCell ⟨p, 1, none⟩ (.int .i64 m)) T p A n c xs m := by
  refine ⟨?_, h.rd.setCell (fun b o ho => h.ne b o ho) _, h.ne, hm, h.small, h.bytes⟩
  have hlt := h.lt
  have h' : w.heap[p] = .cells #[.slice A n c, .int .i64 at_] T (0, 0) := by have := h.blk; simpa [Array.getElem?_eq_getElem hlt] using this
  show (w.heap.modify p _)[p]? = _
  rw [Array.getElem?_eq_getElem (by simpa using hlt), Array.getElem_modify_self, h']
  rfl
/-- what lies behind a place -/
theorem rd_slice (h : Rd w .u8 A n c xs) {i j : Nat} (hij : i ≤ j) (hj : j ≤ n) (b o : Nat) (hA : A = some ⟨b, o, none⟩) : Rd w .u8 (some ⟨b, o + i, none⟩) (j - i) (c - i) ((xs.drop i).take (j - i)) := by
  refine ⟨?_, by have := h.cap; omega, by have := h.max; omega, fun h => (by cases h), fun hp => ?_⟩
  · have := h.len; simp; omega
  · obtain ⟨b', o', e, hb, hc⟩ := h.get (by omega)
    rw [hA] at e; injection e with e; injection e with e1 e2; subst e1 e2
    refine ⟨b, o + i, rfl, hb, fun k hk => ?_⟩
    rw [Nat.add_assoc, hc (i + k) (by omega)]
    simp [List.getD_eq_getElem?_getD, List.getElem?_take, hk, List.getElem?_drop]
end
end Go.Cor
namespace Go.Proofs.Ythpndhdpohmoaaa
open Go.RowKit Go.Cor Go.Free

/-- a cursor of this program -/
abbrev Cur (w : World) := Cu w 104

/-- a new cursor -/
def NewCur (w : World) (n : Nat) (xs : List Int) (e : Ending) (w' : World) : Prop :=
  ∃ p A c, e = .returned (.pointer (some ⟨p, 0, none⟩)) ∧ Cur w' p A n c xs 0 ∧ Below w.heap.size w w' ∧ w.heap.size ≤ p ∧ ∀ b o, A = some ⟨b, o, none⟩ → w.heap.size ≤ b
theorem new_any (A : Option Addr) (n c : Nat) (xs : List Int) (w : World) (h : Rd w .u8 A n c xs) (hn : n ≤ 100000) (hb : By xs) :
    Calls Try.prog 27 #[.slice A n c] w (NewCur w n xs) := by
  have H := Lib.hid h
  have HB := Lib.hid hb
  clear h hb
  go_enter Try.func27, Try.ntmps27
  go_wp2_with fail
  refine (clone_any A n c xs w H.out (by omega)).mono ?_
  rintro e w1 ⟨A1, n1, c1, rfl, hown, hb1⟩
  obtain rfl : n1 = n := by have := row_len hown; have := H.out.len; omega
  have HO := Lib.hid hown
  have HB1 := Lib.hid hb1
  clear hown hb1
  go_wp2
  go_ret
  refine ⟨w1.heap.size, A1, c1, rfl, ⟨heap_alloc_new w1 _, (Rd.own HO.out).alloc _, ?_, by omega, hn, HB.out⟩, HB1.out.alloc HB1.out.size _, HB1.out.size, ?_⟩
  · rintro b o rfl
    have := HO.out.lt b rfl
    omega
  · rintro b o rfl
    exact (HO.out.lt b rfl).1

theorem at_any {w : World} {p : Nat} {A : Option Addr} {n c : Nat} {xs : List Int} {at_ : Nat} (h : Cur w p A n c xs at_) :
    Calls Try.prog 37 #[.pointer (some ⟨p, 0, none⟩)] w fun e w' => e = .returned (.int .i64 at_) ∧ w = w' := by
  have h1 := h.c1
  clear h
  go_enter Try.func37, Try.ntmps37
  go_wp2
  go_ret
  exact ⟨rfl, rfl⟩
theorem left_any {w : World} {p : Nat} {A : Option Addr} {n c : Nat} {xs : List Int} {at_ : Nat} (h : Cur w p A n c xs at_) :
    Calls Try.prog 38 #[.pointer (some ⟨p, 0, none⟩)] w fun e w' => e = .returned (.int .i64 ((n - at_ : Nat) : Int)) ∧ ∃ k, w' = w.drewN k := by
  have h0 := h.c0
  have h1 := h.c1
  have h2 := h.le
  have h3 := h.small
  have e1 : IntKind.i64.wrap ((n : Int) - (at_ : Int)) = ((n - at_ : Nat) : Int) := by rw [wrapi64_in _ (by omega) (by omega)]; omega
  clear h
  go_enter Try.func38, Try.ntmps38
  go_wp2
  go_quiet (fail)
  go_wp2
  go_ret
  exact ⟨ret_i (by omega), _, rfl⟩

theorem end_ok {w : World} {p : Nat} {A : Option Addr} {n c : Nat} {xs : List Int} {at_ : Nat} (h : Cur w p A n c xs at_) (he : at_ = n) :
    Calls Try.prog 33 #[.pointer (some ⟨p, 0, none⟩)] w fun e w' => e = .returned (.tuple #[]) ∧ Below w.heap.size w w' := by
  have HL := Lib.hid (left_any h)
  subst he
  clear h
  go_enter Try.func33, Try.ntmps33
  go_wp2_with fail
  refine HL.out.mono ?_
  rintro e w1 ⟨rfl, k, rfl⟩
  have e0 : (((at_ - at_ : Nat) : Int) == 0) = true := by simp
  go_wp2_with fail
  refine (check_true 2 _).mono ?_
  rintro e w2 ⟨rfl, rfl⟩
  go_wp2
  go_end0
  exact ⟨rfl, below_drewN (Below.refl _ _) _⟩
theorem end_long {w : World} {p : Nat} {A : Option Addr} {n c : Nat} {xs : List Int} {at_ : Nat} (h : Cur w p A n c xs at_) (he : at_ < n) :
    Calls Try.prog 33 #[.pointer (some ⟨p, 0, none⟩)] w fun e w' => e = Thr 2 ∧ Below w.heap.size w w' := by
  have HL := Lib.hid (left_any h)
  have e0 : (((n - at_ : Nat) : Int) == 0) = false := by simp; omega
  clear h
  go_enter Try.func33, Try.ntmps33
  go_wp2_with fail
  refine HL.out.mono ?_
  rintro e w1 ⟨rfl, k, rfl⟩
  go_wp2_with fail
  refine (check_false 2 _ (by decide)).mono ?_
  rintro e w2 ⟨rfl, rfl⟩
  exact ⟨rfl, rfl, below_drewN (Below.refl _ _) _⟩
/-- the next bytes -/
theorem bytes_neg {w : World} (p : Nat) (m : Int) (hm : m < 0) :
    Calls Try.prog 71 #[.pointer (some ⟨p, 0, none⟩), .int .i64 m] w fun e w' => e = Thr 4 ∧ w = w' := by
  have e0 : decide (0 ≤ m) = false := by simp; omega
  go_enter Try.func71, Try.ntmps71
  go_wp2_with fail
  refine (check_false 4 _ (by decide)).mono ?_
  rintro e w2 ⟨rfl, rfl⟩
  exact ⟨rfl, rfl, rfl⟩
theorem bytes_short {w : World} {p : Nat} {A : Option Addr} {n c : Nat} {xs : List Int} {at_ : Nat} (h : Cur w p A n c xs at_) (m : Int) (hm : ((n - at_ : Nat) : Int) < m) :
    Calls Try.prog 71 #[.pointer (some ⟨p, 0, none⟩), .int .i64 m] w fun e w' => e = Thr 1 ∧ Below w.heap.size w w' := by
  have HL := Lib.hid (left_any h)
  have e0 : decide (0 ≤ m) = true := by simp; omega
  have e1 : decide (m ≤ ((n - at_ : Nat) : Int)) = false := by simp; omega
  clear h
  go_enter Try.func71, Try.ntmps71
  go_wp2_with fail
  refine (check_true 4 _).mono ?_
  rintro e w2 ⟨rfl, rfl⟩
  go_wp2_with fail
  refine HL.out.mono ?_
  rintro e w1 ⟨rfl, k, rfl⟩
  go_wp2_with fail
  refine (check_false 1 _ (by decide)).mono ?_
  rintro e w2 ⟨rfl, rfl⟩
  exact ⟨rfl, rfl, below_drewN (Below.refl _ _) _⟩
/-- what a reading of m bytes does: the row, the cursor behind it -/
def Took (w : World) (p : Nat) (A : Option Addr) (n c : Nat) (xs : List Int) (at_ m : Nat) (w' : World) : Prop := Cur w' p A n c xs (at_ + m) ∧ Mod (· = p) w w'
def TookRow (w : World) (p : Nat) (A : Option Addr) (n c : Nat) (xs : List Int) (at_ m : Nat) (e : Ending) (w' : World) : Prop :=
  (∃ A' c', e = .returned (.slice A' m c') ∧ Owns w' w.heap.size 5 .u8 A' m c' ((xs.drop at_).take m)) ∧ Took w p A n c xs at_ m w'
set_option maxRecDepth 100000 in
set_option maxHeartbeats 1000000 in
theorem bytes_ok {w : World} {p : Nat} {A : Option Addr} {n c : Nat} {xs : List Int} {at_ : Nat} (h : Cur w p A n c xs at_) (m : Nat) (hm : m ≤ n - at_) :
    Calls Try.prog 71 #[.pointer (some ⟨p, 0, none⟩), .int .i64 m] w (TookRow w p A n c xs at_ m) := by
  have HL := Lib.hid (left_any h)
  have hle := h.le
  have hsm := h.small
  have H := Lib.hid h
  have e1 : decide ((m : Int) ≤ ((n - at_ : Nat) : Int)) = true := by simp; omega
  clear h
  go_enter Try.func71, Try.ntmps71
  go_wp2_with fail
  refine (check_true 4 _).mono ?_
  rintro e w2 ⟨rfl, rfl⟩
  go_wp2_with fail
  refine HL.out.mono ?_
  rintro e w1 ⟨rfl, k, rfl⟩
  go_wp2_with fail
  refine (check_true 1 _).mono ?_
  rintro e w2 ⟨rfl, rfl⟩
  have hc1 := H.out.c1
  have hf1 := H.out.f1
  have hlt := H.out.lt
  clear e1
  have HC : Hid (Cur ((w.drewN k).setCell ⟨p, 1, none⟩ (.int .i64 ((at_ : Int) + (m : Int)))) p A n c xs (at_ + m)) := by
    have := (H.out.below (below_drewN (Below.refl _ _) k)).move (m := at_ + m) (by omega)
    rw [Int.natCast_add] at this
    exact this
  have HM : Hid (Mod (· = p) w ((w.drewN k).setCell ⟨p, 1, none⟩ (.int .i64 ((at_ : Int) + (m : Int))))) := (Keep.of_below (below_drewN (Below.refl _ _) k)).trans (.setCell _ (by simp) _) fun _ _ h => h
  go_wp2
  obtain ⟨W1, hW1⟩ : ∃ W1, (w.drewN k).setCell ⟨p, 1, none⟩ (.int .i64 ((at_ : Int) + (m : Int))) = W1 := ⟨_, rfl⟩
  rw [hW1] at HC HM ⊢
  have hp := HC.out.lt
  clear hc1 hf1 hlt hW1 HL
  refine wp_region_free 16 (by kernel_rfl) (by kernel_rfl) ?_
  refine chain_val (.pointer (some ⟨p, 0, none⟩)) (S := [0]) rfl ?_ ?_
  · intro ρ w' hE hB hs
    have h0 : ρ (.tmp 0) = .pointer (some ⟨p, 0, none⟩) := hs 0 (by decide)
    clear hs
    refine if_t (by rfl) ?_
    (go_simp <;> exact wrapi64_in _ (by omega) (by omega))
  refine chain_val (.pointer (some ⟨p, 0, none⟩)) (S := [21]) rfl ?_ ?_
  · intro ρ w' hE hB hs
    have h21 : ρ (.tmp 21) = .pointer (some ⟨p, 0, none⟩) := hs 21 (by decide)
    clear hs
    refine if_t (by rfl) ?_
    (go_simp <;> exact wrapi64_in _ (by omega) (by omega))
  refine chain_val (.pointer (some ⟨p, 0, none⟩)) (S := [22]) rfl ?_ ?_
  · intro ρ w' hE hB hs
    have h22 : ρ (.tmp 22) = .pointer (some ⟨p, 0, none⟩) := hs 22 (by decide)
    clear hs
    refine if_t (by rfl) ?_
    (go_simp <;> exact wrapi64_in _ (by omega) (by omega))
  refine chain_val (.slice A n c) (S := [23]) rfl ?_ ?_
  · intro ρ w' hE hB hs
    have h23 : ρ (.tmp 23) = .pointer (some ⟨p, 0, none⟩) := hs 23 (by decide)
    clear hs
    refine if_t (by rfl) ?_
    have hcl := (hB.cell (p := ⟨p, 0, none⟩) hp).trans HC.out.c0
    go_simp
  refine chain_val (.pointer (some ⟨p, 0, none⟩)) (S := [0]) rfl ?_ ?_
  · intro ρ w' hE hB hs
    have h0 : ρ (.tmp 0) = .pointer (some ⟨p, 0, none⟩) := hs 0 (by decide)
    clear hs
    refine if_t (by rfl) ?_
    (go_simp <;> exact wrapi64_in _ (by omega) (by omega))
  refine chain_val (.pointer (some ⟨p, 0, none⟩)) (S := [25]) rfl ?_ ?_
  · intro ρ w' hE hB hs
    have h25 : ρ (.tmp 25) = .pointer (some ⟨p, 0, none⟩) := hs 25 (by decide)
    clear hs
    refine if_t (by rfl) ?_
    (go_simp <;> exact wrapi64_in _ (by omega) (by omega))
  refine chain_val (.pointer (some ⟨p, 1, none⟩)) (S := [26]) rfl ?_ ?_
  · intro ρ w' hE hB hs
    have h26 : ρ (.tmp 26) = .pointer (some ⟨p, 0, none⟩) := hs 26 (by decide)
    clear hs
    refine if_t (by rfl) ?_
    (go_simp <;> exact wrapi64_in _ (by omega) (by omega))
  refine chain_val (.int .i64 ((at_ + m : Nat) : Int)) (S := [27]) rfl ?_ ?_
  · intro ρ w' hE hB hs
    have h27 : ρ (.tmp 27) = .pointer (some ⟨p, 1, none⟩) := hs 27 (by decide)
    clear hs
    refine if_t (by rfl) ?_
    have hcl := (hB.cell (p := ⟨p, 1, none⟩) hp).trans HC.out.c1
    go_simp
  refine chain_val (.int .i64 (m : Int)) (S := [1]) rfl ?_ ?_
  · intro ρ w' hE hB hs
    have h1 : ρ (.tmp 1) = .int .i64 (m : Int) := hs 1 (by decide)
    clear hs
    refine if_t (by rfl) ?_
    (go_simp <;> exact wrapi64_in _ (by omega) (by omega))
  refine chain_val (.int .i64 (at_ : Int)) (S := [28, 29]) rfl ?_ ?_
  · intro ρ w' hE hB hs
    have h28 : ρ (.tmp 28) = .int .i64 ((at_ + m : Nat) : Int) := hs 28 (by decide)
    have h29 : ρ (.tmp 29) = .int .i64 (m : Int) := hs 29 (by decide)
    clear hs
    refine if_t (by rfl) ?_
    (go_simp <;> exact wrapi64_in _ (by omega) (by omega))
  refine chain_val (.pointer (some ⟨p, 0, none⟩)) (S := [0]) rfl ?_ ?_
  · intro ρ w' hE hB hs
    have h0 : ρ (.tmp 0) = .pointer (some ⟨p, 0, none⟩) := hs 0 (by decide)
    clear hs
    refine if_t (by rfl) ?_
    (go_simp <;> exact wrapi64_in _ (by omega) (by omega))
  refine chain_val (.pointer (some ⟨p, 0, none⟩)) (S := [31]) rfl ?_ ?_
  · intro ρ w' hE hB hs
    have h31 : ρ (.tmp 31) = .pointer (some ⟨p, 0, none⟩) := hs 31 (by decide)
    clear hs
    refine if_t (by rfl) ?_
    (go_simp <;> exact wrapi64_in _ (by omega) (by omega))
  refine chain_val (.pointer (some ⟨p, 1, none⟩)) (S := [32]) rfl ?_ ?_
  · intro ρ w' hE hB hs
    have h32 : ρ (.tmp 32) = .pointer (some ⟨p, 0, none⟩) := hs 32 (by decide)
    clear hs
    refine if_t (by rfl) ?_
    (go_simp <;> exact wrapi64_in _ (by omega) (by omega))
  refine chain_val (.int .i64 ((at_ + m : Nat) : Int)) (S := [33]) rfl ?_ ?_
  · intro ρ w' hE hB hs
    have h33 : ρ (.tmp 33) = .pointer (some ⟨p, 1, none⟩) := hs 33 (by decide)
    clear hs
    refine if_t (by rfl) ?_
    have hcl := (hB.cell (p := ⟨p, 1, none⟩) hp).trans HC.out.c1
    go_simp
  refine chain_fact (RdF .u8 ((xs.drop at_).take m)) (RdF.stable _ _) (S := [24, 30, 34]) rfl ?_ ?_
  · intro ρ w' hE hB hs
    have h24 : ρ (.tmp 24) = .slice A n c := hs 24 (by decide)
    have h30 : ρ (.tmp 30) = .int .i64 (at_ : Int) := hs 30 (by decide)
    have h34 : ρ (.tmp 34) = .int .i64 ((at_ + m : Nat) : Int) := hs 34 (by decide)
    clear hs
    refine if_t (by rfl) ?_
    have hr := (HC.out.rd.below hB).sliced (l := at_) (j := at_ + m) (by omega) (by omega)
    have hrun := run_lh (P := Try.prog) (w := w') elemU8 A n c (l := at_) (j := at_ + m) (by omega) (by have := HC.out.rd.cap; omega) .i64 .i64
    rw [Nat.add_sub_cancel_left] at hr hrun
    refine ⟨_, ?_, _, _, _, rfl, hr⟩
    unfold execOp
    simp only [Option.map, h24, h30, h34, hrun, Sem.run_bind, Result.andThen_ok, Sem.run_pure]
  refine chain_static (OwF w.heap.size 5 .u8 ((xs.drop at_).take m)) (OwF.stable _ _ _ _) (S := [35]) rfl (Go.Cor.enters_f Try.func62 (by kernel_rfl) rfl) rfl ?_ ?_
  · intro ρ w' hE hB hs
    have h35 : (RdF .u8 ((xs.drop at_).take m)) (ρ (.tmp 35)) w' := hs 35 (by decide)
    clear hs
    obtain ⟨A35, n35, c35, e35, r35⟩ := h35
    refine ⟨(by rfl), ?_⟩
    simp only [List.map_toArray, List.map_cons, List.map_nil, e35]
    refine (clone_any _ _ _ _ _ r35 (by have h1 := r35.len; have h2 := HC.out.rd.len; rw [List.length_take, List.length_drop] at h1; omega)).mono ?_
    rintro e w3 ⟨A', n', c', rfl, ho, hb⟩
    exact ⟨_, rfl, hb, A', n', c', rfl, owns_weak ho (by have := hB.size; have := HM.out.size; omega)⟩
  intro w1 hB1
  simp only [List.reverse_cons, List.reverse_nil, List.nil_append, List.cons_append, Go.Free.Ends, forall_eq, Act.put, List.setIfInBounds_toArray, List.set_cons_zero, List.set_cons_succ]
  rintro _ _ _ ⟨A', n', c', rfl, hown⟩
  have hn' : n' = m := by have h1 := row_len hown; have h2 := HC.out.rd.len; rw [List.length_take, List.length_drop] at h1; omega
  subst hn'
  have HO := Lib.hid hown
  have HB := Lib.hid hB1
  clear hown hB1
  go_wp2
  go_ret
  exact ⟨⟨A', c', rfl, HO.out⟩, HC.out.below HB.out, HM.out.trans (.of_below HB.out)⟩
end Go.Proofs.Ythpndhdpohmoaaa
