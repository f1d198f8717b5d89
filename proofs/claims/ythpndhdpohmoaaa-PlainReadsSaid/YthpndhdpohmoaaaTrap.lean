/-
  Chapter 2: an error that is thrown, and caught: Throw, Check, Try.
-/
import Derived.Test.YthpndhdpohmoaaaClo
import Derived.Defers
import Derived.Recover
namespace Go.Cor
open Go Go.RowKit

/-- all is kept but the blocks T -/
abbrev Mod (T : Nat → Prop) := Keep (fun _ k => ¬ T k)
theorem Mod.of_below {T : Nat → Prop} {W W' : World} (h : Below W.heap.size W W') : Mod T W W' := Keep.of_below h
theorem Mod.below {W W' : World} {B : Nat} {T : Nat → Prop} (h : Mod T W W') (hB : B ≤ W.heap.size) (hT : ∀ k, T k → B ≤ k) : Below B W W' :=
  below_keep h hB fun k hk ht => by have := hT k ht; omega
/-- round a try: the box that it makes is new -/
theorem Mod.tried {T : Nat → Prop} {w4 w1 w5 : World} {o : Obj} (hm : Mod T (w4.alloc o) w1) (hk : Keep (fun _ k => k ≠ w4.heap.size) w1 w5) : Mod T w4 w5 := by
  have h1 : Mod T w4 w1 := (Keep.alloc _ w4 o).trans hm fun _ _ h => h
  exact ⟨hk.os.trans h1.os, hk.tape.trans h1.tape, hk.output.trans h1.output, Nat.le_trans h1.size hk.size, fun k hlt h => (hk.block k (Nat.lt_of_lt_of_le hlt h1.size) (by omega)).trans (h1.block k hlt h)⟩
theorem Below.of_mod {w w' : World} (h : Mod (fun _ => False) w w') : Below w.heap.size w w' := h.below (Nat.le_refl _) fun _ h => h.elim
theorem Mod.trans {T : Nat → Prop} {A B C : World} (h : Mod T A B) (k : Mod T B C) : Mod T A C := Keep.trans h k fun _ _ h => h
end Go.Cor
namespace Go.Proofs.Ythpndhdpohmoaaa
open Go.RowKit Go.Cor Go.Free

/-- an error that is thrown -/
abbrev Thr (n : Int) : Ending := .panicked [{ v := .iface 106 (.agg #[.int .i64 n]), recovered := false }]

theorem throw_ok (w : World) : Calls Try.prog 42 #[.int .i64 0] w fun e w' => e = .returned (.tuple #[]) ∧ w = w' := by
  go_enter Try.func42, Try.ntmps42
  go_wp2
  go_end0
  exact ⟨rfl, rfl⟩
theorem throw_any (n : Int) (w : World) (hn : n ≠ 0) : Calls Try.prog 42 #[.int .i64 n] w fun e w' => e = Thr n ∧ w = w' := by
  have h1 : (n != 0) = true := by simp [hn]
  clear hn
  go_enter Try.func42, Try.ntmps42
  go_wp2
  exact ⟨rfl, rfl, rfl⟩
theorem check_true (n : Int) (w : World) : Calls Try.prog 67 #[.bool true, .int .i64 n] w fun e w' => e = .returned (.tuple #[]) ∧ w = w' := by
  go_enter Try.func67, Try.ntmps67
  go_wp2
  go_end0
  exact ⟨rfl, rfl⟩
theorem check_false (n : Int) (w : World) (hn : n ≠ 0) : Calls Try.prog 67 #[.bool false, .int .i64 n] w fun e w' => e = Thr n ∧ w = w' := by
  go_enter Try.func67, Try.ntmps67
  go_wp2_with fail
  refine (throw_any n w hn).mono ?_
  rintro e w' ⟨rfl, rfl⟩
  exact ⟨rfl, rfl, rfl⟩

/-! ### the deferred closure -/
/-- the body is left, with no defers, in the world W' -/
def Went (W' : World) (e : Exit) (a : Act) (w : World) : Prop := (e = .normal ∨ e = .ret) ∧ a.defers = [] ∧ w = W'

theorem catch_idle (p : Addr) (w : World) :
    CallsD Try.prog 63 #[.pointer (some p)] .returning w fun e u' w' => e = .returned (.tuple #[]) ∧ u' = .returning ∧ w' = w := by
  refine callsD_of_wpS Try.func63 rfl fun c₀ cs hu => ?_
  apply wpS_seq
  apply wpS_region
  simp [wpOpsS, go_sem, recoverD, hu, Try.ntmps63, Exit.thenS]
  refine wpS_of_wp (wp_mono (Q := Went w) ?_ ?_)
  · show Code.wp _ _ _ { tmps := #[.pointer (some p), .nilIface, undef, undef, .nilIface, undef, undef, undef, undef, undef, undef, undef, undef, undef, undef, undef, undef], defers := [] } _
    go_wp2
    exact ⟨.inr rfl, rfl, rfl⟩
  · rintro e a w' ⟨h1, h2, rfl⟩
    cases c₀
    rcases h1 with rfl | rfl <;> simp_all [bodyPostS, results, Try.results63]
theorem assert_thrown (n : Int) (w : World) : (Instr.typeAssert (.iface 106 (.agg #[.int .i64 n])) 20 106 true).run Try.prog w = .ok (.tuple #[.agg #[.int .i64 n], .bool true]) w := by kernel_rfl
set_option maxRecDepth 100000 in
set_option maxHeartbeats 1000000 in
theorem catch_thrown (b : Nat) (n : Int) (old : Value) (w : World) (hb : Box w b 53 old) :
    CallsD Try.prog 63 #[.pointer (some ⟨b, 0, none⟩)] (.panicking [{ v := .iface 106 (.agg #[.int .i64 n]), recovered := false }]) w fun e u' w' =>
      e = .returned (.tuple #[]) ∧ u' = .panicking [{ v := .iface 106 (.agg #[.int .i64 n]), recovered := true }] ∧ w' = (w.setCell ⟨b, 0, none⟩ (.int .i64 n)).alloc (.cells #[.int .i64 n] 106) := by
  have hc := cell_of_one (hb.alloc (.cells #[.int .i64 n] 106))
  have hz := free_of_one (hb.alloc (.cells #[.int .i64 n] 106))
  have hlt := lt_of_block hb
  clear hb
  have hta := fun (w : World) => assert_thrown n w
  refine callsD_of_wpS Try.func63 rfl fun c₀ cs hu => ?_
  apply wpS_seq
  apply wpS_region
  simp [wpOpsS, go_sem, recoverD, hu, Try.ntmps63, Exit.thenS]
  refine wpS_of_wp (wp_mono (Q := Went ((w.setCell ⟨b, 0, none⟩ (.int .i64 n)).alloc (.cells #[.int .i64 n] 106))) ?_ ?_)
  · show Code.wp _ _ _ { tmps := #[.pointer (some ⟨b, 0, none⟩), .iface 106 (.agg #[.int .i64 n]), undef, undef, .iface 106 (.agg #[.int .i64 n]), undef, undef, undef, undef, undef, undef, undef, undef, undef, undef, undef, undef], defers := [] } _
    go_wp2
    exact ⟨.inl rfl, rfl, rfl⟩
  · rintro e a w' ⟨h1, h2, rfl⟩
    cases c₀
    rcases h1 with rfl | rfl <;> simp_all [bodyPostS, results, Try.results63]

/-- it returns nothing, or throws an error that is none of nought -/
def Tried (R : Int → World → Prop) (e : Ending) (w : World) : Prop := ∃ n : Int, R n w ∧ ((n = 0 ∧ e = .returned (.tuple #[])) ∨ (n ≠ 0 ∧ e = Thr n))

set_option maxRecDepth 100000 in
set_option maxHeartbeats 1000000 in
theorem try_any (g : FuncId) (caps : Array Value) (w : World) (R : Int → World → Prop) (eg : ∀ args w, (callFunc g args).run Try.prog w = .ok (.enter g args) w)
    (hdo : Calls Try.prog g caps (w.alloc (.cells #[.int .i64 0] 53)) (Tried R)) (hbox : ∀ n w1, R n w1 → Box w1 w.heap.size 53 (.int .i64 0)) :
    Calls Try.prog 28 #[.func (.func g) #[] caps] w fun e w' => ∃ n w1, R n w1 ∧ e = .returned (.int .i64 n) ∧ Keep (fun _ k => k ≠ w.heap.size) w1 w' := by
  have hmf : ∀ (fn : Fn) (first cap : Array Value) (w : World), (Instr.makeFunc fn first cap).run Try.prog w = .ok (.func fn first cap) w := fun _ _ _ _ => rfl
  have HD := Lib.hid hdo
  clear hdo
  go_enter_defers Try.func28, Try.ntmps28
  go_wp2_with fail
  refine HD.out.mono ?_
  rintro e w1 ⟨n, hR, ⟨rfl, rfl⟩ | ⟨hn, rfl⟩⟩
  · have hB := hbox 0 w1 hR
    have hc := cell_of_one hB
    have hz := free_of_one hB
    have hlt := lt_of_block hB
    have HB := Lib.hid hB
    clear hbox hB
    go_wp2
    refine leaves_cons (f := 63) (args := #[.pointer (some ⟨w.heap.size, 0, none⟩)]) (by simp) (by simp [go_sem]) ?_
    refine (catch_idle ⟨w.heap.size, 0, none⟩ _).mono ?_
    rintro e u' w'' ⟨rfl, rfl, rfl⟩
    have h2 := cell_of_one (one_setCell (u := .int .i64 0) HB.out)
    simp [Leaves, settle, results, Try.results28, go_sem, h2]
    exact ⟨0, w1, hR, rfl, .setCell _ (by simp) _⟩
  · have hB := hbox n w1 hR
    have HB := Lib.hid hB
    clear hbox hB
    go_wp2
    refine leaves_cons (f := 63) (args := #[.pointer (some ⟨w.heap.size, 0, none⟩)]) (by simp) (by simp [go_sem]) ?_
    refine (catch_thrown w.heap.size n _ _ HB.out).mono ?_
    rintro e u' w'' ⟨rfl, rfl, rfl⟩
    have h2 := cell_of_one ((Box.alloc (one_setCell (u := .int .i64 n) HB.out)) (.cells #[.int .i64 n] 106))
    simp [Leaves, settle, results, Try.results28, go_sem, h2]
    exact ⟨n, w1, hR, rfl, (Keep.setCell _ (by simp) _).trans (.alloc _ _ _) fun _ _ h => h⟩
end Go.Proofs.Ythpndhdpohmoaaa
