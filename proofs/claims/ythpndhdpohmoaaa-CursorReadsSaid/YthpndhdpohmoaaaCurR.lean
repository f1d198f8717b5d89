/-
  Chapter 3: the reference's cursor; what CursorReads asks.
-/
import Derived.Test.YthpndhdpohmoaaaCurB
namespace Go.Cor
/-- the next m bytes: what is told, the error, where it is then -/
def rbytes (xs : List Int) (at_ : Nat) (m : Int) : List Int × Int × Nat :=
  if m < 0 then ([], 4, at_) else if ((xs.length - at_ : Nat) : Int) < m then ([], 1, at_) else ((xs.drop at_).take m.toNat, 0, at_ + m.toNat)
def cwide (d m : Int) : Int := if d = 0 then 1 else if d = 1 then 2 else if d = 2 then 4 else if d = 3 then 8 else m
/-- what is asked: what is told, the error, where it is then -/
def cstep (xs : List Int) (at_ : Nat) (d m : Int) : List Int × Int × Nat :=
  if d ≤ 4 then rbytes xs at_ (cwide d m) else if d = 5 then (if at_ < xs.length then ([], 2, at_) else ([], 0, at_)) else ([], 0, at_)
theorem rbytes_neg {xs : List Int} {at_ : Nat} {m : Int} (h : m < 0) : rbytes xs at_ m = ([], 4, at_) := by unfold rbytes; rw [if_pos h]
theorem rbytes_short {xs : List Int} {at_ : Nat} {m : Int} (h : ¬ m < 0) (h2 : ((xs.length - at_ : Nat) : Int) < m) : rbytes xs at_ m = ([], 1, at_) := by unfold rbytes; rw [if_neg h, if_pos h2]
theorem rbytes_ok {xs : List Int} {at_ m : Nat} (h2 : m ≤ xs.length - at_) : rbytes xs at_ m = ((xs.drop at_).take m, 0, at_ + m) := by unfold rbytes; rw [if_neg (by omega), if_neg (by omega)]; rfl
end Go.Cor
namespace Go.Proofs.Ythpndhdpohmoaaa
open Go.RowKit Go.Cor Go.Free

abbrev RCur (w : World) (p : Nat) (A : Option Addr) (n c : Nat) (xs : List Int) (at_ : Nat) : Prop := Cu w 62 p A n c xs at_
def RTook (p : Nat) (A : Option Addr) (n c : Nat) (xs : List Int) (r : List Int × Int × Nat) (w : World) (e : Ending) (w' : World) : Prop :=
  (∃ A' k c', e = .returned (.tuple #[.slice A' k c', .int .i64 r.2.1]) ∧ Rd w' .u8 A' k c' r.1) ∧ RCur w' p A n c xs r.2.2 ∧ Mod (· = p) w w'
set_option maxRecDepth 100000 in
set_option maxHeartbeats 1000000 in
theorem refBytes_any {w : World} {p : Nat} {A : Option Addr} {n c : Nat} {xs : List Int} {at_ : Nat} (h : RCur w p A n c xs at_) (m : Int) (hm : m ≤ 9223372036854775807) :
    Calls Try.prog 36 #[.pointer (some ⟨p, 0, none⟩), .int .i64 m] w (RTook p A n c xs (rbytes xs at_ m) w) := by
  have hl := h.rd.len
  have H := Lib.hid h
  by_cases h1 : m < 0
  · rw [rbytes_neg h1]
    clear h hl
    go_enter Try.func36, Try.ntmps36
    go_wp2
    go_ret2
    exact ⟨⟨none, 0, 0, rfl, Rd.nilv _ _⟩, H.out, Keep.refl _ _⟩
  have h0 := h.c0
  have h2 := h.c1
  have h3 := h.le
  have h4 := h.small
  have hf1 := h.f1
  have e1 : IntKind.i64.wrap ((n : Int) - (at_ : Int)) = ((n - at_ : Nat) : Int) := by rw [wrapi64_in _ (by omega) (by omega)]; omega
  by_cases hs : ((n - at_ : Nat) : Int) < m
  · rw [rbytes_short h1 (by rw [hl]; exact hs)]
    clear h hl
    go_enter Try.func36, Try.ntmps36
    go_wp2
    go_quiet (fail)
    go_wp2
    go_ret2
    exact ⟨⟨none, 0, 0, rfl, Rd.nilv _ _⟩, H.out.below (below_drewN (Below.refl _ _) _), .of_below (below_drewN (Below.refl _ _) _)⟩
  obtain ⟨k, rfl⟩ := Int.eq_ofNat_of_zero_le (show 0 ≤ m by omega)
  rw [rbytes_ok (by rw [hl]; omega)]
  have H2 := Lib.hid (And.intro h3 (And.intro h4 hl))
  have H3 := Lib.hid (show k ≤ n - at_ by omega)
  clear h hl
  have e2 : IntKind.i64.wrap ((at_ : Int) + (k : Int)) = (at_ : Int) + (k : Int) := wrapi64_in _ (by omega) (by omega)
  go_enter Try.func36, Try.ntmps36
  go_wp2
  go_quiet (fail)
  go_wp2
  have HC : Hid (RCur ((w.drewN nq).setCell ⟨p, 1, none⟩ (.int .i64 ((at_ : Int) + (k : Int)))) p A n c xs (at_ + k)) := by
    have := (H.out.below (below_drewN (Below.refl _ _) nq)).move (m := at_ + k) (by have := H2.out; have := H3.out; omega)
    exact Lib.hid (by simpa using this)
  have HM : Hid (Mod (· = p) w ((w.drewN nq).setCell ⟨p, 1, none⟩ (.int .i64 ((at_ : Int) + (k : Int))))) := Mod.trans (.of_below (below_drewN (Below.refl _ _) nq)) (.setCell _ (p := ⟨p, 1, none⟩) (by simp) _)
  revert HC HM
  generalize (w.drewN nq).setCell ⟨p, 1, none⟩ (.int .i64 ((at_ : Int) + (k : Int))) = w1
  intro HC HM
  have hp := HC.out.lt
  have hlk : ((xs.drop at_).take k).length ≤ 100000 := by rw [List.length_take, List.length_drop]; have := H2.out; omega
  have hcap := H.out.rd.cap
  clear h0 h2 hf1
  refine wp_region_free 17 (by kernel_rfl) (by kernel_rfl) ?_
  refine chain_make (LitF (w1.heap.size) 5) (LitF.stable _ _) (S := []) rfl ?_ ?_
  · intro ρ w' hE hB hs
    clear hs
    exact ⟨(by rfl), .slice (some ⟨w'.heap.size, 0, none⟩) 0 0, w'.alloc (.cells #[] 5), (by go_simp), (Below.refl _ _).alloc (Nat.le_refl _) _, w'.heap.size, rfl, Nat.le_trans (by omega) hB.size, heap_alloc_new w' _⟩
  refine chain_val (.pointer (some ⟨p, 0, none⟩)) (S := [0]) rfl ?_ ?_
  · intro ρ w' hE hB hs
    have h0 : ρ (.tmp 0) = .pointer (some ⟨p, 0, none⟩) := hs 0 (by decide)
    clear hs
    refine if_t (by rfl) ?_
    (go_simp <;> exact wrapi64_in _ (by omega) (by omega))
  refine chain_val (.pointer (some ⟨p, 0, none⟩)) (S := [30]) rfl ?_ ?_
  · intro ρ w' hE hB hs
    have h30 : ρ (.tmp 30) = .pointer (some ⟨p, 0, none⟩) := hs 30 (by decide)
    clear hs
    refine if_t (by rfl) ?_
    (go_simp <;> exact wrapi64_in _ (by omega) (by omega))
  refine chain_val (.pointer (some ⟨p, 0, none⟩)) (S := [31]) rfl ?_ ?_
  · intro ρ w' hE hB hs
    have h31 : ρ (.tmp 31) = .pointer (some ⟨p, 0, none⟩) := hs 31 (by decide)
    clear hs
    refine if_t (by rfl) ?_
    (go_simp <;> exact wrapi64_in _ (by omega) (by omega))
  refine chain_val (.slice A n c) (S := [32]) rfl ?_ ?_
  · intro ρ w' hE hB hs
    have h32 : ρ (.tmp 32) = .pointer (some ⟨p, 0, none⟩) := hs 32 (by decide)
    clear hs
    refine if_t (by rfl) ?_
    have hcl := (hB.cell (p := ⟨p, 0, none⟩) hp).trans HC.out.c0
    go_simp
  refine chain_val (.pointer (some ⟨p, 0, none⟩)) (S := [0]) rfl ?_ ?_
  · intro ρ w' hE hB hs
    have h0 : ρ (.tmp 0) = .pointer (some ⟨p, 0, none⟩) := hs 0 (by decide)
    clear hs
    refine if_t (by rfl) ?_
    (go_simp <;> exact wrapi64_in _ (by omega) (by omega))
  refine chain_val (.pointer (some ⟨p, 0, none⟩)) (S := [34]) rfl ?_ ?_
  · intro ρ w' hE hB hs
    have h34 : ρ (.tmp 34) = .pointer (some ⟨p, 0, none⟩) := hs 34 (by decide)
    clear hs
    refine if_t (by rfl) ?_
    (go_simp <;> exact wrapi64_in _ (by omega) (by omega))
  refine chain_val (.pointer (some ⟨p, 1, none⟩)) (S := [35]) rfl ?_ ?_
  · intro ρ w' hE hB hs
    have h35 : ρ (.tmp 35) = .pointer (some ⟨p, 0, none⟩) := hs 35 (by decide)
    clear hs
    refine if_t (by rfl) ?_
    (go_simp <;> exact wrapi64_in _ (by omega) (by omega))
  refine chain_val (.int .i64 ((at_ : Int) + (k : Int))) (S := [36]) rfl ?_ ?_
  · intro ρ w' hE hB hs
    have h36 : ρ (.tmp 36) = .pointer (some ⟨p, 1, none⟩) := hs 36 (by decide)
    clear hs
    refine if_t (by rfl) ?_
    have hcl := (hB.cell (p := ⟨p, 1, none⟩) hp).trans HC.out.c1
    go_simp
  refine chain_val (.int .i64 (k : Int)) (S := [1]) rfl ?_ ?_
  · intro ρ w' hE hB hs
    have h1 : ρ (.tmp 1) = .int .i64 (k : Int) := hs 1 (by decide)
    clear hs
    refine if_t (by rfl) ?_
    (go_simp <;> exact wrapi64_in _ (by omega) (by omega))
  refine chain_val (.int .i64 (at_ : Int)) (S := [37, 38]) rfl ?_ ?_
  · intro ρ w' hE hB hs
    have h37 : ρ (.tmp 37) = .int .i64 ((at_ : Int) + (k : Int)) := hs 37 (by decide)
    have h38 : ρ (.tmp 38) = .int .i64 (k : Int) := hs 38 (by decide)
    clear hs
    refine if_t (by rfl) ?_
    go_simp
    rw [wrapi64_in _ (by omega) (by omega)]
  refine chain_val (.pointer (some ⟨p, 0, none⟩)) (S := [0]) rfl ?_ ?_
  · intro ρ w' hE hB hs
    have h0 : ρ (.tmp 0) = .pointer (some ⟨p, 0, none⟩) := hs 0 (by decide)
    clear hs
    refine if_t (by rfl) ?_
    (go_simp <;> exact wrapi64_in _ (by omega) (by omega))
  refine chain_val (.pointer (some ⟨p, 0, none⟩)) (S := [40]) rfl ?_ ?_
  · intro ρ w' hE hB hs
    have h40 : ρ (.tmp 40) = .pointer (some ⟨p, 0, none⟩) := hs 40 (by decide)
    clear hs
    refine if_t (by rfl) ?_
    (go_simp <;> exact wrapi64_in _ (by omega) (by omega))
  refine chain_val (.pointer (some ⟨p, 1, none⟩)) (S := [41]) rfl ?_ ?_
  · intro ρ w' hE hB hs
    have h41 : ρ (.tmp 41) = .pointer (some ⟨p, 0, none⟩) := hs 41 (by decide)
    clear hs
    refine if_t (by rfl) ?_
    (go_simp <;> exact wrapi64_in _ (by omega) (by omega))
  refine chain_val (.int .i64 ((at_ : Int) + (k : Int))) (S := [42]) rfl ?_ ?_
  · intro ρ w' hE hB hs
    have h42 : ρ (.tmp 42) = .pointer (some ⟨p, 1, none⟩) := hs 42 (by decide)
    clear hs
    refine if_t (by rfl) ?_
    have hcl := (hB.cell (p := ⟨p, 1, none⟩) hp).trans HC.out.c1
    go_simp
  refine chain_fact (RdF .u8 ((xs.drop at_).take k)) (RdF.stable _ _) (S := [33, 39, 43]) rfl ?_ ?_
  · intro ρ w' hE hB hs
    have h33 : ρ (.tmp 33) = .slice A n c := hs 33 (by decide)
    have h39 : ρ (.tmp 39) = .int .i64 (at_ : Int) := hs 39 (by decide)
    have h43 : ρ (.tmp 43) = .int .i64 ((at_ : Int) + (k : Int)) := hs 43 (by decide)
    clear hs
    refine if_t (by rfl) ?_
    have hr := (HC.out.rd.below hB).sliced (l := at_) (j := at_ + k) (by omega) (by omega)
    have hrun := run_lh (P := Try.prog) (w := w') elemU8 A n c (l := at_) (j := at_ + k) (by omega) (by omega) .i64 .i64
    rw [Nat.add_sub_cancel_left] at hr hrun
    rw [show ((at_ + k : Nat) : Int) = (at_ : Int) + (k : Int) from by omega] at hrun
    refine ⟨_, ?_, _, _, _, rfl, hr⟩
    unfold execOp
    simp only [Option.map, h33, h39, h43, hrun, Sem.run_bind, Result.andThen_ok, Sem.run_pure]
  refine chain_append0 (base := w1.heap.size) (k := .u8) (xs := ((xs.drop at_).take k)) (S := [29, 44]) elemU8 rfl rfl (by omega) ?_ (by omega) (by omega) ?_
  · intro ρ w' hE hB hs
    have h29 : (LitF (w1.heap.size) 5) (ρ (.tmp 29)) w' := hs 29 (by decide)
    have h44 : (RdF .u8 ((xs.drop at_).take k)) (ρ (.tmp 44)) w' := hs 44 (by decide)
    clear hs
    refine ⟨(by rfl), h29, ?_⟩
    exact h44
  intro w1 hB1
  simp only [List.reverse_cons, List.reverse_nil, List.nil_append, List.cons_append, Go.Free.Ends, forall_eq, Act.put, List.setIfInBounds_toArray, List.set_cons_zero, List.set_cons_succ]
  rintro _ _ _ _ _ ⟨A', n', c', rfl, hown⟩
  have HO := Lib.hid hown
  have HB := Lib.hid hB1
  clear hown hB1
  go_wp2
  go_ret2
  exact ⟨⟨_, _, _, rfl, Rd.own HO.out⟩, HC.out.below HB.out, HM.out.trans (.of_below HB.out)⟩
end Go.Proofs.Ythpndhdpohmoaaa
