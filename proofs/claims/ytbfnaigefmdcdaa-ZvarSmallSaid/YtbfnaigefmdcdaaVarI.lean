/-
  Chapter 4's functions that go through a number's digits: a range over a function.
-/
import Derived.Test.YtbfnaigefmdcdaaVar
import Derived.Test.YtbfnaigefmdcdaaRange
import Derived.RangeFuncNested
import Derived.RangeFuncBound
import Derived.RangeFuncCalls
import Derived.RangeFuncLeaves
import Derived.OwnWalkIn
import Derived.TacticsInMore
import Derived.LoopNIn
import Derived.LoopIn
namespace Go.Proofs.Ytbfnaigefmdcdaa
open Go.RowKit Go.Cor
attribute [local go_sem] Oper.semAt_some

theorem or_more (u : Int) (_h0 : 0 ≤ u) : bits .or .u8 (u % 256) 128 = u % 128 + 128 := by
  obtain ⟨a, ha⟩ := Int.eq_ofNat_of_zero_le (show 0 ≤ u % 256 by omega)
  have h1 : a < 256 := by omega
  have key : ∀ x : Fin 256, x.val ||| 128 = x.val % 128 + 128 := by decide +kernel
  have h2 := key ⟨a, h1⟩
  have h3 := bits_u8 .or a 128 h1 (by decide)
  simp only [] at h2 h3
  rw [ha]
  rw [h2] at h3
  rw [show ((128 : Nat) : Int) = 128 from rfl] at h3
  rw [h3]
  omega

/-- the number in a box -/
def boxN (w : World) (b : Nat) : Nat := match w.cell? ⟨b, 0, none⟩ with | some (.int _ q) => q.toNat | _ => 0
theorem boxN_eq {w : World} {b : Nat} {t : TypeId} {k : IntKind} {q : Int} (h : Box w b t (.int k q)) : boxN w b = q.toNat := by unfold boxN; rw [cell_of_one h]

set_option maxRecDepth 100000 in
set_option maxHeartbeats 1000000 in
theorem digits_iter (u0 : Nat) (h0 : (u0 : Int) ≤ 18446744073709551615) (b : Nat) (w0 : World) (hbox : Box w0 b 45 (.int .u64 u0)) :
    Iter Try.prog 91 #[.pointer (some ⟨b, 0, none⟩)] (fun x : Int => #[.int .u8 x]) (vput u0) (fun k => k = b) (fun k => k = b) w0 := by
  intro l J W hW hWs hJ hY hJ0
  have hb0 : Box W b 45 (.int .u64 u0) := hbox.keep hW rfl
  refine callsIn_of_wp Try.func91 rfl trivial ?_ rfl
  simp only [Try.ntmps91, List.size_toArray, List.length_cons, List.length_nil, Nat.reduceAdd, Nat.reduceSub, Array.replicate_succ, Array.replicate_zero, List.push_toArray, List.append_toArray, List.nil_append, List.cons_append]
  have H := Lib.hid (⟨hb0, hJ0⟩ : Box W b 45 (.int .u64 u0) ∧ J [] W)
  have HY := Lib.hid hY
  have HJ := Lib.hid hJ
  clear hb0 hJ0 hY hJ hbox hW hWs
  gi_wp2
  gi_loopw [3, 4, 5, 6, 7, 8, 9, 10, 11, 12] (fun _ _ _ _ _ _ _ _ _ _ wr => ∃ (u : Nat) (pre : List Int), (u : Int) ≤ 18446744073709551615 ∧ Hid (Box wr b 45 (.int .u64 u) ∧ vput u0 = pre ++ vput u ∧ J pre wr))
    (fun _ _ _ _ _ _ _ _ _ _ wr => boxN wr b)
  case atStart => exact ⟨u0, [], h0, Lib.hid ⟨H.out.1, rfl, H.out.2⟩⟩
  case round =>
    obtain ⟨u, pre, hu, hI⟩ := hrel
    have hc := cell_of_one hI.out.1
    have hf := free_of_one hI.out.1
    by_cases hlt : 128 ≤ u
    · have e : vput u0 = (pre ++ [bits .or .u8 ((u : Int) % 256) 128]) ++ vput (u / 128) := by rw [hI.out.2.1, or_more _ (by omega), vput_split u hlt]
      obtain ⟨fn, tmps, assign, body, hy, hR⟩ := HY.out pre (bits .or .u8 ((u : Int) % 256) 128) wr ⟨_, e.symm⟩ hI.out.2.2
      have E := Lib.hid e
      clear e
      gi_wp2
      refine ⟨rfl, hR.mono ?_⟩
      rintro e W3 ⟨rfl, hJ3, hk3⟩
      have hb3 : Box W3 b 45 (.int .u64 u) := hI.out.1.keep hk3 rfl
      have HB3 := Lib.hid hb3
      have hc3 := cell_of_one hb3
      have hf3 := free_of_one hb3
      clear hb3 hk3 hc hf hy hR
      gi_wp2
      go_roundw
      case rel =>
        refine ⟨u / 128, _, by omega, Lib.hid ⟨?_, E.out, ?_⟩⟩
        · have := one_setCell (u := .int .u64 (u / 128)) HB3.out; simpa using this
        · exact HJ.out _ _ _ hJ3 (.setCell _ (fun h => h rfl) _)
      case measure =>
        rw [boxN_eq (one_setCell HB3.out), boxN_eq hI.out.1]; omega
    · obtain ⟨fn, tmps, assign, body, hy, hR⟩ := HY.out pre (u : Int) wr ⟨[], by rw [hI.out.2.1, vput_small (by omega)]; simp⟩ hI.out.2.2
      gi_wp2
      refine ⟨rfl, hR.mono ?_⟩
      rintro e W3 ⟨rfl, hJ3, hk3⟩
      gi_wp2
      go_end0
      refine ⟨⟨_, rfl⟩, ?_⟩
      rw [hI.out.2.1, vput_small (by omega)]
      exact hJ3

set_option maxHeartbeats 400000 in
theorem digits_any (v : Int) (w : World) :
    Calls Try.prog 68 #[.int .u64 v] w fun e w' => e = .returned (.func (.func 91) #[] #[.pointer (some ⟨w.heap.size, 0, none⟩)]) ∧ w.alloc (.cells #[.int .u64 v] 45) = w' := by
  go_enter Try.func68, Try.ntmps68
  go_wp2
  go_ret
  exact ⟨rfl, rfl⟩

set_option maxRecDepth 100000 in
set_option maxHeartbeats 1000000 in
theorem put_any (A : Option Addr) (n c : Nat) (xs : List Int) (v : Nat) (w : World) (h : Rd w .u8 A n c xs) (hn : n ≤ 100000) (hv : (v : Int) ≤ 18446744073709551615) :
    Calls Try.prog 45 #[.slice A n c, .int .u64 v] w (RetRow w.heap.size 5 .u8 w (xs ++ vput v)) := by
  refine (callsIn_wide (n := 0)).1 (callsIn_of_wp_marks (F := Fence.wide) Try.func45 rfl trivial ?_ rfl)
  simp only [Try.ntmps45, List.size_toArray, List.length_cons, List.length_nil, Nat.reduceAdd, Nat.reduceSub, Array.replicate_succ, Array.replicate_zero, List.push_toArray, List.append_toArray, List.nil_append, List.cons_append]
  have H := Lib.hid h
  have HN := Lib.hid hn
  have HV := Lib.hid hv
  clear h hn hv
  gi_wp2_with (first | (refine ⟨trivial, rfl, ?_⟩; gi_at_call 73; refine (callsIn_wide.2 (clone_any A n c xs _ H.out (by have := HN.out; omega))).mono ?_; rintro e w1 ⟨A1, n1, c1, rfl, hown1, hb1⟩) | (refine ⟨trivial, rfl, ?_⟩; gi_at_call 68; refine (callsIn_wide.2 (digits_any _ _)).mono ?_; rintro e w2 ⟨rfl, rfl⟩))
  have hB : w.heap.size ≤ w1.heap.size := hb1.size
  obtain ⟨W0, hW0⟩ : ∃ W0, (w1.alloc (.cells #[.slice A1 n1 c1] 29)).alloc (.cells #[.int .u64 (v : Int)] 45) = W0 := ⟨_, rfl⟩
  rw [hW0]
  have hs0 : W0.heap.size = w1.heap.size + 2 := by rw [← hW0]; simp
  have hbo : Box W0 w1.heap.size 29 (.slice A1 n1 c1) := by rw [← hW0]; exact (Box.new _ _ _).alloc _
  have hbv : Box W0 (w1.heap.size + 1) 45 (.int .u64 (v : Int)) := by rw [← hW0]; have := Box.new (w1.alloc (.cells #[.slice A1 n1 c1] 29)) 45 (.int .u64 (v : Int)); rwa [World.size_alloc] at this
  have how : Owns W0 w.heap.size 5 .u8 A1 n1 c1 xs := by rw [← hW0]; exact (hown1.alloc _).alloc _
  have hbl : Below w.heap.size w W0 := by rw [← hW0]; exact (hb1.alloc hB _).alloc (by simp; omega) _
  have hb1v : ∀ k, (Value.slice A1 n1 c1).ownBlock = some k → k < w1.heap.size := fun k hk => (hown1.lt k hk).2
  clear hb1 hown1
  refine wpIn_range (w0 := W0) (encs := fun x : Int => #[.int .u8 x]) rfl (enters_f Try.func91 (by kernel_rfl) rfl) (digits_iter v HV.out (w1.heap.size + 1) W0 hbv) (Keep.refl _ _) (fun k hk => by omega) (fun k hk => by omega) (fun _ => rfl)
    (fun pre W => ∃ A n c, Box W w1.heap.size 29 (.slice A n c) ∧ Owns W w.heap.size 5 .u8 A n c (xs ++ pre) ∧ ((Value.slice A n c).ownBlock ≠ some w1.heap.size ∧ (Value.slice A n c).ownBlock ≠ some (w1.heap.size + 1)) ∧ Below w.heap.size w W) ?stab ?start ?round ?done
  case stab =>
    rintro pre W W' ⟨A, n, c, h1, h2, h3, h4⟩ hk
    refine ⟨A, n, c, h1.keep hk ⟨by omega, fun h => h1.cells h.2⟩, owns_keep h2 hk (fun g hg hc => ⟨fun e => h3.2 (by rw [hg, e]), fun h => hc h.2⟩), h3, h4.trans (below_keep hk (by have := h4.size; omega) (fun k hk => ⟨by omega, fun h => by omega⟩))⟩
  case start => exact ⟨A1, n1, c1, hbo, by simpa using how, ⟨fun e => by have := hb1v _ e; omega, fun e => by have := hb1v _ e; omega⟩, hbl⟩
  case round =>
    intro l pre x W hpre hI hsz
    have hl : pre.length < 10 := by
      have h1 := hpre.length_le
      have h2 := vput_len_u64 v (by have := HV.out; omega)
      simp at h1; omega
    gi_wp2
    refine ⟨Keep.refl _ _, hI, ?_⟩
    rintro W2 ⟨A, n, c, h1, h2, h3, h4⟩ hst
    have hc := cell_of_one h1
    have hf := free_of_one h1
    have hn2 : n ≤ 100009 := by
      have e1 := h2.1
      have e2 := H.out.len
      have e3 := HN.out
      simp at e1; omega
    have H1 := Lib.hid h1
    have H2 := Lib.hid h2
    have H3 := Lib.hid h3
    have H4 := Lib.hid h4
    have HS := Lib.hid (show w1.heap.size + 2 ≤ W2.heap.size by have := hst.size; omega)
    clear h1 h2 h3 h4 hst hI hsz hpre hb1v hbl how hbv hbo hs0
    gi_wp2_with (gi_at_builtin; refine wpListIn_append_r rfl rfl elemU8 (H2.out.alloc _) rfl (RdV.one (Box.new _ _ _)) rfl one_one (by omega) (by omega) (by have := H4.out.size; simp; omega) ?_; intro A' c' w' hown hg hat; have hb' := (H1.out.alloc _).grown hg H3.out.1; have hc' := cell_of_one hb'; have hf' := free_of_one hb'; have HB' := Lib.hid hb'; clear hb')
    refine ⟨?_, A', n + 1, c', ?_, ?_, ⟨?_, ?_⟩, ?_⟩
    · have k1 : RoundKeep (fun k => k = w1.heap.size + 1) W2 w' := by
        refine RoundKeep.trans (.alloc _ _ _) (.grown hg fun k hk => ?_)
        rintro (h | h)
        · exact H3.out.2 (by rw [hk, h])
        · exact owns_cells (H2.out.alloc _) hk h
      refine RoundKeep.trans k1 (.setCell _ ?_ _)
      rintro (h | h)
      · simp at h
      · exact HB'.out.cells h
    · exact one_setCell HB'.out
    · have := ownsRow_setCell_other (owns_snoc hown) (a := ⟨w1.heap.size, 0, none⟩) (own_ne hat H3.out.1 (by have := HS.out; simp; omega)) (.slice A' (n + 1) c')
      rw [← List.append_assoc]; exact this
    · exact own_ne hat H3.out.1 (by have := HS.out; simp; omega)
    · exact own_ne hat H3.out.2 (by have := HS.out; simp; omega)
    · exact (below_grown (H4.out.alloc H4.out.size _) (H2.out.alloc _) hg (by have := H4.out.size; simp; omega)).setCell (p := ⟨w1.heap.size, 0, none⟩) hB _
  case done =>
    rintro D W hD ⟨A, n, c, h1, h2, h3, h4⟩ hK
    have hc := cell_of_one h1
    gi_wp2
    refine leaves_mark hK (results_tmp rfl _ _ _) ⟨A, n, c, rfl, ?_, ?_⟩
    · exact owns_keep h2 (S := fun W k => ¬ NonCell W k) (.putObj _ (fun h => h ⟨_, hK, rfl⟩) _) (fun _ _ h => h)
    · exact h4.trans (below_keep (S := fun _ k => k < w.heap.size) (.putObj _ (by omega) _) (by have := h4.size; omega) (fun k hk => hk))

set_option maxRecDepth 100000 in
set_option maxHeartbeats 1000000 in
theorem size_any (v : Nat) (w : World) (hv : (v : Int) ≤ 18446744073709551615) :
    Calls Try.prog 35 #[.int .u64 v] w fun e w' => e = .returned (.int .i64 ((vput v).length : Int)) ∧ Below w.heap.size w w' := by
  refine (callsIn_wide (n := 0)).1 (callsIn_of_wp_marks (F := Fence.wide) Try.func35 rfl trivial ?_ rfl)
  simp only [Try.ntmps35, List.size_toArray, List.length_cons, List.length_nil, Nat.reduceAdd, Nat.reduceSub, Array.replicate_succ, Array.replicate_zero, List.push_toArray, List.append_toArray, List.nil_append, List.cons_append]
  have HV := Lib.hid hv
  clear hv
  gi_wp2_with (refine ⟨trivial, rfl, ?_⟩; gi_at_call 68; refine (callsIn_wide.2 (digits_any _ _)).mono ?_; rintro e w2 ⟨rfl, rfl⟩)
  obtain ⟨W0, hW0⟩ : ∃ W0, (w.alloc (.cells #[.int .i64 0] 3)).alloc (.cells #[.int .u64 (v : Int)] 45) = W0 := ⟨_, rfl⟩
  rw [hW0]
  have hs0 : W0.heap.size = w.heap.size + 2 := by rw [← hW0]; simp
  have hbo : Box W0 w.heap.size 3 (.int .i64 0) := by rw [← hW0]; exact (Box.new _ _ _).alloc _
  have hbv : Box W0 (w.heap.size + 1) 45 (.int .u64 (v : Int)) := by rw [← hW0]; have := Box.new (w.alloc (.cells #[.int .i64 0] 3)) 45 (.int .u64 (v : Int)); rwa [World.size_alloc] at this
  have hbl : Below w.heap.size w W0 := by rw [← hW0]; exact ((Below.refl _ _).alloc (Nat.le_refl _) _).alloc (by simp) _
  refine wpIn_range (w0 := W0) (encs := fun x : Int => #[.int .u8 x]) rfl (enters_f Try.func91 (by kernel_rfl) rfl) (digits_iter v HV.out (w.heap.size + 1) W0 hbv) (Keep.refl _ _) (fun k hk => by omega) (fun k hk => by omega) (fun _ => rfl)
    (fun pre W => Box W w.heap.size 3 (.int .i64 (pre.length : Int)) ∧ Below w.heap.size w W) ?stab ?start ?round ?done
  case stab =>
    rintro pre W W' ⟨h1, h4⟩ hk
    refine ⟨h1.keep hk ⟨by omega, fun h => h1.cells h.2⟩, h4.trans (below_keep hk (by have := h4.size; omega) (fun k hk => ⟨by omega, fun h => by omega⟩))⟩
  case start => exact ⟨hbo, hbl⟩
  case round =>
    intro l pre x W hpre hI hsz
    have hl : pre.length < 10 := by
      have h1 := hpre.length_le
      have h2 := vput_len_u64 v (by have := HV.out; omega)
      simp at h1; omega
    gi_wp2
    refine ⟨Keep.refl _ _, hI, ?_⟩
    rintro W2 ⟨h1, h4⟩ hst
    have hc := cell_of_one h1
    have hf := free_of_one h1
    have H1 := Lib.hid h1
    have H4 := Lib.hid h4
    clear h1 h4 hst hI hsz hpre hbl hbv hbo hs0
    gi_wp2
    refine ⟨?_, ?_, ?_⟩
    · refine .setCell _ ?_ _
      rintro (h | h)
      · simp at h
      · exact H1.out.cells h
    · have := one_setCell (u := .int .i64 ((pre.length : Int) + 1)) H1.out
      simpa using this
    · exact H4.out.setCell (p := ⟨w.heap.size, 0, none⟩) (Nat.le_refl _) _
  case done =>
    rintro D W hD ⟨h1, h4⟩ hK
    have hc := cell_of_one h1
    gi_wp2
    refine leaves_mark hK (results_tmp rfl _ _ _) ⟨rfl, ?_⟩
    exact h4.trans (below_keep (S := fun _ k => k < w.heap.size) (.putObj _ (by omega) _) (by have := h4.size; omega) (fun k hk => hk))
end Go.Proofs.Ytbfnaigefmdcdaa
