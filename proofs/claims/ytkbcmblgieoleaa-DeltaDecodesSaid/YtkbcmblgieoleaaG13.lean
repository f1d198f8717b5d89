/-
  Chapter 4's functions that go through a number's digits: a range over a function.
  Chapter 4's examples (awake).
  The reference's Get.
-/
import Derived.RangeFuncNested
import Derived.RangeFuncBound
import Derived.RangeFuncCalls
import Derived.RangeFuncLeaves
import Derived.OwnWalkIn
import Derived.TacticsInMore
import Derived.LoopNIn
import Derived.LoopIn
import Derived.Test.YtkbcmblgieoleaaG3
import Derived.Test.YtkbcmblgieoleaaG6
import Derived.Test.YtkbcmblgieoleaaG9
namespace Go.Proofs.Ytkbcmblgieoleaa
open Go.RowKit Go.Cor
attribute [local go_sem] Oper.semAt_some

theorem or_more (u : Int) (_h0 : 0 ≤ u) : bits .or .u8 (u % 256) 128 = u % 128 + 128 := by
  obtain ⟨a, ha⟩ := Int.eq_ofNat_of_zero_le (show 0 ≤ u % 256 by omega)
  have h1 : a < 256 := by omega
  have key : ∀ x : Fin 256, x.val ||| 128 = x.val % 128 + 128 := by decide +kernel
  have h2 := key ⟨a, h1⟩
  have h3 := bits_u8 .or a 128 h1 (by decide)
  simp only [] at h2 h3
  rw [ha]
  rw [h2] at h3
  rw [show ((128 : Nat) : Int) = 128 from rfl] at h3
  rw [h3]
  omega

/-- the number in a box -/
def boxN (w : World) (b : Nat) : Nat := match w.cell? ⟨b, 0, none⟩ with | some (.int _ q) => q.toNat | _ => 0
theorem boxN_eq {w : World} {b : Nat} {t : TypeId} {k : IntKind} {q : Int} (h : Box w b t (.int k q)) : boxN w b = q.toNat := by unfold boxN; rw [cell_of_one h]

set_option maxRecDepth 100000 in
set_option maxHeartbeats 1000000 in
theorem digits_iter (u0 : Nat) (h0 : (u0 : Int) ≤ 18446744073709551615) (b : Nat) (w0 : World) (hbox : Box w0 b 32 (.int .u64 u0)) :
    Iter Try.prog 127 #[.pointer (some ⟨b, 0, none⟩)] (fun x : Int => #[.int .u8 x]) (vput u0) (fun k => k = b) (fun k => k = b) w0 := by
  intro l J W hW hWs hJ hY hJ0
  have hb0 : Box W b 32 (.int .u64 u0) := hbox.keep hW rfl
  refine callsIn_of_wp Try.func127 rfl trivial ?_ rfl
  simp only [Try.ntmps127, List.size_toArray, List.length_cons, List.length_nil, Nat.reduceAdd, Nat.reduceSub, Array.replicate_succ, Array.replicate_zero, List.push_toArray, List.append_toArray, List.nil_append, List.cons_append]
  have H := Lib.hid (⟨hb0, hJ0⟩ : Box W b 32 (.int .u64 u0) ∧ J [] W)
  have HY := Lib.hid hY
  have HJ := Lib.hid hJ
  clear hb0 hJ0 hY hJ hbox hW hWs
  gi_wp2
  gi_loopw [3, 4, 5, 6, 7, 8, 9, 10, 11, 12] (fun _ _ _ _ _ _ _ _ _ _ wr => ∃ (u : Nat) (pre : List Int), (u : Int) ≤ 18446744073709551615 ∧ Hid (Box wr b 32 (.int .u64 u) ∧ vput u0 = pre ++ vput u ∧ J pre wr))
    (fun _ _ _ _ _ _ _ _ _ _ wr => boxN wr b)
  case atStart => exact ⟨u0, [], h0, Lib.hid ⟨H.out.1, rfl, H.out.2⟩⟩
  case round =>
    obtain ⟨u, pre, hu, hI⟩ := hrel
    have hc := cell_of_one hI.out.1
    have hf := free_of_one hI.out.1
    by_cases hlt : 128 ≤ u
    · have e : vput u0 = (pre ++ [bits .or .u8 ((u : Int) % 256) 128]) ++ vput (u / 128) := by rw [hI.out.2.1, or_more _ (by omega), vput_split u hlt]
      obtain ⟨fn, tmps, assign, body, hy, hR⟩ := HY.out pre (bits .or .u8 ((u : Int) % 256) 128) wr ⟨_, e.symm⟩ hI.out.2.2
      have E := Lib.hid e
      clear e
      gi_wp2
      refine ⟨rfl, hR.mono ?_⟩
      rintro e W3 ⟨rfl, hJ3, hk3⟩
      have hb3 : Box W3 b 32 (.int .u64 u) := hI.out.1.keep hk3 rfl
      have HB3 := Lib.hid hb3
      have hc3 := cell_of_one hb3
      have hf3 := free_of_one hb3
      clear hb3 hk3 hc hf hy hR
      gi_wp2
      go_roundw
      case rel =>
        refine ⟨u / 128, _, by omega, Lib.hid ⟨?_, E.out, ?_⟩⟩
        · have := one_setCell (u := .int .u64 (u / 128)) HB3.out; simpa using this
        · exact HJ.out _ _ _ hJ3 (.setCell _ (fun h => h rfl) _)
      case measure =>
        rw [boxN_eq (one_setCell HB3.out), boxN_eq hI.out.1]; omega
    · obtain ⟨fn, tmps, assign, body, hy, hR⟩ := HY.out pre (u : Int) wr ⟨[], by rw [hI.out.2.1, vput_small (by omega)]; simp⟩ hI.out.2.2
      gi_wp2
      refine ⟨rfl, hR.mono ?_⟩
      rintro e W3 ⟨rfl, hJ3, hk3⟩
      gi_wp2
      go_end0
      refine ⟨⟨_, rfl⟩, ?_⟩
      rw [hI.out.2.1, vput_small (by omega)]
      exact hJ3

set_option maxHeartbeats 400000 in
theorem digits_any (v : Int) (w : World) :
    Calls Try.prog 85 #[.int .u64 v] w fun e w' => e = .returned (.func (.func 127) #[] #[.pointer (some ⟨w.heap.size, 0, none⟩)]) ∧ w.alloc (.cells #[.int .u64 v] 32) = w' := by
  go_enter Try.func85, Try.ntmps85
  go_wp2
  go_ret
  exact ⟨rfl, rfl⟩

set_option maxRecDepth 100000 in
set_option maxHeartbeats 1000000 in
theorem put_any (A : Option Addr) (n c : Nat) (xs : List Int) (v : Nat) (w : World) (h : Rd w .u8 A n c xs) (hn : n ≤ 100000) (hv : (v : Int) ≤ 18446744073709551615) :
    Calls Try.prog 58 #[.slice A n c, .int .u64 v] w (RetRow w.heap.size 5 .u8 w (xs ++ vput v)) := by
  refine (callsIn_wide (n := 0)).1 (callsIn_of_wp_marks (F := Fence.wide) Try.func58 rfl trivial ?_ rfl)
  simp only [Try.ntmps58, List.size_toArray, List.length_cons, List.length_nil, Nat.reduceAdd, Nat.reduceSub, Array.replicate_succ, Array.replicate_zero, List.push_toArray, List.append_toArray, List.nil_append, List.cons_append]
  have H := Lib.hid h
  have HN := Lib.hid hn
  have HV := Lib.hid hv
  clear h hn hv
  gi_wp2_with (first | (refine ⟨trivial, rfl, ?_⟩; gi_at_call 103; refine (callsIn_wide.2 (clone_any A n c xs _ H.out (by have := HN.out; omega))).mono ?_; rintro e w1 ⟨A1, n1, c1, rfl, hown1, hb1⟩) | (refine ⟨trivial, rfl, ?_⟩; gi_at_call 85; refine (callsIn_wide.2 (digits_any _ _)).mono ?_; rintro e w2 ⟨rfl, rfl⟩))
  have hB : w.heap.size ≤ w1.heap.size := hb1.size
  obtain ⟨W0, hW0⟩ : ∃ W0, (w1.alloc (.cells #[.slice A1 n1 c1] 30)).alloc (.cells #[.int .u64 (v : Int)] 32) = W0 := ⟨_, rfl⟩
  rw [hW0]
  have hs0 : W0.heap.size = w1.heap.size + 2 := by rw [← hW0]; simp
  have hbo : Box W0 w1.heap.size 30 (.slice A1 n1 c1) := by rw [← hW0]; exact (Box.new _ _ _).alloc _
  have hbv : Box W0 (w1.heap.size + 1) 32 (.int .u64 (v : Int)) := by rw [← hW0]; have := Box.new (w1.alloc (.cells #[.slice A1 n1 c1] 30)) 32 (.int .u64 (v : Int)); rwa [World.size_alloc] at this
  have how : Owns W0 w.heap.size 5 .u8 A1 n1 c1 xs := by rw [← hW0]; exact (hown1.alloc _).alloc _
  have hbl : Below w.heap.size w W0 := by rw [← hW0]; exact (hb1.alloc hB _).alloc (by simp; omega) _
  have hb1v : ∀ k, (Value.slice A1 n1 c1).ownBlock = some k → k < w1.heap.size := fun k hk => (hown1.lt k hk).2
  clear hb1 hown1
  refine wpIn_range (w0 := W0) (encs := fun x : Int => #[.int .u8 x]) rfl (enters_f Try.func127 (by kernel_rfl) rfl) (digits_iter v HV.out (w1.heap.size + 1) W0 hbv) (Keep.refl _ _) (fun k hk => by omega) (fun k hk => by omega) (fun _ => rfl)
    (fun pre W => ∃ A n c, Box W w1.heap.size 30 (.slice A n c) ∧ Owns W w.heap.size 5 .u8 A n c (xs ++ pre) ∧ ((Value.slice A n c).ownBlock ≠ some w1.heap.size ∧ (Value.slice A n c).ownBlock ≠ some (w1.heap.size + 1)) ∧ Below w.heap.size w W) ?stab ?start ?round ?done
  case stab =>
    rintro pre W W' ⟨A, n, c, h1, h2, h3, h4⟩ hk
    refine ⟨A, n, c, h1.keep hk ⟨by omega, fun h => h1.cells h.2⟩, owns_keep h2 hk (fun g hg hc => ⟨fun e => h3.2 (by rw [hg, e]), fun h => hc h.2⟩), h3, h4.trans (below_keep hk (by have := h4.size; omega) (fun k hk => ⟨by omega, fun h => by omega⟩))⟩
  case start => exact ⟨A1, n1, c1, hbo, by simpa using how, ⟨fun e => by have := hb1v _ e; omega, fun e => by have := hb1v _ e; omega⟩, hbl⟩
  case round =>
    intro l pre x W hpre hI hsz
    have hl : pre.length < 10 := by
      have h1 := hpre.length_le
      have h2 := vput_len_u64 v (by have := HV.out; omega)
      simp at h1; omega
    gi_wp2
    refine ⟨Keep.refl _ _, hI, ?_⟩
    rintro W2 ⟨A, n, c, h1, h2, h3, h4⟩ hst
    have hc := cell_of_one h1
    have hf := free_of_one h1
    have hn2 : n ≤ 100009 := by
      have e1 := h2.1
      have e2 := H.out.len
      have e3 := HN.out
      simp at e1; omega
    have H1 := Lib.hid h1
    have H2 := Lib.hid h2
    have H3 := Lib.hid h3
    have H4 := Lib.hid h4
    have HS := Lib.hid (show w1.heap.size + 2 ≤ W2.heap.size by have := hst.size; omega)
    clear h1 h2 h3 h4 hst hI hsz hpre hb1v hbl how hbv hbo hs0
    gi_wp2_with (gi_at_builtin; refine wpListIn_append_r rfl rfl elemU8 (H2.out.alloc _) rfl (RdV.one (Box.new _ _ _)) rfl one_one (by omega) (by omega) (by have := H4.out.size; simp; omega) ?_; intro A' c' w' hown hg hat; have hb' := (H1.out.alloc _).grown hg H3.out.1; have hc' := cell_of_one hb'; have hf' := free_of_one hb'; have HB' := Lib.hid hb'; clear hb')
    refine ⟨?_, A', n + 1, c', ?_, ?_, ⟨?_, ?_⟩, ?_⟩
    · have k1 : RoundKeep (fun k => k = w1.heap.size + 1) W2 w' := by
        refine RoundKeep.trans (.alloc _ _ _) (.grown hg fun k hk => ?_)
        rintro (h | h)
        · exact H3.out.2 (by rw [hk, h])
        · exact owns_cells (H2.out.alloc _) hk h
      refine RoundKeep.trans k1 (.setCell _ ?_ _)
      rintro (h | h)
      · simp at h
      · exact HB'.out.cells h
    · exact one_setCell HB'.out
    · have := ownsRow_setCell_other (owns_snoc hown) (a := ⟨w1.heap.size, 0, none⟩) (own_ne hat H3.out.1 (by have := HS.out; simp; omega)) (.slice A' (n + 1) c')
      rw [← List.append_assoc]; exact this
    · exact own_ne hat H3.out.1 (by have := HS.out; simp; omega)
    · exact own_ne hat H3.out.2 (by have := HS.out; simp; omega)
    · exact (below_grown (H4.out.alloc H4.out.size _) (H2.out.alloc _) hg (by have := H4.out.size; simp; omega)).setCell (p := ⟨w1.heap.size, 0, none⟩) hB _
  case done =>
    rintro D W hD ⟨A, n, c, h1, h2, h3, h4⟩ hK
    have hc := cell_of_one h1
    gi_wp2
    refine leaves_mark hK (results_tmp rfl _ _ _) ⟨A, n, c, rfl, ?_, ?_⟩
    · exact owns_keep h2 (S := fun W k => ¬ NonCell W k) (.putObj _ (fun h => h ⟨_, hK, rfl⟩) _) (fun _ _ h => h)
    · exact h4.trans (below_keep (S := fun _ k => k < w.heap.size) (.putObj _ (by omega) _) (by have := h4.size; omega) (fun k hk => hk))

set_option maxRecDepth 100000 in
set_option maxHeartbeats 1000000 in
theorem size_any (v : Nat) (w : World) (hv : (v : Int) ≤ 18446744073709551615) :
    Calls Try.prog 37 #[.int .u64 v] w fun e w' => e = .returned (.int .i64 ((vput v).length : Int)) ∧ Below w.heap.size w w' := by
  refine (callsIn_wide (n := 0)).1 (callsIn_of_wp_marks (F := Fence.wide) Try.func37 rfl trivial ?_ rfl)
  simp only [Try.ntmps37, List.size_toArray, List.length_cons, List.length_nil, Nat.reduceAdd, Nat.reduceSub, Array.replicate_succ, Array.replicate_zero, List.push_toArray, List.append_toArray, List.nil_append, List.cons_append]
  have HV := Lib.hid hv
  clear hv
  gi_wp2_with (refine ⟨trivial, rfl, ?_⟩; gi_at_call 85; refine (callsIn_wide.2 (digits_any _ _)).mono ?_; rintro e w2 ⟨rfl, rfl⟩)
  obtain ⟨W0, hW0⟩ : ∃ W0, (w.alloc (.cells #[.int .i64 0] 3)).alloc (.cells #[.int .u64 (v : Int)] 32) = W0 := ⟨_, rfl⟩
  rw [hW0]
  have hs0 : W0.heap.size = w.heap.size + 2 := by rw [← hW0]; simp
  have hbo : Box W0 w.heap.size 3 (.int .i64 0) := by rw [← hW0]; exact (Box.new _ _ _).alloc _
  have hbv : Box W0 (w.heap.size + 1) 32 (.int .u64 (v : Int)) := by rw [← hW0]; have := Box.new (w.alloc (.cells #[.int .i64 0] 3)) 32 (.int .u64 (v : Int)); rwa [World.size_alloc] at this
  have hbl : Below w.heap.size w W0 := by rw [← hW0]; exact ((Below.refl _ _).alloc (Nat.le_refl _) _).alloc (by simp) _
  refine wpIn_range (w0 := W0) (encs := fun x : Int => #[.int .u8 x]) rfl (enters_f Try.func127 (by kernel_rfl) rfl) (digits_iter v HV.out (w.heap.size + 1) W0 hbv) (Keep.refl _ _) (fun k hk => by omega) (fun k hk => by omega) (fun _ => rfl)
    (fun pre W => Box W w.heap.size 3 (.int .i64 (pre.length : Int)) ∧ Below w.heap.size w W) ?stab ?start ?round ?done
  case stab =>
    rintro pre W W' ⟨h1, h4⟩ hk
    refine ⟨h1.keep hk ⟨by omega, fun h => h1.cells h.2⟩, h4.trans (below_keep hk (by have := h4.size; omega) (fun k hk => ⟨by omega, fun h => by omega⟩))⟩
  case start => exact ⟨hbo, hbl⟩
  case round =>
    intro l pre x W hpre hI hsz
    have hl : pre.length < 10 := by
      have h1 := hpre.length_le
      have h2 := vput_len_u64 v (by have := HV.out; omega)
      simp at h1; omega
    gi_wp2
    refine ⟨Keep.refl _ _, hI, ?_⟩
    rintro W2 ⟨h1, h4⟩ hst
    have hc := cell_of_one h1
    have hf := free_of_one h1
    have H1 := Lib.hid h1
    have H4 := Lib.hid h4
    clear h1 h4 hst hI hsz hpre hbl hbv hbo hs0
    gi_wp2
    refine ⟨?_, ?_, ?_⟩
    · refine .setCell _ ?_ _
      rintro (h | h)
      · simp at h
      · exact H1.out.cells h
    · have := one_setCell (u := .int .i64 ((pre.length : Int) + 1)) H1.out
      simpa using this
    · exact H4.out.setCell (p := ⟨w.heap.size, 0, none⟩) (Nat.le_refl _) _
  case done =>
    rintro D W hD ⟨h1, h4⟩ hK
    have hc := cell_of_one h1
    gi_wp2
    refine leaves_mark hK (results_tmp rfl _ _ _) ⟨rfl, ?_⟩
    exact h4.trans (below_keep (S := fun _ k => k < w.heap.size) (.putObj _ (by omega) _) (by have := h4.size; omega) (fun k hk => hk))
end Go.Proofs.Ytkbcmblgieoleaa

namespace Go.Proofs.Ytkbcmblgieoleaa
open Go.RowKit Go.Cor Go.Free

end Go.Proofs.Ytkbcmblgieoleaa

namespace Go.Proofs.Ytkbcmblgieoleaa
open Go.RowKit Go.Cor

theorem vnum_nonneg : ∀ {xs : List Int}, (∀ x ∈ xs, 0 ≤ x) → 0 ≤ vnum xs
  | [], _ => by simp [vnum]
  | x :: r, h => by
    have := vnum_nonneg (xs := r) (fun y hy => h y (by simp [hy]))
    simp only [vnum]; omega
theorem vnum_lt : ∀ {xs : List Int} {k : Nat}, xs.length ≤ k → vnum xs < 128 ^ k
  | [], k, _ => by simp only [vnum]; exact Int.pow_pos (by decide)
  | x :: r, k, h => by
    cases k with
    | zero => simp at h
    | succ k =>
      have := vnum_lt (xs := r) (k := k) (by simpa using h)
      simp only [vnum]; rw [Int.pow_succ]; omega

theorem vnum_drop {l : List Int} (h : ∀ x ∈ l, 0 ≤ x) : ∀ j, vnum (l.drop j) ≤ vnum l
  | 0 => by simp
  | j + 1 => by
    cases l with
    | nil => simp
    | cons x r =>
      have h1 := vnum_drop (l := r) (fun y hy => h y (by simp [hy])) j
      have h2 := vnum_nonneg (xs := r) (fun y hy => h y (by simp [hy]))
      simp only [List.drop_succ_cons, vnum]
      omega
theorem vnum_at {l : List Int} {j : Nat} (h : j < l.length) : vnum (l.drop j) = l[j]?.getD 0 % 128 + 128 * vnum (l.drop (j + 1)) := by
  rw [drop_cons_getD l 0 h, vnum]
theorem vnum_top (xs : List Int) (m : Nat) (hb : ∀ x ∈ xs, 0 ≤ x ∧ x ≤ 255) (hm : m ≤ 9) (hl : m < xs.length) (h9 : m = 9 → xs[m]?.getD 0 ≤ 1) : vnum (xs.take (m + 1)) ≤ 18446744073709551615 := by
  by_cases h : m = 9
  · subst h
    have hx := h9 rfl
    have key : ∀ (l : List Int) (k : Nat), k < l.length → (∀ x ∈ l, 0 ≤ x) → l[k]?.getD 0 ≤ 1 → vnum (l.take (k + 1)) < 128 ^ k * 2 := by
      intro l
      induction l with
      | nil => intro k hk; simp at hk
      | cons x r ih =>
        intro k hk h0 h1
        cases k with
        | zero => simp at h1; have := h0 x (by simp); simp [vnum]; omega
        | succ k =>
          have := ih k (by simpa using hk) (fun y hy => h0 y (by simp [hy])) (by simpa using h1)
          simp only [List.take_succ_cons, vnum]
          rw [Int.pow_succ]
          omega
    have := key xs 9 hl (fun x hx => (hb x hx).1) hx
    omega
  · have := vnum_lt (xs := xs.take (m + 1)) (k := 9) (by simp; omega)
    omega

set_option maxHeartbeats 2000000 in
set_option maxRecDepth 20000 in
theorem refGet_any (A : Option Addr) (n c : Nat) (xs : List Int) (w : World) (h : Rd w .u8 A n c xs) (hb : ∀ x ∈ xs, 0 ≤ x ∧ x ≤ 255) (hn : n ≤ 1000000) :
    Calls Try.prog 51 #[.slice A n c] w fun e w' => e = .returned (.tuple #[.int .u64 (vget 0 xs).1, .int .i64 (vget 0 xs).2.1, .int .i64 (vget 0 xs).2.2]) ∧ w = w' := by
  have hcs := vget_cases xs (fun x hx => (hb x hx).1) 0 (by decide)
  have hll := lead_le xs
  rw [h.len] at hll hcs
  obtain ⟨m, hm⟩ : ∃ m, min 10 (lead xs) = m := ⟨_, rfl⟩
  have hm10 : m ≤ 10 := by omega
  have hmn : m ≤ n := by omega
  have HC := Lib.hid (⟨hcs, hm, hll⟩ : _ ∧ min 10 (lead xs) = m ∧ lead xs ≤ n)
  have H := Lib.hid h
  have HB := Lib.hid hb
  clear hcs hm hll h hb
  go_enter Try.func51, Try.ntmps51
  go_wp2
  go_loop [5, 8, 9, 10, 11, 12, 13, 14, 15, 16, 17, 18, 19, 20, 21, 22, 23, 24] (fun n5 _ _ _ _ _ _ _ _ _ _ _ _ _ _ _ _ _ => ∃ k : Nat, k ≤ m ∧ n5 = .int .i64 k)
    (fun n5 _ _ _ _ _ _ _ _ _ _ _ _ _ _ _ _ _ => n - (intOf n5).toNat)
  case atStart => exact ⟨0, by omega, rfl⟩
  case round =>
    obtain ⟨k, hk, rfl⟩ := hrel
    by_cases hlt : k < m
    · obtain ⟨b, o, rfl, _, hc⟩ := H.out.get (by omega)
      have hcell := hc k (by omega)
      have hx : 127 < xs[k]?.getD 0 := by have := lead_lt (b := xs) (j := k) (by have := HC.out.2.1; omega); simpa using this
      have h1 : decide (k < n) = true := by simp; omega
      have h2 : decide ((k : Int) < 10) = true := by simp; omega
      clear hc
      go_wp2
      go_round
      case rel => exact ⟨k + 1, by omega, by go_num⟩
      case measure => simp [intOf] <;> omega
    · obtain rfl : k = m := by omega
      have hC := HC.out.1
      have hm' := HC.out.2.1
      have hll := HC.out.2.2
      simp only [Nat.zero_add] at hC
      by_cases c1 : 10 ≤ lead xs
      · have HR : vget 0 xs = (0, 0, 9) := by rw [hC, if_pos (.inl c1)]
        obtain rfl : k = 10 := by omega
        clear hC hm' hll
        have HR' := Lib.hid HR
        clear HR
        go_wp2
        all_goals (go_ret3; rw [HR'.out]; exact ⟨rfl, rfl⟩)
      have hkL : k = lead xs := by omega
      rw [← hkL] at hC
      by_cases c2 : k = n
      · have HR : vget 0 xs = (0, 0, 1) := by
          have e1 : ¬ (10 ≤ k ∨ (k = 9 ∧ k < n ∧ 1 < xs.getD k 0)) := by omega
          rw [hC, if_neg e1, if_pos c2]
        have HR' := Lib.hid HR
        have hk9 : k ≤ 9 := by omega
        clear HR hC hkL hm' hll c1
        subst c2
        go_wp2
        all_goals (go_ret3; rw [HR'.out]; exact ⟨rfl, rfl⟩)
      have hkn : k < n := by omega
      obtain ⟨b, o, rfl, _, hc⟩ := H.out.get (by omega)
      have hx := lead_at (b := xs) (by rw [← hkL, H.out.len]; exact hkn)
      rw [← hkL] at hx
      have hx' : xs[k]?.getD 0 ≤ 127 := by simpa using hx
      have hk9 : k ≤ 9 := by omega
      have hlen := H.out.len
      have hget : xs.getD k 0 = xs[k]?.getD 0 := by simp
      rw [hget] at hC
      by_cases c3 : k = 9 ∧ 1 < xs[k]?.getD 0
      · have HR : vget 0 xs = (0, 0, 9) := by rw [hC, if_pos (.inr ⟨c3.1, by omega, c3.2⟩)]
        obtain ⟨rfl, c3⟩ := c3
        have hcell := hc 9 hkn
        have HR' := Lib.hid HR
        clear HR hC hkL hm' hll c1 c2 hx hget hlen hc
        go_wp2
        all_goals (go_ret3; rw [HR'.out]; exact ⟨rfl, rfl⟩)
      by_cases c4 : 0 < k ∧ xs[k]?.getD 0 = 0
      · have HR : vget 0 xs = (0, 0, 9) := by
          have e1 : ¬ (10 ≤ k ∨ (k = 9 ∧ k < n ∧ 1 < xs[k]?.getD 0)) := by omega
          rw [hC, if_neg e1, if_neg (by omega), if_pos c4]
        obtain ⟨c4, c5⟩ := c4
        have hcell := hc k hkn
        rw [hget, c5] at hcell
        have HR' := Lib.hid HR
        clear HR hC hkL hm' hll c1 hx hget hlen hc c5 hx' c3
        by_cases c6 : k = 9
        · subst c6
          go_wp2
          all_goals (go_ret3; rw [HR'.out]; exact ⟨rfl, rfl⟩)
        · go_wp2
          all_goals (go_ret3; rw [HR'.out]; exact ⟨rfl, rfl⟩)
      have HR : vget 0 xs = (vnum (xs.take (k + 1)), (k : Int) + 1, 0) := by
        have e1 : ¬ (10 ≤ k ∨ (k = 9 ∧ k < n ∧ 1 < xs[k]?.getD 0)) := by omega
        rw [hC, if_neg e1, if_neg (by omega), if_neg c4]; simp
      have hcell := hc k hkn
      rw [hget] at hcell
      have HR' := Lib.hid HR
      clear HR hC hkL hm' hll c1 hx hget hlen hc
      by_cases c6 : k = 9
      · subst c6
        have c7 : xs[9]?.getD 0 ≤ 1 := by omega
        have c8' : (xs[9]?.getD 0 == 0) = false := by simp; omega
        clear c3 c4
        have hvt := vnum_top xs 9 HB.out (by omega) (by have := H.out.len; omega) (fun h => by omega)
        have HV := Lib.hid hvt
        clear hvt
        go_wp2
        go_loop [6, 7, 57, 58, 59, 60, 61, 62, 63, 64, 65, 66, 67, 68, 69] (fun v6 i7 _ _ _ _ _ _ _ _ _ _ _ _ _ => ∃ j : Nat, j ≤ 9 + 1 ∧ i7 = .int .i64 ((j : Int) - 1) ∧ ∃ v : Int, v6 = .int .u64 v ∧ Hid (v = vnum ((xs.take (9 + 1)).drop j)))
          (fun _ i7 _ _ _ _ _ _ _ _ _ _ _ _ _ => (intOf i7 + 1).toNat)
        case atStart => exact ⟨9 + 1, Nat.le_refl _, by go_num, 0, rfl, Lib.hid (by rw [List.drop_of_length_le (by rw [List.length_take]; omega)]; rfl)⟩
        case round =>
          obtain ⟨j, hj, rfl, v, rfl, hv⟩ := hrel
          cases j with
          | zero =>
            go_wp2
            go_ret3
            rw [HR'.out]
            exact ⟨ret3i (by rw [hv.out, List.drop_zero]) (by simp) rfl, rfl⟩
          | succ j =>
            have hlen := H.out.len
            have hnn : ∀ x ∈ xs.take (9 + 1), 0 ≤ x := fun x hx => (HB.out x (List.mem_of_mem_take hx)).1
            have hat := vnum_at (l := xs.take (9 + 1)) (j := j) (by simp; omega)
            have hdr := vnum_drop hnn j
            have hge : 0 ≤ v := by rw [hv.out]; exact vnum_nonneg fun x hx => hnn x (List.mem_of_mem_drop hx)
            have htk : (xs.take (9 + 1))[j]?.getD 0 = xs[j]?.getD 0 := by rw [List.getElem?_take, if_pos (by omega)]
            rw [htk, ← hv.out] at hat
            have hb0 := (HB.out (xs[j]?.getD 0) (by rw [List.getElem?_eq_getElem (by omega)]; exact List.getElem_mem _))
            have hle : 128 * v + xs[j]?.getD 0 % 128 ≤ 18446744073709551615 := by have := HV.out; omega
            have hle0 : 128 * v ≤ 18446744073709551615 := by omega
            have hb0l := hb0.1
            have hb0r := hb0.2
            have HAT := Lib.hid hat
            obtain ⟨b, o, hA, _, hcj⟩ := H.out.get (by omega)
            injection hA with hA
            injection hA with hA1 hA2 _
            have hcell := hcj j (by omega)
            rw [← hA1, ← hA2] at hcell
            clear hcj hA1 hA2 hb0 hat hdr hnn htk hlen
            go_wp2
            go_round
            case rel => exact ⟨j, by omega, by go_num, _, rfl, Lib.hid (by rw [HAT.out]; omega)⟩
            case measure => simp [intOf] <;> omega
      · by_cases c8 : k = 0
        · subst c8
          rw [Nat.add_zero] at hcell
          clear c3 c4
          have hvt := vnum_top xs 0 HB.out (by omega) (by have := H.out.len; omega) (fun h => by omega)
          have HV := Lib.hid hvt
          clear hvt
          go_wp2
          go_loop [6, 7, 57, 58, 59, 60, 61, 62, 63, 64, 65, 66, 67, 68, 69] (fun v6 i7 _ _ _ _ _ _ _ _ _ _ _ _ _ => ∃ j : Nat, j ≤ 0 + 1 ∧ i7 = .int .i64 ((j : Int) - 1) ∧ ∃ v : Int, v6 = .int .u64 v ∧ Hid (v = vnum ((xs.take (0 + 1)).drop j)))
            (fun _ i7 _ _ _ _ _ _ _ _ _ _ _ _ _ => (intOf i7 + 1).toNat)
          case atStart => exact ⟨0 + 1, Nat.le_refl _, by go_num, 0, rfl, Lib.hid (by rw [List.drop_of_length_le (by rw [List.length_take]; omega)]; rfl)⟩
          case round =>
            obtain ⟨j, hj, rfl, v, rfl, hv⟩ := hrel
            cases j with
            | zero =>
              go_wp2
              go_ret3
              rw [HR'.out]
              exact ⟨ret3i (by rw [hv.out, List.drop_zero]) (by simp) rfl, rfl⟩
            | succ j =>
              have hlen := H.out.len
              have hnn : ∀ x ∈ xs.take (0 + 1), 0 ≤ x := fun x hx => (HB.out x (List.mem_of_mem_take hx)).1
              have hat := vnum_at (l := xs.take (0 + 1)) (j := j) (by simp; omega)
              have hdr := vnum_drop hnn j
              have hge : 0 ≤ v := by rw [hv.out]; exact vnum_nonneg fun x hx => hnn x (List.mem_of_mem_drop hx)
              have htk : (xs.take (0 + 1))[j]?.getD 0 = xs[j]?.getD 0 := by rw [List.getElem?_take, if_pos (by omega)]
              rw [htk, ← hv.out] at hat
              have hb0 := (HB.out (xs[j]?.getD 0) (by rw [List.getElem?_eq_getElem (by omega)]; exact List.getElem_mem _))
              have hle : 128 * v + xs[j]?.getD 0 % 128 ≤ 18446744073709551615 := by have := HV.out; omega
              have hle0 : 128 * v ≤ 18446744073709551615 := by omega
              have hb0l := hb0.1
              have hb0r := hb0.2
              have HAT := Lib.hid hat
              obtain ⟨b, o, hA, _, hcj⟩ := H.out.get (by omega)
              injection hA with hA
              injection hA with hA1 hA2 _
              have hcell := hcj j (by omega)
              rw [← hA1, ← hA2] at hcell
              clear hcj hA1 hA2 hb0 hat hdr hnn htk hlen
              go_wp2
              go_round
              case rel => exact ⟨j, by omega, by go_num, _, rfl, Lib.hid (by rw [HAT.out]; omega)⟩
              case measure => simp [intOf] <;> omega
        · have c8' : (xs[k]?.getD 0 == 0) = false := by simp; omega
          have c9 : 0 < k := by omega
          clear c3 c4 c8
          have hvt := vnum_top xs k HB.out (by omega) (by have := H.out.len; omega) (fun h => by omega)
          have HV := Lib.hid hvt
          clear hvt
          go_wp2
          go_loop [6, 7, 57, 58, 59, 60, 61, 62, 63, 64, 65, 66, 67, 68, 69] (fun v6 i7 _ _ _ _ _ _ _ _ _ _ _ _ _ => ∃ j : Nat, j ≤ k + 1 ∧ i7 = .int .i64 ((j : Int) - 1) ∧ ∃ v : Int, v6 = .int .u64 v ∧ Hid (v = vnum ((xs.take (k + 1)).drop j)))
            (fun _ i7 _ _ _ _ _ _ _ _ _ _ _ _ _ => (intOf i7 + 1).toNat)
          case atStart => exact ⟨k + 1, Nat.le_refl _, by go_num, 0, rfl, Lib.hid (by rw [List.drop_of_length_le (by rw [List.length_take]; omega)]; rfl)⟩
          case round =>
            obtain ⟨j, hj, rfl, v, rfl, hv⟩ := hrel
            cases j with
            | zero =>
              go_wp2
              go_ret3
              rw [HR'.out]
              exact ⟨ret3i (by rw [hv.out, List.drop_zero]) (by simp) rfl, rfl⟩
            | succ j =>
              have hlen := H.out.len
              have hnn : ∀ x ∈ xs.take (k + 1), 0 ≤ x := fun x hx => (HB.out x (List.mem_of_mem_take hx)).1
              have hat := vnum_at (l := xs.take (k + 1)) (j := j) (by simp; omega)
              have hdr := vnum_drop hnn j
              have hge : 0 ≤ v := by rw [hv.out]; exact vnum_nonneg fun x hx => hnn x (List.mem_of_mem_drop hx)
              have htk : (xs.take (k + 1))[j]?.getD 0 = xs[j]?.getD 0 := by rw [List.getElem?_take, if_pos (by omega)]
              rw [htk, ← hv.out] at hat
              have hb0 := (HB.out (xs[j]?.getD 0) (by rw [List.getElem?_eq_getElem (by omega)]; exact List.getElem_mem _))
              have hle : 128 * v + xs[j]?.getD 0 % 128 ≤ 18446744073709551615 := by have := HV.out; omega
              have hle0 : 128 * v ≤ 18446744073709551615 := by omega
              have hb0l := hb0.1
              have hb0r := hb0.2
              have HAT := Lib.hid hat
              obtain ⟨b, o, hA, _, hcj⟩ := H.out.get (by omega)
              injection hA with hA
              injection hA with hA1 hA2 _
              have hcell := hcj j (by omega)
              rw [← hA1, ← hA2] at hcell
              clear hcj hA1 hA2 hb0 hat hdr hnn htk hlen
              go_wp2
              go_round
              case rel => exact ⟨j, by omega, by go_num, _, rfl, Lib.hid (by rw [HAT.out]; omega)⟩
              case measure => simp [intOf] <;> omega
end Go.Proofs.Ytkbcmblgieoleaa
