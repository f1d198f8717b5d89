/-
  slices.Chunk: pieces of a slice, handed out.
-/
import Derived.Deep.CutBlock
import Derived.Test.YtkbcmblgieoleaaG10
import Derived.Test.YtkbcmblgieoleaaG16
import Derived.Test.YtkbcmblgieoleaaG20
import Derived.Test.YtkbcmblgieoleaaG23
import Derived.Test.YtkbcmblgieoleaaG26
namespace Go.Cor
open Go Go.RowKit
theorem run_lhm {P : Program} {w : World} {t e : TypeId} {z : Value} {bytes : Nat} (ht : ElemT P t e z 1 bytes) (A : Option Addr) (n c : Nat) {l j : Nat} (hlj : l < j) (hj : j ≤ c) (kl kh km : IntKind) :
    (Instr.sliceAt t (.slice A n c) (some (.int kl l)) (some (.int kh j)) (some (.int km j))).run P w = .ok (.slice (A.map (·.add l)) (j - l) (j - l)) w := by
  rw [run_sliceAt_slice _ _ _ _ _ _ ht.und', run_slice_lhm _ _ _ _ _ ht.und' _ _ _ _ _ _ (by omega) (by omega) (by omega) (by omega), ht.size']
  simp only [Result.andThen, Go.sliced, Int.toNat_natCast, Nat.mul_one]
  rw [if_neg (by omega)]
/-- a piece, as a value -/
def ckV (A : Option Addr) (c : Nat × Nat) : Array Value := #[.slice (A.map (·.add c.1)) c.2 c.2]
/-- a piece reads as that part -/
theorem Rd.piece {w : World} {k : IntKind} {A : Option Addr} {n c : Nat} {xs : List Int} (h : Rd w k A n c xs) {l m : Nat} (hm : 0 < m) (hl : l + m ≤ n) : Rd w k (A.map (·.add l)) m m ((xs.drop l).take m) := by
  have hlen := h.len
  refine ⟨by rw [List.length_take, List.length_drop]; omega, Nat.le_refl _, by have := h.cap; have := h.max; omega, ?_, fun _ => ?_⟩
  · intro e
    cases A with
    | none => have := h.nil rfl; have := h.cap; omega
    | some a => simp at e
  · obtain ⟨b, o, rfl, hb, hg⟩ := h.get (by omega)
    refine ⟨b, o + l, by simp [Addr.add], hb, fun i hi => ?_⟩
    rw [Nat.add_assoc, hg _ (by omega)]
    simp [List.getD_eq_getElem?_getD, List.getElem?_take, List.getElem?_drop, hi]
/-- each piece is no longer than asked, holds something and lies within -/
theorem cks_at {m n i : Nat} (hm : 0 < m) : (cks m n)[i]? = if m * i < n then some (m * i, min m (n - m * i)) else none := by
  unfold cks
  rw [List.getElem?_map]
  by_cases h : m * i < n
  · rw [if_pos h, List.getElem?_range (by
      have : i + 1 ≤ (n + m - 1) / m := (Nat.le_div_iff_mul_le hm).2 (by rw [Nat.add_mul, Nat.mul_comm i]; omega)
      omega)]
    rfl
  · rw [if_neg h, List.getElem?_eq_none (by
      rw [List.length_range]
      have : (n + m - 1) / m < i + 1 := (Nat.div_lt_iff_lt_mul hm).2 (by rw [Nat.add_mul, Nat.mul_comm i]; omega)
      omega)]
    rfl
theorem cks_take_snoc {m n i : Nat} (hm : 0 < m) (h : m * i < n) : (cks m n).take i ++ [(m * i, min m (n - m * i))] = (cks m n).take (i + 1) := by
  rw [List.take_add_one, cks_at hm, if_pos h]; rfl
theorem cks_take_all {m n i : Nat} (hm : 0 < m) (h : n ≤ m * i) : (cks m n).take i = cks m n := by
  refine List.take_of_length_le ?_
  have h1 := cks_at (n := n) (i := i) hm
  rw [if_neg (by omega)] at h1
  exact List.getElem?_eq_none_iff.1 h1
theorem cks_mem {m n : Nat} (hm : 0 < m) {c : Nat × Nat} (h : c ∈ cks m n) : 0 < c.2 ∧ c.2 ≤ m ∧ c.1 + c.2 ≤ n := by
  obtain ⟨i, hi⟩ := List.mem_iff_getElem?.1 h
  rw [cks_at hm] at hi
  split at hi
  · cases hi; simp only; omega
  · cases hi
theorem cks_len {m n : Nat} : (cks m n).length = (n + m - 1) / m := by simp [cks]
theorem cks_pre {m n : Nat} (hm : 0 < m) {pre : List (Nat × Nat)} {c : Nat × Nat} (h : (pre ++ [c]) <+: cks m n) : 0 < c.2 ∧ c.2 ≤ m ∧ c.1 + c.2 ≤ n := cks_mem hm (h.subset (by simp))
end Go.Cor
namespace Go.Proofs.Ytkbcmblgieoleaa
open Go.RowKit Go.Cor Go.Free

theorem chunks_any (A : Option Addr) (n c m : Nat) (hm : 0 < m) (w : World) :
    Calls Try.prog 39 #[.slice A n c, .int .i64 m] w fun e w' => e = .returned (.func (.func 86) #[] #[.pointer (some ⟨w.heap.size, 0, none⟩), .pointer (some ⟨w.heap.size + 1, 0, none⟩)]) ∧ (w.alloc (.cells #[.slice A n c] 22)).alloc (.cells #[.int .i64 m] 3) = w' := by
  have hd : decide ((m : Int) < 1) = false := by simp; omega
  go_enter Try.func39, Try.ntmps39
  go_wp2
  go_ret
  exact ⟨rfl, rfl⟩

set_option maxRecDepth 100000 in
set_option maxHeartbeats 8000000 in
theorem chunks_iter (A : Option Addr) (n c m b1 b2 : Nat) (w0 : World) (hc : n ≤ c) (hm : 0 < m) (hm2 : m ≤ 1024) (hn : n ≤ 2000) (h1 : Box w0 b1 22 (.slice A n c)) (h2 : Box w0 b2 3 (.int .i64 m)) :
    Iter Try.prog 86 #[.pointer (some ⟨b1, 0, none⟩), .pointer (some ⟨b2, 0, none⟩)] (ckV A) (cks m n) (fun j => j = b1 ∨ j = b2) (fun _ => False) w0 := by
  intro l J W hW hWs hJ hY hJ0
  refine callsIn_wide.2 ?_
  have g1 : Box W b1 22 (.slice A n c) := h1.keep hW (.inl rfl)
  have g2 : Box W b2 3 (.int .i64 m) := h2.keep hW (.inr rfl)
  have HY := Lib.hid hY
  have HJ := Lib.hid hJ
  have H := Lib.hid (And.intro g1 (And.intro g2 hJ0))
  clear hY hJ g1 g2 hJ0 h1 h2 hW hWs
  go_enter Try.func86, Try.ntmps86
  go_wp2
  go_loopg [4] (n + m) (fun gg v4 wr => ∃ i q : Nat, v4 = .int .i64 q ∧ q ≤ n + m ∧ gg = n + m - q ∧ Hid (m * i = q ∧ Box wr b1 22 (.slice A n c) ∧ Box wr b2 3 (.int .i64 m) ∧ J ((cks m n).take i) wr))
  case atStart => exact ⟨0, 0, rfl, by omega, by omega, Lib.hid ⟨by simp, H.out.1, H.out.2.1, H.out.2.2⟩⟩
  case round =>
    obtain ⟨i, q, rfl, hq, rfl, hI⟩ := hrel
    obtain ⟨wo, rfl⟩ : ∃ wo, wo = wr := ⟨_, rfl⟩
    obtain ⟨hiq, g1, g2, hJi⟩ := hI.out
    have c1 := cell_of_one g1
    have c2 := cell_of_one g2
    have B1 := Lib.hid g1
    have B2 := Lib.hid g2
    have HIQ := Lib.hid hiq
    have HJI := Lib.hid hJi
    by_cases hlt : q < n
    · have hd : decide (q < n) = true := by simp; omega
      have hsn := cks_take_snoc (n := n) hm (show m * i < n by omega)
      rw [hiq] at hsn
      obtain ⟨t, ht⟩ : ∃ t, min m (n - q) = t := ⟨_, rfl⟩
      rw [ht] at hsn
      have et : min (m : Int) ((n - q : Nat) : Int) = (t : Int) := by omega
      have ht0 : 0 < t := by omega
      have htm : t ≤ m := by omega
      have htn : q + t ≤ n := by omega
      have HSN := Lib.hid hsn
      obtain ⟨A16, hA16⟩ : ∃ A16, ∀ w : World, (Instr.sliceAt 22 (.slice A n c) (some (.int .i64 q)) none none).run Try.prog w = .ok (.slice A16 (n - q) (c - q)) w := ⟨_, fun w => by rw [run_l elemI64 A n c (by omega) .i64]⟩
      have hA28 : ∀ w : World, (Instr.sliceAt 22 (.slice A n c) (some (.int .i64 q)) (some (.int .i64 ((q : Int) + (t : Int)))) (some (.int .i64 ((q : Int) + (t : Int))))).run Try.prog w = .ok (.slice (A.map (·.add q)) t t) w := fun w => by
        rw [show (q : Int) + (t : Int) = ((q + t : Nat) : Int) by omega, run_lhm elemI64 A n c (by omega) (by omega) .i64 .i64 .i64, show q + t - q = t by omega]
      clear hiq g1 g2 hJi hsn ht hI
      go_upto_region 3 with fail
      refine wp_region_free 7 (by kernel_rfl) (by kernel_rfl) ?_
      refine chain_val (.int .i64 m) (S := [2]) rfl ?_ ?_
      · intro ρ w' hE hB hs
        have h2 : ρ (.tmp 2) = .pointer (some ⟨b2, 0, none⟩) := hs 2 (by decide)
        clear hs
        refine if_t (by rfl) ?_
        have hcl := cell_of_one (B2.out.below hB (lt_of_block B2.out))
        go_simp
      refine chain_val (.slice A n c) (S := [1]) rfl ?_ ?_
      · intro ρ w' hE hB hs
        have h1 : ρ (.tmp 1) = .pointer (some ⟨b1, 0, none⟩) := hs 1 (by decide)
        clear hs
        refine if_t (by rfl) ?_
        have hcl := cell_of_one (B1.out.below hB (lt_of_block B1.out))
        go_simp
      refine chain_val (.int .i64 q) (S := [4]) rfl ?_ ?_
      · intro ρ w' hE hB hs
        have h4 : ρ (.tmp 4) = .int .i64 q := hs 4 (by decide)
        clear hs
        refine if_t (by rfl) ?_
        (go_simp <;> exact wrapi64_in _ (by omega) (by omega))
      refine chain_val (.slice A16 (n - q) (c - q)) (S := [14, 15]) rfl ?_ ?_
      · intro ρ w' hE hB hs
        have h14 : ρ (.tmp 14) = .slice A n c := hs 14 (by decide)
        have h15 : ρ (.tmp 15) = .int .i64 q := hs 15 (by decide)
        clear hs
        refine if_t (by rfl) ?_
        go_simp
      refine chain_val (.int .i64 ((n - q : Nat) : Int)) (S := [16]) rfl ?_ ?_
      · intro ρ w' hE hB hs
        have h16 : ρ (.tmp 16) = .slice A16 (n - q) (c - q) := hs 16 (by decide)
        clear hs
        refine if_t (by rfl) ?_
        (go_simp <;> exact wrapi64_in _ (by omega) (by omega))
      refine chain_val (.int .i64 (t : Int)) (S := [13, 17]) rfl ?_ ?_
      · intro ρ w' hE hB hs
        have h13 : ρ (.tmp 13) = .int .i64 m := hs 13 (by decide)
        have h17 : ρ (.tmp 17) = .int .i64 ((n - q : Nat) : Int) := hs 17 (by decide)
        clear hs
        refine if_t (by rfl) ?_
        (go_simp; split <;> omega)
      refine chain_val (.int .i64 (t : Int)) (S := [18]) rfl ?_ ?_
      · intro ρ w' hE hB hs
        have h18 : ρ (.tmp 18) = .int .i64 (t : Int) := hs 18 (by decide)
        clear hs
        refine if_t (by rfl) ?_
        (go_simp <;> exact wrapi64_in _ (by omega) (by omega))
      intro w1 hB1
      simp only [List.reverse_cons, List.reverse_nil, List.nil_append, List.cons_append, Go.Free.Ends, forall_eq, Act.put, List.setIfInBounds_toArray, List.set_cons_zero, List.set_cons_succ]
      have hJ1 := HJ.out _ _ _ HJI.out (.of_below hB1)
      have b1' := B1.out.below hB1 (lt_of_block B1.out)
      have b2' := B2.out.below hB1 (lt_of_block B2.out)
      have c1' := cell_of_one b1'
      have c2' := cell_of_one b2'
      obtain ⟨fn, tmps, assign, body, hy, hR⟩ := HY.out ((cks m n).take i) (q, t) w1 (by rw [HSN.out]; exact List.take_prefix _ _) hJ1
      have hy' : (Instr.yield l #[.slice (A.map (·.add q)) t t]).run Try.prog w1 = .ok (.round l fn tmps assign body) w1 := hy
      have HRR := Lib.hid hR
      have B1' := Lib.hid b1'
      have B2' := Lib.hid b2'
      clear hJ1 hy hR b1' b2' hB1 hA16
      go_upto_region 4 with fail
      refine (wpIn_wide (n := 0)).1 ?_
      gi_wp2
      refine ⟨rfl, HRR.out.mono ?_⟩
      rintro e W3 ⟨rfl, hJ3, hk3⟩
      have b1'' := B1'.out.keep hk3 (.inl rfl)
      have b2'' := B2'.out.keep hk3 (.inr rfl)
      have c1'' := cell_of_one b1''
      have c2'' := cell_of_one b2''
      have HF := Lib.hid (And.intro b1'' (And.intro b2'' hJ3))
      clear b1'' b2'' hJ3 hk3
      gi_wp2
      go_wp2_with fail
      go_roundg (n + m - (q + m))
      case measure => omega
      case rel => exact ⟨i + 1, q + m, by go_num, by omega, rfl, Lib.hid ⟨by rw [Nat.mul_add, HIQ.out, Nat.mul_one], HF.out.1, HF.out.2.1, by rw [← HSN.out]; exact HF.out.2.2⟩⟩
    · have hd : decide (q < n) = false := by simp; omega
      have hall := cks_take_all (n := n) (i := i) hm (by omega)
      have HA := Lib.hid hall
      clear hall hiq
      go_wp2
      go_end0
      exact ⟨⟨_, rfl⟩, by rw [← HA.out]; exact HJI.out⟩
theorem chunku_any (A : Option Addr) (n c m : Nat) (hm : 0 < m) (w : World) :
    Calls Try.prog 42 #[.slice A n c, .int .i64 m] w fun e w' => e = .returned (.func (.func 87) #[] #[.pointer (some ⟨w.heap.size, 0, none⟩), .pointer (some ⟨w.heap.size + 1, 0, none⟩)]) ∧ (w.alloc (.cells #[.slice A n c] 51)).alloc (.cells #[.int .i64 m] 3) = w' := by
  have hd : decide ((m : Int) < 1) = false := by simp; omega
  go_enter Try.func42, Try.ntmps42
  go_wp2
  go_ret
  exact ⟨rfl, rfl⟩

set_option maxRecDepth 100000 in
set_option maxHeartbeats 8000000 in
theorem chunku_iter (A : Option Addr) (n c m b1 b2 : Nat) (w0 : World) (hc : n ≤ c) (hm : 0 < m) (hm2 : m ≤ 1024) (hn : n ≤ 2000) (h1 : Box w0 b1 51 (.slice A n c)) (h2 : Box w0 b2 3 (.int .i64 m)) :
    Iter Try.prog 87 #[.pointer (some ⟨b1, 0, none⟩), .pointer (some ⟨b2, 0, none⟩)] (ckV A) (cks m n) (fun j => j = b1 ∨ j = b2) (fun _ => False) w0 := by
  intro l J W hW hWs hJ hY hJ0
  refine callsIn_wide.2 ?_
  have g1 : Box W b1 51 (.slice A n c) := h1.keep hW (.inl rfl)
  have g2 : Box W b2 3 (.int .i64 m) := h2.keep hW (.inr rfl)
  have HY := Lib.hid hY
  have HJ := Lib.hid hJ
  have H := Lib.hid (And.intro g1 (And.intro g2 hJ0))
  clear hY hJ g1 g2 hJ0 h1 h2 hW hWs
  go_enter Try.func87, Try.ntmps87
  go_wp2
  go_loopg [4] (n + m) (fun gg v4 wr => ∃ i q : Nat, v4 = .int .i64 q ∧ q ≤ n + m ∧ gg = n + m - q ∧ Hid (m * i = q ∧ Box wr b1 51 (.slice A n c) ∧ Box wr b2 3 (.int .i64 m) ∧ J ((cks m n).take i) wr))
  case atStart => exact ⟨0, 0, rfl, by omega, by omega, Lib.hid ⟨by simp, H.out.1, H.out.2.1, H.out.2.2⟩⟩
  case round =>
    obtain ⟨i, q, rfl, hq, rfl, hI⟩ := hrel
    obtain ⟨wo, rfl⟩ : ∃ wo, wo = wr := ⟨_, rfl⟩
    obtain ⟨hiq, g1, g2, hJi⟩ := hI.out
    have c1 := cell_of_one g1
    have c2 := cell_of_one g2
    have B1 := Lib.hid g1
    have B2 := Lib.hid g2
    have HIQ := Lib.hid hiq
    have HJI := Lib.hid hJi
    by_cases hlt : q < n
    · have hd : decide (q < n) = true := by simp; omega
      have hsn := cks_take_snoc (n := n) hm (show m * i < n by omega)
      rw [hiq] at hsn
      obtain ⟨t, ht⟩ : ∃ t, min m (n - q) = t := ⟨_, rfl⟩
      rw [ht] at hsn
      have et : min (m : Int) ((n - q : Nat) : Int) = (t : Int) := by omega
      have ht0 : 0 < t := by omega
      have htm : t ≤ m := by omega
      have htn : q + t ≤ n := by omega
      have HSN := Lib.hid hsn
      obtain ⟨A16, hA16⟩ : ∃ A16, ∀ w : World, (Instr.sliceAt 51 (.slice A n c) (some (.int .i64 q)) none none).run Try.prog w = .ok (.slice A16 (n - q) (c - q)) w := ⟨_, fun w => by rw [run_l elemU64 A n c (by omega) .i64]⟩
      have hA28 : ∀ w : World, (Instr.sliceAt 51 (.slice A n c) (some (.int .i64 q)) (some (.int .i64 ((q : Int) + (t : Int)))) (some (.int .i64 ((q : Int) + (t : Int))))).run Try.prog w = .ok (.slice (A.map (·.add q)) t t) w := fun w => by
        rw [show (q : Int) + (t : Int) = ((q + t : Nat) : Int) by omega, run_lhm elemU64 A n c (by omega) (by omega) .i64 .i64 .i64, show q + t - q = t by omega]
      clear hiq g1 g2 hJi hsn ht hI
      go_upto_region 3 with fail
      refine wp_region_free 7 (by kernel_rfl) (by kernel_rfl) ?_
      refine chain_val (.int .i64 m) (S := [2]) rfl ?_ ?_
      · intro ρ w' hE hB hs
        have h2 : ρ (.tmp 2) = .pointer (some ⟨b2, 0, none⟩) := hs 2 (by decide)
        clear hs
        refine if_t (by rfl) ?_
        have hcl := cell_of_one (B2.out.below hB (lt_of_block B2.out))
        go_simp
      refine chain_val (.slice A n c) (S := [1]) rfl ?_ ?_
      · intro ρ w' hE hB hs
        have h1 : ρ (.tmp 1) = .pointer (some ⟨b1, 0, none⟩) := hs 1 (by decide)
        clear hs
        refine if_t (by rfl) ?_
        have hcl := cell_of_one (B1.out.below hB (lt_of_block B1.out))
        go_simp
      refine chain_val (.int .i64 q) (S := [4]) rfl ?_ ?_
      · intro ρ w' hE hB hs
        have h4 : ρ (.tmp 4) = .int .i64 q := hs 4 (by decide)
        clear hs
        refine if_t (by rfl) ?_
        (go_simp <;> exact wrapi64_in _ (by omega) (by omega))
      refine chain_val (.slice A16 (n - q) (c - q)) (S := [14, 15]) rfl ?_ ?_
      · intro ρ w' hE hB hs
        have h14 : ρ (.tmp 14) = .slice A n c := hs 14 (by decide)
        have h15 : ρ (.tmp 15) = .int .i64 q := hs 15 (by decide)
        clear hs
        refine if_t (by rfl) ?_
        go_simp
      refine chain_val (.int .i64 ((n - q : Nat) : Int)) (S := [16]) rfl ?_ ?_
      · intro ρ w' hE hB hs
        have h16 : ρ (.tmp 16) = .slice A16 (n - q) (c - q) := hs 16 (by decide)
        clear hs
        refine if_t (by rfl) ?_
        (go_simp <;> exact wrapi64_in _ (by omega) (by omega))
      refine chain_val (.int .i64 (t : Int)) (S := [13, 17]) rfl ?_ ?_
      · intro ρ w' hE hB hs
        have h13 : ρ (.tmp 13) = .int .i64 m := hs 13 (by decide)
        have h17 : ρ (.tmp 17) = .int .i64 ((n - q : Nat) : Int) := hs 17 (by decide)
        clear hs
        refine if_t (by rfl) ?_
        (go_simp; split <;> omega)
      refine chain_val (.int .i64 (t : Int)) (S := [18]) rfl ?_ ?_
      · intro ρ w' hE hB hs
        have h18 : ρ (.tmp 18) = .int .i64 (t : Int) := hs 18 (by decide)
        clear hs
        refine if_t (by rfl) ?_
        (go_simp <;> exact wrapi64_in _ (by omega) (by omega))
      intro w1 hB1
      simp only [List.reverse_cons, List.reverse_nil, List.nil_append, List.cons_append, Go.Free.Ends, forall_eq, Act.put, List.setIfInBounds_toArray, List.set_cons_zero, List.set_cons_succ]
      have hJ1 := HJ.out _ _ _ HJI.out (.of_below hB1)
      have b1' := B1.out.below hB1 (lt_of_block B1.out)
      have b2' := B2.out.below hB1 (lt_of_block B2.out)
      have c1' := cell_of_one b1'
      have c2' := cell_of_one b2'
      obtain ⟨fn, tmps, assign, body, hy, hR⟩ := HY.out ((cks m n).take i) (q, t) w1 (by rw [HSN.out]; exact List.take_prefix _ _) hJ1
      have hy' : (Instr.yield l #[.slice (A.map (·.add q)) t t]).run Try.prog w1 = .ok (.round l fn tmps assign body) w1 := hy
      have HRR := Lib.hid hR
      have B1' := Lib.hid b1'
      have B2' := Lib.hid b2'
      clear hJ1 hy hR b1' b2' hB1 hA16
      go_upto_region 4 with fail
      refine (wpIn_wide (n := 0)).1 ?_
      gi_wp2
      refine ⟨rfl, HRR.out.mono ?_⟩
      rintro e W3 ⟨rfl, hJ3, hk3⟩
      have b1'' := B1'.out.keep hk3 (.inl rfl)
      have b2'' := B2'.out.keep hk3 (.inr rfl)
      have c1'' := cell_of_one b1''
      have c2'' := cell_of_one b2''
      have HF := Lib.hid (And.intro b1'' (And.intro b2'' hJ3))
      clear b1'' b2'' hJ3 hk3
      gi_wp2
      go_wp2_with fail
      go_roundg (n + m - (q + m))
      case measure => omega
      case rel => exact ⟨i + 1, q + m, by go_num, by omega, rfl, Lib.hid ⟨by rw [Nat.mul_add, HIQ.out, Nat.mul_one], HF.out.1, HF.out.2.1, by rw [← HSN.out]; exact HF.out.2.2⟩⟩
    · have hd : decide (q < n) = false := by simp; omega
      have hall := cks_take_all (n := n) (i := i) hm (by omega)
      have HA := Lib.hid hall
      clear hall hiq
      go_wp2
      go_end0
      exact ⟨⟨_, rfl⟩, by rw [← HA.out]; exact HJI.out⟩
end Go.Proofs.Ytkbcmblgieoleaa
