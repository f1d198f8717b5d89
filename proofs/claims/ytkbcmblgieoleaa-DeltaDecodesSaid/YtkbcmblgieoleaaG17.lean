/-
  Chapter 1: how many bytes numbers need; a writer: what it holds, its making, its bytes; the reference's Fits.
-/
import Derived.Deep.LoopGhost
import Derived.Test.YtkbcmblgieoleaaG15
import Derived.Test.YtkbcmblgieoleaaG16
namespace Go.Proofs.Ytkbcmblgieoleaa
open Go.RowKit Go.Cor Go.Free

set_option maxHeartbeats 1000000 in
theorem need_any (n k : Nat) (hn : n ≤ 1024) (hk : k ≤ 64) (w : World) : Calls Try.prog 43 #[.int .i64 n, .int .i64 k] w fun e w' => e = .returned (.int .i64 (octets (n * k) : Nat)) ∧ w = w' := by
  have hb := fun w => bwide_any (k : Int) w
  rw [show decide (0 ≤ (k : Int) ∧ (k : Int) ≤ 64) = true by simp; omega] at hb
  have HB := Lib.hid hb
  clear hb
  have hm : n * k ≤ 1024 * 64 := Nat.mul_le_mul hn hk
  have e0 : (n : Int) * (k : Int) = ((n * k : Nat) : Int) := by simp
  obtain ⟨q, hq⟩ : ∃ q, n * k = q := ⟨_, rfl⟩
  rw [hq] at hm e0 ⊢
  have e1 : IntKind.i64.wrap (q : Int) = (q : Int) := wrapi64_in _ (by omega) (by omega)
  have e2 : IntKind.i64.wrap ((q : Int) + 8) = (q : Int) + 8 := wrapi64_in _ (by omega) (by omega)
  have e3 : IntKind.i64.wrap ((q : Int) + 8 - 1) = (q : Int) + 7 := by rw [wrapi64_in _ (by omega) (by omega)]; omega
  have e4 : IntKind.i64.wrap (((q : Int) + 7).tdiv 8) = ((octets q : Nat) : Int) := by
    unfold octets
    rw [Int.tdiv_eq_ediv_of_nonneg (by omega), wrapi64_in _ (by omega) (by omega)]; omega
  clear hq
  go_enter Try.func43, Try.ntmps43
  go_wp2_with fail
  refine (HB.out _).mono ?_
  rintro e w' ⟨rfl, rfl⟩
  go_wp2
  go_ret
  exact ⟨ret_i (by unfold octets; omega), rfl⟩
set_option maxHeartbeats 1000000 in
theorem refFits_any (v k : Nat) (hk : k ≤ 64) (hv : (v : Int) ≤ 18446744073709551615) (w : World) : Calls Try.prog 120 #[.int .u64 v, .int .i64 k] w fun e w' => e = .returned (.bool (decide (v < 2 ^ k))) ∧ w = w' := by
  go_enter Try.func120, Try.ntmps120
  go_wp2
  go_loopg [0, 5] k (fun g v0 v5 wr => ∃ i u : Nat, v5 = .int .i64 i ∧ i ≤ k ∧ g = k - i ∧ v0 = .int .u64 u ∧ u = v / 2 ^ i ∧ w = wr)
  case atStart => exact ⟨0, v, rfl, by omega, by omega, rfl, by simp, rfl⟩
  case round =>
    obtain ⟨i, u, rfl, hi, rfl, rfl, hu, rfl⟩ := hrel
    by_cases hlt : i < k
    · have hu2 : u ≤ v := by rw [hu]; exact Nat.div_le_self _ _
      have e1 : IntKind.u64.wrap ((u : Int).tdiv 2) = ((u / 2 : Nat) : Int) := by rw [Int.tdiv_eq_ediv_of_nonneg (by omega), wrapu64_in _ (by omega) (by omega)]; omega
      have HU := Lib.hid (show u / 2 = v / 2 ^ (i + 1) by rw [hu, Nat.pow_succ, Nat.div_div_eq_div_mul])
      clear hu
      go_wp2
      go_roundg (k - (i + 1))
      case measure => omega
      case rel => exact ⟨i + 1, u / 2, by go_num, by omega, rfl, by first | rfl | (refine val_i ?_; omega), HU.out, rfl⟩
    · obtain rfl : i = k := by omega
      have HU := Lib.hid (show ((u : Int) == 0) = decide (v < 2 ^ i) by
        rw [hu, ← shr_nought, shr_nat])
      clear hu
      go_wp2
      go_ret
      exact ⟨ret_b HU.out, rfl⟩

/-- a writer at p of 'many' bits, the number V, its row the call's own from block B on -/
structure Wr (w : World) (B p V many : Nat) : Prop where
  blk : ∃ A c, w.heap[p]? = some (.cells #[.slice A (octets many) c, .int .i64 many] 156 (0, 0)) ∧ Owns w B 5 .u8 A (octets many) c (leb V (octets many)) ∧ ∀ b o, A = some ⟨b, o, none⟩ → b ≠ p
  own : B ≤ p
  lt : V < 2 ^ many
  small : many ≤ 65536
set_option maxHeartbeats 1000000 in
theorem newWriter_any (w : World) : Calls Try.prog 104 #[] w fun e w' => ∃ p, e = .returned (.pointer (some ⟨p, 0, none⟩)) ∧ Wr w' w.heap.size p 0 0 ∧ Below w.heap.size w w' := by
  go_enter Try.func104, Try.ntmps104
  go_wp2
  go_ret
  exact ⟨w.heap.size, rfl, ⟨⟨none, 0, heap_alloc_new w _, owns_nil _ _ _ _, fun _ _ h => by cases h⟩, Nat.le_refl _, by decide, by decide⟩, (Below.refl _ _).alloc (Nat.le_refl _) _⟩
set_option maxHeartbeats 1000000 in
theorem wbytes_any {w : World} {B p V many : Nat} (h : Wr w B p V many) : Calls Try.prog 106 #[.pointer (some ⟨p, 0, none⟩)] w (RetRow w.heap.size 5 .u8 w (leb V (octets many))) := by
  obtain ⟨A, c, hb, ho, _⟩ := h.blk
  have k0 : w.cell? ⟨p, 0, none⟩ = some (.slice A (octets many) c) := by simp [World.cell?, hb]
  have hsm := h.small
  have HC := Lib.hid (clone_any A (octets many) c _ w (Rd.own ho) (by unfold octets; omega))
  clear hb ho h
  go_enter Try.func106, Try.ntmps106
  go_wp2_with fail
  refine HC.out.mono ?_
  rintro e w' ⟨A', n', c', rfl, ho, hb⟩
  have HO := Lib.hid ho
  have HB := Lib.hid hb
  clear ho hb
  go_wp2
  go_ret
  exact ⟨A', n', c', rfl, HO.out, HB.out⟩
end Go.Proofs.Ytkbcmblgieoleaa
