/-
  Chapter 7: may a block have so many numbers?
-/
import Derived.Test.YthpndhdpohmoaaaClo
namespace Go.Cor
def blk (n : Int) : Bool := decide (1 ≤ n ∧ n ≤ 1024)
end Go.Cor
namespace Go.Proofs.Ythpndhdpohmoaaa
open Go.RowKit Go.Cor Go.Free

theorem block_any (n : Int) (w : World) : Calls Try.prog 48 #[.int .i64 n] w fun e w' => e = .returned (.bool (blk n)) ∧ w = w' := by
  by_cases h1 : 1 ≤ n
  · by_cases h2 : n ≤ 1024
    · have hb : blk n = true := by unfold blk; simp; omega
      rw [hb]
      clear hb
      go_enter Try.func48, Try.ntmps48
      go_wp2
      go_ret
      exact ⟨rfl, rfl⟩
    · have hb : blk n = false := by unfold blk; simp; omega
      rw [hb]
      clear hb
      go_enter Try.func48, Try.ntmps48
      go_wp2
      go_ret
      exact ⟨ret_b (by simp <;> omega), rfl⟩
  · have hb : blk n = false := by unfold blk; simp; omega
    rw [hb]
    clear hb
    go_enter Try.func48, Try.ntmps48
    go_wp2
    go_ret
    exact ⟨rfl, rfl⟩
theorem refBlock_any (n : Int) (w : World) : Calls Try.prog 44 #[.int .i64 n] w fun e w' => e = .returned (.bool (blk n)) ∧ w = w' := by
  by_cases h1 : 1 ≤ n
  · by_cases h2 : n ≤ 1024
    · have hb : blk n = true := by unfold blk; simp; omega
      rw [hb]
      clear hb
      go_enter Try.func44, Try.ntmps44
      go_wp2
      go_ret
      exact ⟨rfl, rfl⟩
    · have hb : blk n = false := by unfold blk; simp; omega
      rw [hb]
      clear hb
      go_enter Try.func44, Try.ntmps44
      go_wp2
      go_ret
      exact ⟨ret_b (by simp <;> omega), rfl⟩
  · have hb : blk n = false := by unfold blk; simp; omega
    rw [hb]
    clear hb
    go_enter Try.func44, Try.ntmps44
    go_wp2
    go_ret
    exact ⟨rfl, rfl⟩
end Go.Proofs.Ythpndhdpohmoaaa
