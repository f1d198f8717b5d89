/-
  Chapter 25: is a zone right; Store; the reference.
-/
import Derived.Test.YthpndhdpohmoaaaZoneS
import Derived.Test.YthpndhdpohmoaaaZoneO
import Derived.Test.YthpndhdpohmoaaaPut
import Derived.Test.YthpndhdpohmoaaaBlk
import Derived.Test.YthpndhdpohmoaaaPlainG
namespace Go.Proofs.Ythpndhdpohmoaaa
open Go.RowKit Go.Cor Go.Free

set_option maxRecDepth 100000 in
set_option maxHeartbeats 2000000 in
theorem right_any (z : Zn) (w : World) :
    Calls Try.prog 75 #[.agg (zr z)] w fun e w' => e = .returned (.bool (zright z)) ∧ Below w.heap.size w w' := by
  obtain ⟨n, lo, hi, s⟩ := z
  have hb := block_any n
  have hz : zright ⟨n, lo, hi, s⟩ = (blk n && (decide (lo ≤ hi) && (!decide (n = 1) || (decide (lo = hi) && decide (s = lo))))) := rfl
  obtain ⟨q, hq⟩ : ∃ q, blk n = q := ⟨_, rfl⟩
  rw [hq] at hb hz
  have HB := Lib.hid hb
  have HZ := Lib.hid hz
  clear hb hz
  unfold zr
  simp only
  cases q with
  | false =>
    clear hq
    go_enter Try.func75, Try.ntmps75
    go_wp2_with fail
    refine (HB.out _).mono ?_
    rintro e w' ⟨rfl, rfl⟩
    go_wp2
    go_ret
    exact ⟨ret_b (by rw [HZ.out]; rfl), (Below.refl _ _).alloc (Nat.le_refl _) _⟩
  | true =>
    clear hq
    by_cases h1 : lo ≤ hi
    · by_cases h2 : n = 1
      · by_cases h3 : lo = hi
        · by_cases h4 : s = lo
          · have HF := Lib.hid (And.intro h1 (And.intro h2 (And.intro h3 h4)))
            have e2 : (n == 1) = true := by simp [h2]
            have e3 : (lo == hi) = true := by simp [h3]
            have e4 : (s == lo) = true := by simp [h4]
            clear h2 h3 h4
            go_enter Try.func75, Try.ntmps75
            go_wp2_with fail
            refine (HB.out _).mono ?_
            rintro e w' ⟨rfl, rfl⟩
            go_wp2
            go_ret
            exact ⟨ret_b (by rw [HZ.out]; simp [HF.out.1, HF.out.2.1, HF.out.2.2.1, HF.out.2.2.2]), (Below.refl _ _).alloc (Nat.le_refl _) _⟩
          · have HF := Lib.hid (And.intro h1 (And.intro h2 (And.intro h3 h4)))
            have e2 : (n == 1) = true := by simp [h2]
            have e3 : (lo == hi) = true := by simp [h3]
            have e4 : (s == lo) = false := by simp [h4]
            clear h2 h3 h4
            go_enter Try.func75, Try.ntmps75
            go_wp2_with fail
            refine (HB.out _).mono ?_
            rintro e w' ⟨rfl, rfl⟩
            go_wp2
            go_ret
            exact ⟨ret_b (by rw [HZ.out]; have h4 := HF.out.2.2.2; simp [HF.out.2.1, h4]), (Below.refl _ _).alloc (Nat.le_refl _) _⟩
        · have HF := Lib.hid (And.intro h2 h3)
          have e2 : (n == 1) = true := by simp [h2]
          have e3 : (lo == hi) = false := by simp [h3]
          clear h2 h3
          go_enter Try.func75, Try.ntmps75
          go_wp2_with fail
          refine (HB.out _).mono ?_
          rintro e w' ⟨rfl, rfl⟩
          go_wp2
          go_ret
          exact ⟨ret_b (by rw [HZ.out]; simp [HF.out.1, HF.out.2]), (Below.refl _ _).alloc (Nat.le_refl _) _⟩
      · have HF := Lib.hid h2
        have e2 : (n == 1) = false := by simp [h2]
        clear h2
        go_enter Try.func75, Try.ntmps75
        go_wp2_with fail
        refine (HB.out _).mono ?_
        rintro e w' ⟨rfl, rfl⟩
        go_wp2
        go_ret
        exact ⟨ret_b (by rw [HZ.out]; simp [HF.out, h1]), (Below.refl _ _).alloc (Nat.le_refl _) _⟩
    · have e1 : decide (lo ≤ hi) = false := by simp [h1]
      have HF := Lib.hid h1
      go_enter Try.func75, Try.ntmps75
      go_wp2_with fail
      refine (HB.out _).mono ?_
      rintro e w' ⟨rfl, rfl⟩
      go_wp2
      go_ret
      exact ⟨ret_b (by rw [HZ.out]; simp; omega), (Below.refl _ _).alloc (Nat.le_refl _) _⟩
set_option maxRecDepth 100000 in
set_option maxHeartbeats 2000000 in
theorem refRight_any (z : Zn) (w : World) :
    Calls Try.prog 76 #[.agg (zr z)] w fun e w' => e = .returned (.bool (zright z)) ∧ Below w.heap.size w w' := by
  obtain ⟨n, lo, hi, s⟩ := z
  have hz : zright ⟨n, lo, hi, s⟩ = (decide (1 ≤ n ∧ n ≤ 1024) && (decide (lo ≤ hi) && (!decide (n = 1) || (decide (lo = hi) && decide (s = lo))))) := rfl
  have HZ := Lib.hid hz
  clear hz
  unfold zr
  simp only
  by_cases a1 : n < 1
  · go_enter Try.func76, Try.ntmps76
    go_wp2
    go_ret
    exact ⟨ret_b (by rw [HZ.out]; simp; omega), (Below.refl _ _).alloc (Nat.le_refl _) _⟩
  by_cases a2 : 1024 < n
  · have e1 : decide (n < 1) = false := by simp [a1]
    go_enter Try.func76, Try.ntmps76
    go_wp2
    go_ret
    exact ⟨ret_b (by rw [HZ.out]; simp; omega), (Below.refl _ _).alloc (Nat.le_refl _) _⟩
  have e1 : decide (n < 1) = false := by simp [a1]
  have e2 : decide (1024 < n) = false := by simp [a2]
  have A := Lib.hid (And.intro a1 a2)
  clear a1 a2
  by_cases h1 : hi < lo
  · go_enter Try.func76, Try.ntmps76
    go_wp2
    go_ret
    exact ⟨ret_b (by rw [HZ.out]; simp; omega), (Below.refl _ _).alloc (Nat.le_refl _) _⟩
  have e3 : decide (hi < lo) = false := by simp [h1]
  have H1 := Lib.hid h1
  clear h1
  by_cases h2 : 1 < n
  · go_enter Try.func76, Try.ntmps76
    go_wp2
    go_ret
    exact ⟨ret_b (by rw [HZ.out]; have := A.out; have := H1.out; simp; omega), (Below.refl _ _).alloc (Nat.le_refl _) _⟩
  have e4 : decide (1 < n) = false := by simp [h2]
  have H2 := Lib.hid h2
  clear h2
  by_cases h3 : lo = hi
  · have e5 : (lo == hi) = true := by simp [h3]
    have H3 := Lib.hid h3
    clear h3
    by_cases h4 : s = lo
    · have e6 : (s == lo) = true := by simp [h4]
      have H4 := Lib.hid h4
      clear h4
      go_enter Try.func76, Try.ntmps76
      go_wp2
      go_ret
      exact ⟨ret_b (by rw [HZ.out]; have := A.out; have := H1.out; have := H3.out; have := H4.out; simp; omega), (Below.refl _ _).alloc (Nat.le_refl _) _⟩
    · have e6 : (s == lo) = false := by simp [h4]
      have H4 := Lib.hid h4
      clear h4
      go_enter Try.func76, Try.ntmps76
      go_wp2
      go_ret
      exact ⟨ret_b (by rw [HZ.out]; have := A.out; have := H2.out; have := H4.out; simp; omega), (Below.refl _ _).alloc (Nat.le_refl _) _⟩
  · have e5 : (lo == hi) = false := by simp [h3]
    have H3 := Lib.hid h3
    clear h3
    go_enter Try.func76, Try.ntmps76
    go_wp2
    go_ret
    exact ⟨ret_b (by rw [HZ.out]; have := A.out; have := H2.out; have := H3.out; simp; omega), (Below.refl _ _).alloc (Nat.le_refl _) _⟩
end Go.Proofs.Ythpndhdpohmoaaa
