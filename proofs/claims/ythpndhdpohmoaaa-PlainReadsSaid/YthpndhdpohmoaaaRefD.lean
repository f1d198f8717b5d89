/-
  The reference: a number of bytes; the block of a plain form.
-/
import Derived.Test.YthpndhdpohmoaaaCurN
import Derived.Test.YthpndhdpohmoaaaBlk
import Derived.Test.YthpndhdpohmoaaaWidM
namespace Go.Proofs.Ythpndhdpohmoaaa
open Go.RowKit Go.Cor Go.Free

set_option maxHeartbeats 1000000 in
theorem refNumber_any (A : Option Addr) (n c : Nat) (xs : List Int) (w : World) (h : Rd w .u8 A n c xs) (hby : By xs) (hn : n ≤ 8) :
    Calls Try.prog 43 #[.slice A n c] w fun e w' => e = .returned (.int .u64 (num xs)) ∧ w = w' := by
  have H := Lib.hid h
  have HBY := Lib.hid hby
  clear h hby
  go_enter Try.func43, Try.ntmps43
  go_wp2
  go_loop [3, 4, 8, 9, 10, 11, 12, 13, 14, 15, 16, 17, 18, 19] (fun v3 v4 _ _ _ _ _ _ _ _ _ _ _ _ => ∃ j : Nat, v4 = .int .i64 ((j : Int) - 1) ∧ j ≤ n ∧ ∃ v : Int, v3 = .int .u64 v ∧ 0 ≤ v ∧ Hid (v = num (xs.drop j)))
    (fun _ v4 _ _ _ _ _ _ _ _ _ _ _ _ => (intOf v4 + 1).toNat)
  case atStart => exact ⟨n, rfl, by omega, 0, rfl, by omega, Lib.hid (by rw [List.drop_of_length_le (by have := H.out.len; omega)]; rfl)⟩
  case round =>
    obtain ⟨j, rfl, hj, v, rfl, hv0, hv⟩ := hrel
    by_cases hlt : 0 < j
    · obtain ⟨i, rfl⟩ : ∃ i, j = i + 1 := ⟨j - 1, by omega⟩
      have hi : ((i + 1 : Nat) : Int) - 1 = (i : Int) := by omega
      rw [hi]
      obtain ⟨b, o, rfl, _, hc⟩ := H.out.get (by omega)
      have hcell := hc i (by omega)
      have hl := H.out.len
      rw [List.getD_eq_getElem?_getD] at hcell
      have hx := HBY.out (xs[i]?.getD 0) (by rw [List.getElem?_eq_getElem (by omega)]; exact List.getElem_mem _)
      have e1 : num (xs.drop i) = xs[i]?.getD 0 + 256 * num (xs.drop (i + 1)) := by rw [drop_cons_getD xs 0 (by omega)]; rfl
      obtain ⟨x, hxe⟩ : ∃ x, xs[i]?.getD 0 = x := ⟨_, rfl⟩
      rw [hxe] at hcell hx e1
      rw [← hv.out] at e1
      obtain ⟨hx0, hx1⟩ := hx
      have hb := num_bd (HBY.out.drop i)
      rw [e1, List.length_drop, hl] at hb
      have hb2 : x + 256 * v ≤ 18446744073709551615 := by
        have h2 : ((256 ^ (n - i) : Nat) : Int) ≤ ((256 ^ 8 : Nat) : Int) := Int.ofNat_le.2 (Nat.pow_le_pow_right (by decide) (by omega))
        rw [Int.natCast_pow] at h2
        have h4 : ((256 : Nat) : Int) = 256 := rfl
        rw [h4] at h2
        have h3 : ((256 ^ 8 : Nat) : Int) = 18446744073709551616 := by decide
        omega
      have E1 := Lib.hid e1
      clear hc hl hxe e1 hb hi hv
      go_wp2
      go_round
      case rel => exact ⟨i, by go_num, by omega, x + 256 * v, val_i (by omega), by omega, Lib.hid E1.out.symm⟩
      case measure => simp [intOf] <;> omega
    · obtain rfl : j = 0 := by omega
      have hv' := hv.out
      rw [List.drop_zero] at hv'
      have HV := Lib.hid hv'
      clear hv hv'
      go_wp2
      go_ret
      exact ⟨ret_i HV.out, rfl⟩
end Go.Proofs.Ythpndhdpohmoaaa
