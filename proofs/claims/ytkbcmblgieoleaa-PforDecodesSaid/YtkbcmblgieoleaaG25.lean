/-
  Chapter 3: Peek; awake.
  The reference: a number of bytes; the block of a plain form.
-/
import Derived.Test.YtkbcmblgieoleaaG8
import Derived.Test.YtkbcmblgieoleaaG9
import Derived.Test.YtkbcmblgieoleaaG12
import Derived.Test.YtkbcmblgieoleaaG14
namespace Go.Proofs.Ytkbcmblgieoleaa
open Go.RowKit Go.Cor Go.Free

set_option maxRecDepth 100000 in
set_option maxHeartbeats 1000000 in
theorem peek_any {w : World} {p : Nat} {A : Option Addr} {n c : Nat} {xs : List Int} {at_ : Nat} (h : Cur w p A n c xs at_) :
    Calls Try.prog 97 #[.pointer (some ⟨p, 0, none⟩)] w (RetRow w.heap.size 5 .u8 w (xs.drop at_)) := by
  have HC := Lib.hid h
  have hp := h.lt
  have hle := h.le
  have hsm := h.small
  clear h
  go_enter Try.func97, Try.ntmps97
  go_wp2
  refine wp_region_free 10 (by kernel_rfl) (by kernel_rfl) ?_
  refine chain_val (.pointer (some ⟨p, 0, none⟩)) (S := [0]) rfl ?_ ?_
  · intro ρ w' hE hB hs
    have h0 : ρ (.tmp 0) = .pointer (some ⟨p, 0, none⟩) := hs 0 (by decide)
    clear hs
    refine if_t (by rfl) ?_
    (go_simp <;> exact wrapi64_in _ (by omega) (by omega))
  refine chain_val (.pointer (some ⟨p, 0, none⟩)) (S := [3]) rfl ?_ ?_
  · intro ρ w' hE hB hs
    have h3 : ρ (.tmp 3) = .pointer (some ⟨p, 0, none⟩) := hs 3 (by decide)
    clear hs
    refine if_t (by rfl) ?_
    (go_simp <;> exact wrapi64_in _ (by omega) (by omega))
  refine chain_val (.pointer (some ⟨p, 0, none⟩)) (S := [4]) rfl ?_ ?_
  · intro ρ w' hE hB hs
    have h4 : ρ (.tmp 4) = .pointer (some ⟨p, 0, none⟩) := hs 4 (by decide)
    clear hs
    refine if_t (by rfl) ?_
    (go_simp <;> exact wrapi64_in _ (by omega) (by omega))
  refine chain_val (.slice A n c) (S := [5]) rfl ?_ ?_
  · intro ρ w' hE hB hs
    have h5 : ρ (.tmp 5) = .pointer (some ⟨p, 0, none⟩) := hs 5 (by decide)
    clear hs
    refine if_t (by rfl) ?_
    have hcl := (hB.cell (p := ⟨p, 0, none⟩) hp).trans HC.out.c0
    go_simp
  refine chain_val (.pointer (some ⟨p, 0, none⟩)) (S := [0]) rfl ?_ ?_
  · intro ρ w' hE hB hs
    have h0 : ρ (.tmp 0) = .pointer (some ⟨p, 0, none⟩) := hs 0 (by decide)
    clear hs
    refine if_t (by rfl) ?_
    (go_simp <;> exact wrapi64_in _ (by omega) (by omega))
  refine chain_val (.pointer (some ⟨p, 0, none⟩)) (S := [7]) rfl ?_ ?_
  · intro ρ w' hE hB hs
    have h7 : ρ (.tmp 7) = .pointer (some ⟨p, 0, none⟩) := hs 7 (by decide)
    clear hs
    refine if_t (by rfl) ?_
    (go_simp <;> exact wrapi64_in _ (by omega) (by omega))
  refine chain_val (.pointer (some ⟨p, 1, none⟩)) (S := [8]) rfl ?_ ?_
  · intro ρ w' hE hB hs
    have h8 : ρ (.tmp 8) = .pointer (some ⟨p, 0, none⟩) := hs 8 (by decide)
    clear hs
    refine if_t (by rfl) ?_
    (go_simp <;> exact wrapi64_in _ (by omega) (by omega))
  refine chain_val (.int .i64 (at_ : Int)) (S := [9]) rfl ?_ ?_
  · intro ρ w' hE hB hs
    have h9 : ρ (.tmp 9) = .pointer (some ⟨p, 1, none⟩) := hs 9 (by decide)
    clear hs
    refine if_t (by rfl) ?_
    have hcl := (hB.cell (p := ⟨p, 1, none⟩) hp).trans HC.out.c1
    go_simp
  refine chain_fact (RdF .u8 (xs.drop at_)) (RdF.stable _ _) (S := [6, 10]) rfl ?_ ?_
  · intro ρ w' hE hB hs
    have h6 : ρ (.tmp 6) = .slice A n c := hs 6 (by decide)
    have h10 : ρ (.tmp 10) = .int .i64 (at_ : Int) := hs 10 (by decide)
    clear hs
    refine if_t (by rfl) ?_
    have hr := (HC.out.rd.below hB).sliced (l := at_) (j := n) (by omega) (by omega)
    have hrun := run_l (P := Try.prog) (w := w') elemU8 A n c (l := at_) (by omega) .i64
    rw [List.take_of_length_le (by have := HC.out.rd.len; simp; omega)] at hr
    refine ⟨_, ?_, _, _, _, rfl, hr⟩
    unfold execOp
    simp only [Option.map, h6, h10, hrun, Sem.run_bind, Result.andThen_ok, Sem.run_pure]
  refine chain_static (OwF w.heap.size 5 .u8 (xs.drop at_)) (OwF.stable _ _ _ _) (S := [11]) rfl (Go.Cor.enters_f Try.func103 (by kernel_rfl) rfl) rfl ?_ ?_
  · intro ρ w' hE hB hs
    have h11 : (RdF .u8 (xs.drop at_)) (ρ (.tmp 11)) w' := hs 11 (by decide)
    clear hs
    obtain ⟨A11, n11, c11, e11, r11⟩ := h11
    refine ⟨(by rfl), ?_⟩
    simp only [List.map_toArray, List.map_cons, List.map_nil, e11]
    refine (clone_any _ _ _ _ _ r11 (by have h1 := r11.len; have h2 := HC.out.rd.len; rw [List.length_drop] at h1; omega)).mono ?_
    rintro e w3 ⟨A', n', c', rfl, ho, hb⟩
    exact ⟨_, rfl, hb, A', n', c', rfl, owns_weak ho hB.size⟩
  intro w1 hB1
  simp only [List.reverse_cons, List.reverse_nil, List.nil_append, List.cons_append, Go.Free.Ends, forall_eq, Act.put, List.setIfInBounds_toArray, List.set_cons_zero, List.set_cons_succ]
  rintro _ _ _ ⟨A', n', c', rfl, hown⟩
  have HO := Lib.hid hown
  have HB := Lib.hid hB1
  clear hown hB1
  go_wp2
  go_ret
  exact ⟨A', n', c', rfl, HO.out, HB.out⟩

end Go.Proofs.Ytkbcmblgieoleaa

namespace Go.Proofs.Ytkbcmblgieoleaa
open Go.RowKit Go.Cor Go.Free

set_option maxHeartbeats 1000000 in
theorem refNumber_any (A : Option Addr) (n c : Nat) (xs : List Int) (w : World) (h : Rd w .u8 A n c xs) (hby : By xs) (hn : n ≤ 8) :
    Calls Try.prog 71 #[.slice A n c] w fun e w' => e = .returned (.int .u64 (num xs)) ∧ w = w' := by
  have H := Lib.hid h
  have HBY := Lib.hid hby
  clear h hby
  go_enter Try.func71, Try.ntmps71
  go_wp2
  go_loop [3, 4, 8, 9, 10, 11, 12, 13, 14, 15, 16, 17, 18, 19] (fun v3 v4 _ _ _ _ _ _ _ _ _ _ _ _ => ∃ j : Nat, v4 = .int .i64 ((j : Int) - 1) ∧ j ≤ n ∧ ∃ v : Int, v3 = .int .u64 v ∧ 0 ≤ v ∧ Hid (v = num (xs.drop j)))
    (fun _ v4 _ _ _ _ _ _ _ _ _ _ _ _ => (intOf v4 + 1).toNat)
  case atStart => exact ⟨n, rfl, by omega, 0, rfl, by omega, Lib.hid (by rw [List.drop_of_length_le (by have := H.out.len; omega)]; rfl)⟩
  case round =>
    obtain ⟨j, rfl, hj, v, rfl, hv0, hv⟩ := hrel
    by_cases hlt : 0 < j
    · obtain ⟨i, rfl⟩ : ∃ i, j = i + 1 := ⟨j - 1, by omega⟩
      have hi : ((i + 1 : Nat) : Int) - 1 = (i : Int) := by omega
      rw [hi]
      obtain ⟨b, o, rfl, _, hc⟩ := H.out.get (by omega)
      have hcell := hc i (by omega)
      have hl := H.out.len
      rw [List.getD_eq_getElem?_getD] at hcell
      have hx := HBY.out (xs[i]?.getD 0) (by rw [List.getElem?_eq_getElem (by omega)]; exact List.getElem_mem _)
      have e1 : num (xs.drop i) = xs[i]?.getD 0 + 256 * num (xs.drop (i + 1)) := by rw [drop_cons_getD xs 0 (by omega)]; rfl
      obtain ⟨x, hxe⟩ : ∃ x, xs[i]?.getD 0 = x := ⟨_, rfl⟩
      rw [hxe] at hcell hx e1
      rw [← hv.out] at e1
      obtain ⟨hx0, hx1⟩ := hx
      have hb := num_bd (HBY.out.drop i)
      rw [e1, List.length_drop, hl] at hb
      have hb2 : x + 256 * v ≤ 18446744073709551615 := by
        have h2 : ((256 ^ (n - i) : Nat) : Int) ≤ ((256 ^ 8 : Nat) : Int) := Int.ofNat_le.2 (Nat.pow_le_pow_right (by decide) (by omega))
        rw [Int.natCast_pow] at h2
        have h4 : ((256 : Nat) : Int) = 256 := rfl
        rw [h4] at h2
        have h3 : ((256 ^ 8 : Nat) : Int) = 18446744073709551616 := by decide
        omega
      have E1 := Lib.hid e1
      clear hc hl hxe e1 hb hi hv
      go_wp2
      go_round
      case rel => exact ⟨i, by go_num, by omega, x + 256 * v, val_i (by omega), by omega, Lib.hid E1.out.symm⟩
      case measure => simp [intOf] <;> omega
    · obtain rfl : j = 0 := by omega
      have hv' := hv.out
      rw [List.drop_zero] at hv'
      have HV := Lib.hid hv'
      clear hv hv'
      go_wp2
      go_ret
      exact ⟨ret_i HV.out, rfl⟩
end Go.Proofs.Ytkbcmblgieoleaa
