/-
  The reference's Get.
-/
import Derived.Test.YtbfnaigefmdcdaaVarA
namespace Go.Proofs.Ytbfnaigefmdcdaa
open Go.RowKit Go.Cor

theorem vnum_nonneg : ∀ {xs : List Int}, (∀ x ∈ xs, 0 ≤ x) → 0 ≤ vnum xs
  | [], _ => by simp [vnum]
  | x :: r, h => by
    have := vnum_nonneg (xs := r) (fun y hy => h y (by simp [hy]))
    simp only [vnum]; omega
theorem vnum_lt : ∀ {xs : List Int} {k : Nat}, xs.length ≤ k → vnum xs < 128 ^ k
  | [], k, _ => by simp only [vnum]; exact Int.pow_pos (by decide)
  | x :: r, k, h => by
    cases k with
    | zero => simp at h
    | succ k =>
      have := vnum_lt (xs := r) (k := k) (by simpa using h)
      simp only [vnum]; rw [Int.pow_succ]; omega

theorem vnum_drop {l : List Int} (h : ∀ x ∈ l, 0 ≤ x) : ∀ j, vnum (l.drop j) ≤ vnum l
  | 0 => by simp
  | j + 1 => by
    cases l with
    | nil => simp
    | cons x r =>
      have h1 := vnum_drop (l := r) (fun y hy => h y (by simp [hy])) j
      have h2 := vnum_nonneg (xs := r) (fun y hy => h y (by simp [hy]))
      simp only [List.drop_succ_cons, vnum]
      omega
theorem vnum_at {l : List Int} {j : Nat} (h : j < l.length) : vnum (l.drop j) = l[j]?.getD 0 % 128 + 128 * vnum (l.drop (j + 1)) := by
  rw [drop_cons_getD l 0 h, vnum]
theorem vnum_top (xs : List Int) (m : Nat) (hb : ∀ x ∈ xs, 0 ≤ x ∧ x ≤ 255) (hm : m ≤ 9) (hl : m < xs.length) (h9 : m = 9 → xs[m]?.getD 0 ≤ 1) : vnum (xs.take (m + 1)) ≤ 18446744073709551615 := by
  by_cases h : m = 9
  · subst h
    have hx := h9 rfl
    have key : ∀ (l : List Int) (k : Nat), k < l.length → (∀ x ∈ l, 0 ≤ x) → l[k]?.getD 0 ≤ 1 → vnum (l.take (k + 1)) < 128 ^ k * 2 := by
      intro l
      induction l with
      | nil => intro k hk; simp at hk
      | cons x r ih =>
        intro k hk h0 h1
        cases k with
        | zero => simp at h1; have := h0 x (by simp); simp [vnum]; omega
        | succ k =>
          have := ih k (by simpa using hk) (fun y hy => h0 y (by simp [hy])) (by simpa using h1)
          simp only [List.take_succ_cons, vnum]
          rw [Int.pow_succ]
          omega
    have := key xs 9 hl (fun x hx => (hb x hx).1) hx
    omega
  · have := vnum_lt (xs := xs.take (m + 1)) (k := 9) (by simp; omega)
    omega

set_option maxHeartbeats 2000000 in
set_option maxRecDepth 20000 in
theorem refGet_any (A : Option Addr) (n c : Nat) (xs : List Int) (w : World) (h : Rd w .u8 A n c xs) (hb : ∀ x ∈ xs, 0 ≤ x ∧ x ≤ 255) (hn : n ≤ 1000000) :
    Calls Try.prog 43 #[.slice A n c] w fun e w' => e = .returned (.tuple #[.int .u64 (vget 0 xs).1, .int .i64 (vget 0 xs).2.1, .int .i64 (vget 0 xs).2.2]) ∧ w = w' := by
  have hcs := vget_cases xs (fun x hx => (hb x hx).1) 0 (by decide)
  have hll := lead_le xs
  rw [h.len] at hll hcs
  obtain ⟨m, hm⟩ : ∃ m, min 10 (lead xs) = m := ⟨_, rfl⟩
  have hm10 : m ≤ 10 := by omega
  have hmn : m ≤ n := by omega
  have HC := Lib.hid (⟨hcs, hm, hll⟩ : _ ∧ min 10 (lead xs) = m ∧ lead xs ≤ n)
  have H := Lib.hid h
  have HB := Lib.hid hb
  clear hcs hm hll h hb
  go_enter Try.func43, Try.ntmps43
  go_wp2
  go_loop [5, 8, 9, 10, 11, 12, 13, 14, 15, 16, 17, 18, 19, 20, 21, 22, 23, 24] (fun n5 _ _ _ _ _ _ _ _ _ _ _ _ _ _ _ _ _ => ∃ k : Nat, k ≤ m ∧ n5 = .int .i64 k)
    (fun n5 _ _ _ _ _ _ _ _ _ _ _ _ _ _ _ _ _ => n - (intOf n5).toNat)
  case atStart => exact ⟨0, by omega, rfl⟩
  case round =>
    obtain ⟨k, hk, rfl⟩ := hrel
    by_cases hlt : k < m
    · obtain ⟨b, o, rfl, _, hc⟩ := H.out.get (by omega)
      have hcell := hc k (by omega)
      have hx : 127 < xs[k]?.getD 0 := by have := lead_lt (b := xs) (j := k) (by have := HC.out.2.1; omega); simpa using this
      have h1 : decide (k < n) = true := by simp; omega
      have h2 : decide ((k : Int) < 10) = true := by simp; omega
      clear hc
      go_wp2
      go_round
      case rel => exact ⟨k + 1, by omega, by go_num⟩
      case measure => simp [intOf] <;> omega
    · obtain rfl : k = m := by omega
      have hC := HC.out.1
      have hm' := HC.out.2.1
      have hll := HC.out.2.2
      simp only [Nat.zero_add] at hC
      by_cases c1 : 10 ≤ lead xs
      · have HR : vget 0 xs = (0, 0, 9) := by rw [hC, if_pos (.inl c1)]
        obtain rfl : k = 10 := by omega
        clear hC hm' hll
        have HR' := Lib.hid HR
        clear HR
        go_wp2
        all_goals (go_ret3; rw [HR'.out]; exact ⟨rfl, rfl⟩)
      have hkL : k = lead xs := by omega
      rw [← hkL] at hC
      by_cases c2 : k = n
      · have HR : vget 0 xs = (0, 0, 1) := by
          have e1 : ¬ (10 ≤ k ∨ (k = 9 ∧ k < n ∧ 1 < xs.getD k 0)) := by omega
          rw [hC, if_neg e1, if_pos c2]
        have HR' := Lib.hid HR
        have hk9 : k ≤ 9 := by omega
        clear HR hC hkL hm' hll c1
        subst c2
        go_wp2
        all_goals (go_ret3; rw [HR'.out]; exact ⟨rfl, rfl⟩)
      have hkn : k < n := by omega
      obtain ⟨b, o, rfl, _, hc⟩ := H.out.get (by omega)
      have hx := lead_at (b := xs) (by rw [← hkL, H.out.len]; exact hkn)
      rw [← hkL] at hx
      have hx' : xs[k]?.getD 0 ≤ 127 := by simpa using hx
      have hk9 : k ≤ 9 := by omega
      have hlen := H.out.len
      have hget : xs.getD k 0 = xs[k]?.getD 0 := by simp
      rw [hget] at hC
      by_cases c3 : k = 9 ∧ 1 < xs[k]?.getD 0
      · have HR : vget 0 xs = (0, 0, 9) := by rw [hC, if_pos (.inr ⟨c3.1, by omega, c3.2⟩)]
        obtain ⟨rfl, c3⟩ := c3
        have hcell := hc 9 hkn
        have HR' := Lib.hid HR
        clear HR hC hkL hm' hll c1 c2 hx hget hlen hc
        go_wp2
        all_goals (go_ret3; rw [HR'.out]; exact ⟨rfl, rfl⟩)
      by_cases c4 : 0 < k ∧ xs[k]?.getD 0 = 0
      · have HR : vget 0 xs = (0, 0, 9) := by
          have e1 : ¬ (10 ≤ k ∨ (k = 9 ∧ k < n ∧ 1 < xs[k]?.getD 0)) := by omega
          rw [hC, if_neg e1, if_neg (by omega), if_pos c4]
        obtain ⟨c4, c5⟩ := c4
        have hcell := hc k hkn
        rw [hget, c5] at hcell
        have HR' := Lib.hid HR
        clear HR hC hkL hm' hll c1 hx hget hlen hc c5 hx' c3
        by_cases c6 : k = 9
        · subst c6
          go_wp2
          all_goals (go_ret3; rw [HR'.out]; exact ⟨rfl, rfl⟩)
        · go_wp2
          all_goals (go_ret3; rw [HR'.out]; exact ⟨rfl, rfl⟩)
      have HR : vget 0 xs = (vnum (xs.take (k + 1)), (k : Int) + 1, 0) := by
        have e1 : ¬ (10 ≤ k ∨ (k = 9 ∧ k < n ∧ 1 < xs[k]?.getD 0)) := by omega
        rw [hC, if_neg e1, if_neg (by omega), if_neg c4]; simp
      have hcell := hc k hkn
      rw [hget] at hcell
      have HR' := Lib.hid HR
      clear HR hC hkL hm' hll c1 hx hget hlen hc
      by_cases c6 : k = 9
      · subst c6
        have c7 : xs[9]?.getD 0 ≤ 1 := by omega
        have c8' : (xs[9]?.getD 0 == 0) = false := by simp; omega
        clear c3 c4
        have hvt := vnum_top xs 9 HB.out (by omega) (by have := H.out.len; omega) (fun h => by omega)
        have HV := Lib.hid hvt
        clear hvt
        go_wp2
        go_loop [6, 7, 57, 58, 59, 60, 61, 62, 63, 64, 65, 66, 67, 68, 69] (fun v6 i7 _ _ _ _ _ _ _ _ _ _ _ _ _ => ∃ j : Nat, j ≤ 9 + 1 ∧ i7 = .int .i64 ((j : Int) - 1) ∧ ∃ v : Int, v6 = .int .u64 v ∧ Hid (v = vnum ((xs.take (9 + 1)).drop j)))
          (fun _ i7 _ _ _ _ _ _ _ _ _ _ _ _ _ => (intOf i7 + 1).toNat)
        case atStart => exact ⟨9 + 1, Nat.le_refl _, by go_num, 0, rfl, Lib.hid (by rw [List.drop_of_length_le (by rw [List.length_take]; omega)]; rfl)⟩
        case round =>
          obtain ⟨j, hj, rfl, v, rfl, hv⟩ := hrel
          cases j with
          | zero =>
            go_wp2
            go_ret3
            rw [HR'.out]
            exact ⟨ret3i (by rw [hv.out, List.drop_zero]) (by simp) rfl, rfl⟩
          | succ j =>
            have hlen := H.out.len
            have hnn : ∀ x ∈ xs.take (9 + 1), 0 ≤ x := fun x hx => (HB.out x (List.mem_of_mem_take hx)).1
            have hat := vnum_at (l := xs.take (9 + 1)) (j := j) (by simp; omega)
            have hdr := vnum_drop hnn j
            have hge : 0 ≤ v := by rw [hv.out]; exact vnum_nonneg fun x hx => hnn x (List.mem_of_mem_drop hx)
            have htk : (xs.take (9 + 1))[j]?.getD 0 = xs[j]?.getD 0 := by rw [List.getElem?_take, if_pos (by omega)]
            rw [htk, ← hv.out] at hat
            have hb0 := (HB.out (xs[j]?.getD 0) (by rw [List.getElem?_eq_getElem (by omega)]; exact List.getElem_mem _))
            have hle : 128 * v + xs[j]?.getD 0 % 128 ≤ 18446744073709551615 := by have := HV.out; omega
            have hle0 : 128 * v ≤ 18446744073709551615 := by omega
            have hb0l := hb0.1
            have hb0r := hb0.2
            have HAT := Lib.hid hat
            obtain ⟨b, o, hA, _, hcj⟩ := H.out.get (by omega)
            injection hA with hA
            injection hA with hA1 hA2 _
            have hcell := hcj j (by omega)
            rw [← hA1, ← hA2] at hcell
            clear hcj hA1 hA2 hb0 hat hdr hnn htk hlen
            go_wp2
            go_round
            case rel => exact ⟨j, by omega, by go_num, _, rfl, Lib.hid (by rw [HAT.out]; omega)⟩
            case measure => simp [intOf] <;> omega
      · by_cases c8 : k = 0
        · subst c8
          rw [Nat.add_zero] at hcell
          clear c3 c4
          have hvt := vnum_top xs 0 HB.out (by omega) (by have := H.out.len; omega) (fun h => by omega)
          have HV := Lib.hid hvt
          clear hvt
          go_wp2
          go_loop [6, 7, 57, 58, 59, 60, 61, 62, 63, 64, 65, 66, 67, 68, 69] (fun v6 i7 _ _ _ _ _ _ _ _ _ _ _ _ _ => ∃ j : Nat, j ≤ 0 + 1 ∧ i7 = .int .i64 ((j : Int) - 1) ∧ ∃ v : Int, v6 = .int .u64 v ∧ Hid (v = vnum ((xs.take (0 + 1)).drop j)))
            (fun _ i7 _ _ _ _ _ _ _ _ _ _ _ _ _ => (intOf i7 + 1).toNat)
          case atStart => exact ⟨0 + 1, Nat.le_refl _, by go_num, 0, rfl, Lib.hid (by rw [List.drop_of_length_le (by rw [List.length_take]; omega)]; rfl)⟩
          case round =>
            obtain ⟨j, hj, rfl, v, rfl, hv⟩ := hrel
            cases j with
            | zero =>
              go_wp2
              go_ret3
              rw [HR'.out]
              exact ⟨ret3i (by rw [hv.out, List.drop_zero]) (by simp) rfl, rfl⟩
            | succ j =>
              have hlen := H.out.len
              have hnn : ∀ x ∈ xs.take (0 + 1), 0 ≤ x := fun x hx => (HB.out x (List.mem_of_mem_take hx)).1
              have hat := vnum_at (l := xs.take (0 + 1)) (j := j) (by simp; omega)
              have hdr := vnum_drop hnn j
              have hge : 0 ≤ v := by rw [hv.out]; exact vnum_nonneg fun x hx => hnn x (List.mem_of_mem_drop hx)
              have htk : (xs.take (0 + 1))[j]?.getD 0 = xs[j]?.getD 0 := by rw [List.getElem?_take, if_pos (by omega)]
              rw [htk, ← hv.out] at hat
              have hb0 := (HB.out (xs[j]?.getD 0) (by rw [List.getElem?_eq_getElem (by omega)]; exact List.getElem_mem _))
              have hle : 128 * v + xs[j]?.getD 0 % 128 ≤ 18446744073709551615 := by have := HV.out; omega
              have hle0 : 128 * v ≤ 18446744073709551615 := by omega
              have hb0l := hb0.1
              have hb0r := hb0.2
              have HAT := Lib.hid hat
              obtain ⟨b, o, hA, _, hcj⟩ := H.out.get (by omega)
              injection hA with hA
              injection hA with hA1 hA2 _
              have hcell := hcj j (by omega)
              rw [← hA1, ← hA2] at hcell
              clear hcj hA1 hA2 hb0 hat hdr hnn htk hlen
              go_wp2
              go_round
              case rel => exact ⟨j, by omega, by go_num, _, rfl, Lib.hid (by rw [HAT.out]; omega)⟩
              case measure => simp [intOf] <;> omega
        · have c8' : (xs[k]?.getD 0 == 0) = false := by simp; omega
          have c9 : 0 < k := by omega
          clear c3 c4 c8
          have hvt := vnum_top xs k HB.out (by omega) (by have := H.out.len; omega) (fun h => by omega)
          have HV := Lib.hid hvt
          clear hvt
          go_wp2
          go_loop [6, 7, 57, 58, 59, 60, 61, 62, 63, 64, 65, 66, 67, 68, 69] (fun v6 i7 _ _ _ _ _ _ _ _ _ _ _ _ _ => ∃ j : Nat, j ≤ k + 1 ∧ i7 = .int .i64 ((j : Int) - 1) ∧ ∃ v : Int, v6 = .int .u64 v ∧ Hid (v = vnum ((xs.take (k + 1)).drop j)))
            (fun _ i7 _ _ _ _ _ _ _ _ _ _ _ _ _ => (intOf i7 + 1).toNat)
          case atStart => exact ⟨k + 1, Nat.le_refl _, by go_num, 0, rfl, Lib.hid (by rw [List.drop_of_length_le (by rw [List.length_take]; omega)]; rfl)⟩
          case round =>
            obtain ⟨j, hj, rfl, v, rfl, hv⟩ := hrel
            cases j with
            | zero =>
              go_wp2
              go_ret3
              rw [HR'.out]
              exact ⟨ret3i (by rw [hv.out, List.drop_zero]) (by simp) rfl, rfl⟩
            | succ j =>
              have hlen := H.out.len
              have hnn : ∀ x ∈ xs.take (k + 1), 0 ≤ x := fun x hx => (HB.out x (List.mem_of_mem_take hx)).1
              have hat := vnum_at (l := xs.take (k + 1)) (j := j) (by simp; omega)
              have hdr := vnum_drop hnn j
              have hge : 0 ≤ v := by rw [hv.out]; exact vnum_nonneg fun x hx => hnn x (List.mem_of_mem_drop hx)
              have htk : (xs.take (k + 1))[j]?.getD 0 = xs[j]?.getD 0 := by rw [List.getElem?_take, if_pos (by omega)]
              rw [htk, ← hv.out] at hat
              have hb0 := (HB.out (xs[j]?.getD 0) (by rw [List.getElem?_eq_getElem (by omega)]; exact List.getElem_mem _))
              have hle : 128 * v + xs[j]?.getD 0 % 128 ≤ 18446744073709551615 := by have := HV.out; omega
              have hle0 : 128 * v ≤ 18446744073709551615 := by omega
              have hb0l := hb0.1
              have hb0r := hb0.2
              have HAT := Lib.hid hat
              obtain ⟨b, o, hA, _, hcj⟩ := H.out.get (by omega)
              injection hA with hA
              injection hA with hA1 hA2 _
              have hcell := hcj j (by omega)
              rw [← hA1, ← hA2] at hcell
              clear hcj hA1 hA2 hb0 hat hdr hnn htk hlen
              go_wp2
              go_round
              case rel => exact ⟨j, by omega, by go_num, _, rfl, Lib.hid (by rw [HAT.out]; omega)⟩
              case measure => simp [intOf] <;> omega
end Go.Proofs.Ytbfnaigefmdcdaa
