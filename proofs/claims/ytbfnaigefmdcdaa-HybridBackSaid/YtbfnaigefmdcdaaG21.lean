/-
  Chapter 10: how many are one and the same; groups; widths in bytes; zigzags and their width; the reference's.
  Chapter 10: zigzags and their width; the reference's.
-/
import Derived.Test.YtbfnaigefmdcdaaG17
import Derived.Test.YtbfnaigefmdcdaaG19
import Derived.Test.YtbfnaigefmdcdaaG20
namespace Go.Proofs.Ytbfnaigefmdcdaa
open Go.RowKit Go.Cor Go.Free

set_option maxRecDepth 100000 in
set_option maxHeartbeats 1000000 in
theorem same_any (A : Option Addr) (n c : Nat) (xs : List Int) (w : World) (h : Rd w .u64 A n c xs) (hn : n ≤ 2000) :
    Calls Try.prog 76 #[.slice A n c] w fun e w' => e = .returned (.int .i64 (same xs : Nat)) ∧ Below w.heap.size w w' := by
  have H := Lib.hid h
  clear h
  go_enter Try.func76, Try.ntmps76
  go_wp2
  go_loopg [3] (n + 1) (fun g v3 wr => ∃ i : Nat, v3 = .int .i64 i ∧ i ≤ n ∧ g = n + 1 - i ∧ (∃ kd, wr = w.drewN kd) ∧ Hid (same xs = i + sameAs (xs[0]?.getD 0) (xs.drop i)))
  case atStart => exact ⟨0, rfl, by omega, by omega, ⟨0, rfl⟩, Lib.hid (by simp [same])⟩
  case round =>
    obtain ⟨i, rfl, hi, rfl, ⟨kd, rfl⟩, hI⟩ := hrel
    by_cases hlt : i < n
    · have hd : decide ((i : Int) < (n : Int)) = true := by simp; omega
      obtain ⟨b', o, rfl, hbl, hc⟩ := H.out.get (by omega)
      have hcell := hc i hlt
      have hcell0 := hc 0 (by omega)
      have hl := H.out.len
      rw [List.getD_eq_getElem?_getD] at hcell hcell0
      have hst := sameAs_drop (xs[0]?.getD 0) (l := xs) (k := i) (by omega)
      have hI1 := hI.out
      rw [hst] at hI1
      obtain ⟨x, hx⟩ : ∃ x, xs[i]?.getD 0 = x := ⟨_, rfl⟩
      obtain ⟨y, hy⟩ : ∃ y, xs[0]?.getD 0 = y := ⟨_, rfl⟩
      rw [hx, hy] at hI1
      rw [hx] at hcell
      rw [hy, Nat.add_zero] at hcell0
      have HY := Lib.hid hy
      by_cases he : x = y
      · rw [if_pos he] at hI1
        have HI1 := Lib.hid hI1
        subst he
        clear hc hl hst hx hI1 hy hI
        go_wp2
        go_quiet (fail)
        go_wp2
        go_roundg (n - i)
        case measure => omega
        case rel => exact ⟨i + 1, by go_num, by omega, by omega, ⟨_, rfl⟩, Lib.hid (by rw [HI1.out, HY.out]; omega)⟩
      · rw [if_neg he] at hI1
        have he2 : (x == y) = false := by simpa using he
        have HI1 := Lib.hid hI1
        clear hc hl hst hx hI1 hy hI
        go_wp2
        go_quiet (fail)
        go_wp2
        go_ret
        exact ⟨ret_i (by rw [HI1.out]; omega), below_drewN (below_drewN (Below.refl _ _) _) _⟩
    · obtain rfl : i = n := by omega
      have hd : decide ((i : Int) < (i : Int)) = false := by simp
      have hI1 := hI.out
      rw [List.drop_of_length_le (by have := H.out.len; omega)] at hI1
      have HI1 := Lib.hid hI1
      clear hI1 hI
      go_wp2
      go_quiet (fail)
      go_wp2
      go_ret
      exact ⟨ret_i (by rw [HI1.out]; simp [sameAs]), below_drewN (below_drewN (Below.refl _ _) _) _⟩
theorem groups_any (n : Nat) (hn : n ≤ 100000) (w : World) : Calls Try.prog 78 #[.int .i64 n] w fun e w' => e = .returned (.int .i64 (((n + 7) / 8 : Nat) : Int)) ∧ w = w' := by
  have e1 : IntKind.i64.wrap ((n : Int) + 8) = (n : Int) + 8 := wrapi64_in _ (by omega) (by omega)
  have e2 : IntKind.i64.wrap ((n : Int) + 8 - 1) = (n : Int) + 7 := by rw [wrapi64_in _ (by omega) (by omega)]; omega
  have e3 : IntKind.i64.wrap (((n : Int) + 7).tdiv 8) = (((n + 7) / 8 : Nat) : Int) := by
    rw [Int.tdiv_eq_ediv_of_nonneg (by omega), wrapi64_in _ (by omega) (by omega)]; omega
  go_enter Try.func78, Try.ntmps78
  go_wp2
  go_ret
  exact ⟨ret_i (by omega), rfl⟩
theorem hwide_any (n : Nat) (hn : n ≤ 64) (w : World) : Calls Try.prog 77 #[.int .i64 n] w fun e w' => e = .returned (.int .i64 ((octets n : Nat) : Int)) ∧ w = w' := by
  have e1 : IntKind.i64.wrap ((n : Int) + 8) = (n : Int) + 8 := wrapi64_in _ (by omega) (by omega)
  have e2 : IntKind.i64.wrap ((n : Int) + 8 - 1) = (n : Int) + 7 := by rw [wrapi64_in _ (by omega) (by omega)]; omega
  have e3 : IntKind.i64.wrap (((n : Int) + 7).tdiv 8) = (((n + 7) / 8 : Nat) : Int) := by
    rw [Int.tdiv_eq_ediv_of_nonneg (by omega), wrapi64_in _ (by omega) (by omega)]; omega
  unfold octets
  go_enter Try.func77, Try.ntmps77
  go_wp2
  go_ret
  exact ⟨ret_i (by omega), rfl⟩
set_option maxRecDepth 100000 in
set_option maxHeartbeats 1000000 in
theorem refRun_any (A : Option Addr) (n c : Nat) (xs : List Int) (at_ : Nat) (w : World) (h : Rd w .u64 A n c xs) (hn : n ≤ 2000) (ha : at_ < n) :
    Calls Try.prog 52 #[.slice A n c, .int .i64 at_] w fun e w' => e = .returned (.int .i64 (same (xs.drop at_) : Nat)) ∧ Below w.heap.size w w' := by
  have hl := h.len
  have h0 : (xs.drop at_)[0]?.getD 0 = xs[at_]?.getD 0 := by simp
  obtain ⟨b', o, rfl, hbl, hc⟩ := h.get (by omega)
  have hcell0 := hc at_ (by omega)
  rw [List.getD_eq_getElem?_getD] at hcell0
  obtain ⟨y, hy⟩ : ∃ y, xs[at_]?.getD 0 = y := ⟨_, rfl⟩
  rw [hy] at hcell0 h0
  have HC := Lib.hid hc
  have HS := Lib.hid (show same (xs.drop at_) = sameAs y (xs.drop at_) by unfold same; rw [h0])
  have HL := Lib.hid hl
  clear h hc hl h0 hy
  go_enter Try.func52, Try.ntmps52
  go_wp2
  go_loopg [5] (n + 1) (fun g v5 wr => ∃ i : Nat, v5 = .int .i64 i ∧ at_ + i ≤ n ∧ g = n + 1 - i ∧ (∃ kd, wr = w.drewN kd) ∧ Hid (same (xs.drop at_) = i + sameAs y (xs.drop (at_ + i))))
  case atStart => exact ⟨0, rfl, by omega, by omega, ⟨0, rfl⟩, Lib.hid (by rw [HS.out]; simp)⟩
  case round =>
    obtain ⟨i, rfl, hi, rfl, ⟨kd, rfl⟩, hI⟩ := hrel
    have e1 : IntKind.i64.wrap ((at_ : Int) + (i : Int)) = (at_ : Int) + (i : Int) := wrapi64_in _ (by omega) (by omega)
    by_cases hlt : at_ + i < n
    · have hd : decide ((at_ : Int) + (i : Int) < (n : Int)) = true := by simp; omega
      have hcell := HC.out (at_ + i) hlt
      rw [List.getD_eq_getElem?_getD] at hcell
      have hst := sameAs_drop y (l := xs) (k := at_ + i) (by have := HL.out; omega)
      have hI1 := hI.out
      rw [hst] at hI1
      obtain ⟨x, hx⟩ : ∃ x, xs[at_ + i]?.getD 0 = x := ⟨_, rfl⟩
      rw [hx] at hI1 hcell
      have e2 : IntKind.i64.wrap ((at_ : Int) + (i : Int)) = ((at_ + i : Nat) : Int) := by rw [e1]; simp
      by_cases he : x = y
      · rw [if_pos he] at hI1
        have HI1 := Lib.hid hI1
        subst he
        clear hst hx hI1 hI
        go_wp2
        go_quiet (fail)
        go_wp2
        go_roundg (n - i)
        case measure => omega
        case rel => exact ⟨i + 1, by go_num, by omega, by omega, ⟨_, rfl⟩, Lib.hid (by have := HI1.out; rw [Nat.add_assoc at_ i 1] at this; omega)⟩
      · rw [if_neg he] at hI1
        have he2 : (x == y) = false := by simpa using he
        have HI1 := Lib.hid hI1
        clear hst hx hI1 hI
        go_wp2
        go_quiet (fail)
        go_wp2
        go_ret
        exact ⟨ret_i (by have := HI1.out; omega), below_drewN (below_drewN (Below.refl _ _) _) _⟩
    · have hd : decide ((at_ : Int) + (i : Int) < (n : Int)) = false := by simp; omega
      have hI1 := hI.out
      rw [List.drop_of_length_le (i := at_ + i) (by have := HL.out; omega)] at hI1
      have HI1 := Lib.hid hI1
      clear hI1 hI
      go_wp2
      go_quiet (fail)
      go_wp2
      go_ret
      exact ⟨ret_i (by have h := HI1.out; simp only [sameAs] at h; omega), below_drewN (below_drewN (Below.refl _ _) _) _⟩

theorem hz_u64 {x : Int} (h : Fits .i64 x) (w : World) : ∃ z : Nat, zig x = z ∧ (z : Int) ≤ 18446744073709551615 ∧ Calls Try.prog 36 #[.int .i64 x] w fun e w' => e = .returned (.int .u64 z) ∧ w = w' := by
  obtain ⟨z, hz⟩ := Int.eq_ofNat_of_zero_le (zig_nonneg x)
  have h2 := zig_max x h.1 h.2
  have h3 := zig_any x w h.1 h.2
  rw [hz] at h2 h3
  exact ⟨z, hz, h2, h3⟩
theorem rz_u64 {x : Int} (h : Fits .i64 x) (w : World) : ∃ z : Nat, zig x = z ∧ (z : Int) ≤ 18446744073709551615 ∧ Calls Try.prog 25 #[.int .i64 x] w fun e w' => e = .returned (.int .u64 z) ∧ w = w' := by
  obtain ⟨z, hz⟩ := Int.eq_ofNat_of_zero_le (zig_nonneg x)
  have h2 := zig_max x h.1 h.2
  have h3 := refZig_any x w h.1 h.2
  rw [hz] at h2 h3
  exact ⟨z, hz, h2, h3⟩
end Go.Proofs.Ytbfnaigefmdcdaa

namespace Go.Proofs.Ytbfnaigefmdcdaa
open Go.RowKit Go.Cor Go.Free

/-- a fresh row and its width -/
def RetZig (B : Nat) (w : World) (zs : List Int) (e : Ending) (w' : World) : Prop :=
  ∃ A n c, e = .returned (.tuple #[.slice A n c, .int .i64 (most zs)]) ∧ Owns w' B 45 .u64 A n c zs ∧ Below B w w'
set_option maxRecDepth 100000 in
set_option maxHeartbeats 1000000 in
theorem zigs_any (A : Option Addr) (n c : Nat) (xs : List Int) (w : World) (h : Rd w .i64 A n c xs) (hi : In .i64 xs) (hn : n ≤ 2000) :
    Calls Try.prog 47 #[.slice A n c] w (RetZig w.heap.size w (xs.map zig)) := by
  have H := Lib.hid h
  have HI := Lib.hid hi
  clear h hi
  go_enter Try.func47, Try.ntmps47
  go_wp2
  go_loopg [4, 9] n (fun g v4 v9 wr => ∃ i : Nat, v9 = .int .i64 i ∧ i ≤ n ∧ g = n - i ∧ ∃ A' c', v4 = .slice A' i c' ∧ Hid (Owns wr w.heap.size 45 .u64 A' i c' ((xs.take i).map zig) ∧ Below w.heap.size w wr))
  case atStart => exact ⟨0, rfl, by omega, by omega, none, 0, rfl, Lib.hid ⟨owns_nil _ _ _ _, Below.refl _ _⟩⟩
  case round =>
    obtain ⟨i, rfl, hi, rfl, A', c', rfl, hI⟩ := hrel
    by_cases hlt : i < n
    · obtain ⟨b', o, rfl, hbl, hc⟩ := (H.out.below hI.out.2).get (by omega)
      have hcell := hc i hlt
      have hl := H.out.len
      have e1 := map_take_snoc (l := xs) (k := i) zig (by omega)
      rw [List.getD_eq_getElem?_getD] at hcell
      have hx := HI.out (xs[i]?.getD 0) (by rw [List.getElem?_eq_getElem (by omega)]; exact List.getElem_mem _)
      obtain ⟨x, hxe⟩ : ∃ x, xs[i]?.getD 0 = x := ⟨_, rfl⟩
      rw [hxe] at hcell e1 hx
      have HZ := Lib.hid (fun w => zig_any x w hx.1 hx.2)
      have E1 := Lib.hid e1
      obtain ⟨hx0, hx1⟩ := hx
      obtain ⟨z, hz⟩ : ∃ z, zig x = z := ⟨_, rfl⟩
      rw [hz] at HZ E1
      clear hc hl e1 hxe hz
      go_wp2_with fail
      refine (HZ.out _).mono ?_
      rintro e w2 ⟨rfl, rfl⟩
      go_wp2_with (at_builtin; refine wpList_append_r rfl rfl elemU64 (hI.out.1.alloc _) rfl (RdV.one (Box.new _ _ _)) rfl one_one (by omega) (by omega) (by have := hI.out.2.size; simp; omega) ?_; intro A2 c2 w3 hown hg _)
      have HB := Lib.hid (below_grown (hI.out.2.alloc hI.out.2.size _) (hI.out.1.alloc _) hg (by have := hI.out.2.size; simp; omega))
      have HO3 := Lib.hid (owns_snoc hown)
      clear hown hg
      go_roundg (n - (i + 1))
      case measure => omega
      case rel => exact ⟨i + 1, by go_num, by omega, rfl, A2, c2, rfl, Lib.hid ⟨by rw [← E1.out]; exact HO3.out, HB.out⟩⟩
    · obtain rfl : i = n := by omega
      have ho := hI.out.1
      rw [List.take_of_length_le (by have := H.out.len; omega)] at ho
      have HO := Lib.hid ho
      have HM := Lib.hid (fun w h => most_any A' i c' (xs.map zig) w h hn (zigs_u64 HI.out))
      clear ho
      go_wp2_with fail
      refine (HM.out _ (Rd.own HO.out)).mono ?_
      rintro e w2 ⟨rfl, rfl⟩
      go_wp2
      go_ret2
      exact ⟨A', i, c', rfl, HO.out, hI.out.2⟩
set_option maxRecDepth 100000 in
set_option maxHeartbeats 1000000 in
theorem refZigs_any (A : Option Addr) (n c : Nat) (xs : List Int) (w : World) (h : Rd w .i64 A n c xs) (hi : In .i64 xs) (hn : n ≤ 2000) :
    Calls Try.prog 50 #[.slice A n c] w (RetRow w.heap.size 45 .u64 w (xs.map zig)) := by
  have H := Lib.hid h
  have HI := Lib.hid hi
  clear h hi
  go_enter Try.func50, Try.ntmps50
  go_wp2
  go_loopg [3, 4] n (fun g v3 v4 wr => ∃ i : Nat, v4 = .int .i64 i ∧ i ≤ n ∧ g = n - i ∧ ∃ A' c', v3 = .slice A' i c' ∧ Hid (Owns wr w.heap.size 45 .u64 A' i c' ((xs.take i).map zig) ∧ Below w.heap.size w wr))
  case atStart => exact ⟨0, rfl, by omega, by omega, none, 0, rfl, Lib.hid ⟨owns_nil _ _ _ _, Below.refl _ _⟩⟩
  case round =>
    obtain ⟨i, rfl, hi, rfl, A', c', rfl, hI⟩ := hrel
    by_cases hlt : i < n
    · obtain ⟨b', o, rfl, hbl, hc⟩ := (H.out.below hI.out.2).get (by omega)
      have hcell := hc i hlt
      have hl := H.out.len
      have e1 := map_take_snoc (l := xs) (k := i) zig (by omega)
      rw [List.getD_eq_getElem?_getD] at hcell
      have hx := HI.out (xs[i]?.getD 0) (by rw [List.getElem?_eq_getElem (by omega)]; exact List.getElem_mem _)
      obtain ⟨x, hxe⟩ : ∃ x, xs[i]?.getD 0 = x := ⟨_, rfl⟩
      rw [hxe] at hcell e1 hx
      have HZ := Lib.hid (fun w => refZig_any x w hx.1 hx.2)
      have E1 := Lib.hid e1
      obtain ⟨hx0, hx1⟩ := hx
      obtain ⟨z, hz⟩ : ∃ z, zig x = z := ⟨_, rfl⟩
      rw [hz] at HZ E1
      clear hc hl e1 hxe hz
      go_wp2_with fail
      refine (HZ.out _).mono ?_
      rintro e w2 ⟨rfl, rfl⟩
      go_wp2_with (at_builtin; refine wpList_append_r rfl rfl elemU64 (hI.out.1.alloc _) rfl (RdV.one (Box.new _ _ _)) rfl one_one (by omega) (by omega) (by have := hI.out.2.size; simp; omega) ?_; intro A2 c2 w3 hown hg _)
      have HB := Lib.hid (below_grown (hI.out.2.alloc hI.out.2.size _) (hI.out.1.alloc _) hg (by have := hI.out.2.size; simp; omega))
      have HO3 := Lib.hid (owns_snoc hown)
      clear hown hg
      go_roundg (n - (i + 1))
      case measure => omega
      case rel => exact ⟨i + 1, by go_num, by omega, rfl, A2, c2, rfl, Lib.hid ⟨by rw [← E1.out]; exact HO3.out, HB.out⟩⟩
    · obtain rfl : i = n := by omega
      have ho := hI.out.1
      rw [List.take_of_length_le (by have := H.out.len; omega)] at ho
      have HO := Lib.hid ho
      clear ho
      go_wp2
      go_ret
      exact ⟨A', i, c', rfl, HO.out, hI.out.2⟩
end Go.Proofs.Ytbfnaigefmdcdaa
