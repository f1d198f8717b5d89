/-
  Chapter 10: how many are one and the same; groups; widths in bytes; zigzags and their width; the reference's.
  Chapter 10: zigzags and their width; the reference's.
  append(xs, make([]T, m)...): the compiler's own form: m zero values, elements of one cell.
  Chapter 1: a reader of bits: what it is, its making, how many bits are left, the next number.
  A cursor, while the call's own rows grow.
  Chapter 1: Unpack.
-/
import Derived.Deep.QuietTactic
import Derived.Test.YtbfnaigefmdcdaaG3
import Derived.Test.YtbfnaigefmdcdaaG7
import Derived.Test.YtbfnaigefmdcdaaG8
import Derived.Test.YtbfnaigefmdcdaaG9
import Derived.Test.YtbfnaigefmdcdaaG10
import Derived.Test.YtbfnaigefmdcdaaG11
namespace Go.Proofs.Ytbfnaigefmdcdaa
open Go.RowKit Go.Cor Go.Free

set_option maxRecDepth 100000 in
set_option maxHeartbeats 1000000 in
theorem same_any (A : Option Addr) (n c : Nat) (xs : List Int) (w : World) (h : Rd w .u64 A n c xs) (hn : n ≤ 2000) :
    Calls Try.prog 76 #[.slice A n c] w fun e w' => e = .returned (.int .i64 (same xs : Nat)) ∧ Below w.heap.size w w' := by
  have H := Lib.hid h
  clear h
  go_enter Try.func76, Try.ntmps76
  go_wp2
  go_loopg [3] (n + 1) (fun g v3 wr => ∃ i : Nat, v3 = .int .i64 i ∧ i ≤ n ∧ g = n + 1 - i ∧ (∃ kd, wr = w.drewN kd) ∧ Hid (same xs = i + sameAs (xs[0]?.getD 0) (xs.drop i)))
  case atStart => exact ⟨0, rfl, by omega, by omega, ⟨0, rfl⟩, Lib.hid (by simp [same])⟩
  case round =>
    obtain ⟨i, rfl, hi, rfl, ⟨kd, rfl⟩, hI⟩ := hrel
    by_cases hlt : i < n
    · have hd : decide ((i : Int) < (n : Int)) = true := by simp; omega
      obtain ⟨b', o, rfl, hbl, hc⟩ := H.out.get (by omega)
      have hcell := hc i hlt
      have hcell0 := hc 0 (by omega)
      have hl := H.out.len
      rw [List.getD_eq_getElem?_getD] at hcell hcell0
      have hst := sameAs_drop (xs[0]?.getD 0) (l := xs) (k := i) (by omega)
      have hI1 := hI.out
      rw [hst] at hI1
      obtain ⟨x, hx⟩ : ∃ x, xs[i]?.getD 0 = x := ⟨_, rfl⟩
      obtain ⟨y, hy⟩ : ∃ y, xs[0]?.getD 0 = y := ⟨_, rfl⟩
      rw [hx, hy] at hI1
      rw [hx] at hcell
      rw [hy, Nat.add_zero] at hcell0
      have HY := Lib.hid hy
      by_cases he : x = y
      · rw [if_pos he] at hI1
        have HI1 := Lib.hid hI1
        subst he
        clear hc hl hst hx hI1 hy hI
        go_wp2
        go_quiet (fail)
        go_wp2
        go_roundg (n - i)
        case measure => omega
        case rel => exact ⟨i + 1, by go_num, by omega, by omega, ⟨_, rfl⟩, Lib.hid (by rw [HI1.out, HY.out]; omega)⟩
      · rw [if_neg he] at hI1
        have he2 : (x == y) = false := by simpa using he
        have HI1 := Lib.hid hI1
        clear hc hl hst hx hI1 hy hI
        go_wp2
        go_quiet (fail)
        go_wp2
        go_ret
        exact ⟨ret_i (by rw [HI1.out]; omega), below_drewN (below_drewN (Below.refl _ _) _) _⟩
    · obtain rfl : i = n := by omega
      have hd : decide ((i : Int) < (i : Int)) = false := by simp
      have hI1 := hI.out
      rw [List.drop_of_length_le (by have := H.out.len; omega)] at hI1
      have HI1 := Lib.hid hI1
      clear hI1 hI
      go_wp2
      go_quiet (fail)
      go_wp2
      go_ret
      exact ⟨ret_i (by rw [HI1.out]; simp [sameAs]), below_drewN (below_drewN (Below.refl _ _) _) _⟩
theorem groups_any (n : Nat) (hn : n ≤ 100000) (w : World) : Calls Try.prog 78 #[.int .i64 n] w fun e w' => e = .returned (.int .i64 (((n + 7) / 8 : Nat) : Int)) ∧ w = w' := by
  have e1 : IntKind.i64.wrap ((n : Int) + 8) = (n : Int) + 8 := wrapi64_in _ (by omega) (by omega)
  have e2 : IntKind.i64.wrap ((n : Int) + 8 - 1) = (n : Int) + 7 := by rw [wrapi64_in _ (by omega) (by omega)]; omega
  have e3 : IntKind.i64.wrap (((n : Int) + 7).tdiv 8) = (((n + 7) / 8 : Nat) : Int) := by
    rw [Int.tdiv_eq_ediv_of_nonneg (by omega), wrapi64_in _ (by omega) (by omega)]; omega
  go_enter Try.func78, Try.ntmps78
  go_wp2
  go_ret
  exact ⟨ret_i (by omega), rfl⟩
theorem hwide_any (n : Nat) (hn : n ≤ 64) (w : World) : Calls Try.prog 77 #[.int .i64 n] w fun e w' => e = .returned (.int .i64 ((octets n : Nat) : Int)) ∧ w = w' := by
  have e1 : IntKind.i64.wrap ((n : Int) + 8) = (n : Int) + 8 := wrapi64_in _ (by omega) (by omega)
  have e2 : IntKind.i64.wrap ((n : Int) + 8 - 1) = (n : Int) + 7 := by rw [wrapi64_in _ (by omega) (by omega)]; omega
  have e3 : IntKind.i64.wrap (((n : Int) + 7).tdiv 8) = (((n + 7) / 8 : Nat) : Int) := by
    rw [Int.tdiv_eq_ediv_of_nonneg (by omega), wrapi64_in _ (by omega) (by omega)]; omega
  unfold octets
  go_enter Try.func77, Try.ntmps77
  go_wp2
  go_ret
  exact ⟨ret_i (by omega), rfl⟩
set_option maxRecDepth 100000 in
set_option maxHeartbeats 1000000 in
theorem refRun_any (A : Option Addr) (n c : Nat) (xs : List Int) (at_ : Nat) (w : World) (h : Rd w .u64 A n c xs) (hn : n ≤ 2000) (ha : at_ < n) :
    Calls Try.prog 52 #[.slice A n c, .int .i64 at_] w fun e w' => e = .returned (.int .i64 (same (xs.drop at_) : Nat)) ∧ Below w.heap.size w w' := by
  have hl := h.len
  have h0 : (xs.drop at_)[0]?.getD 0 = xs[at_]?.getD 0 := by simp
  obtain ⟨b', o, rfl, hbl, hc⟩ := h.get (by omega)
  have hcell0 := hc at_ (by omega)
  rw [List.getD_eq_getElem?_getD] at hcell0
  obtain ⟨y, hy⟩ : ∃ y, xs[at_]?.getD 0 = y := ⟨_, rfl⟩
  rw [hy] at hcell0 h0
  have HC := Lib.hid hc
  have HS := Lib.hid (show same (xs.drop at_) = sameAs y (xs.drop at_) by unfold same; rw [h0])
  have HL := Lib.hid hl
  clear h hc hl h0 hy
  go_enter Try.func52, Try.ntmps52
  go_wp2
  go_loopg [5] (n + 1) (fun g v5 wr => ∃ i : Nat, v5 = .int .i64 i ∧ at_ + i ≤ n ∧ g = n + 1 - i ∧ (∃ kd, wr = w.drewN kd) ∧ Hid (same (xs.drop at_) = i + sameAs y (xs.drop (at_ + i))))
  case atStart => exact ⟨0, rfl, by omega, by omega, ⟨0, rfl⟩, Lib.hid (by rw [HS.out]; simp)⟩
  case round =>
    obtain ⟨i, rfl, hi, rfl, ⟨kd, rfl⟩, hI⟩ := hrel
    have e1 : IntKind.i64.wrap ((at_ : Int) + (i : Int)) = (at_ : Int) + (i : Int) := wrapi64_in _ (by omega) (by omega)
    by_cases hlt : at_ + i < n
    · have hd : decide ((at_ : Int) + (i : Int) < (n : Int)) = true := by simp; omega
      have hcell := HC.out (at_ + i) hlt
      rw [List.getD_eq_getElem?_getD] at hcell
      have hst := sameAs_drop y (l := xs) (k := at_ + i) (by have := HL.out; omega)
      have hI1 := hI.out
      rw [hst] at hI1
      obtain ⟨x, hx⟩ : ∃ x, xs[at_ + i]?.getD 0 = x := ⟨_, rfl⟩
      rw [hx] at hI1 hcell
      have e2 : IntKind.i64.wrap ((at_ : Int) + (i : Int)) = ((at_ + i : Nat) : Int) := by rw [e1]; simp
      by_cases he : x = y
      · rw [if_pos he] at hI1
        have HI1 := Lib.hid hI1
        subst he
        clear hst hx hI1 hI
        go_wp2
        go_quiet (fail)
        go_wp2
        go_roundg (n - i)
        case measure => omega
        case rel => exact ⟨i + 1, by go_num, by omega, by omega, ⟨_, rfl⟩, Lib.hid (by have := HI1.out; rw [Nat.add_assoc at_ i 1] at this; omega)⟩
      · rw [if_neg he] at hI1
        have he2 : (x == y) = false := by simpa using he
        have HI1 := Lib.hid hI1
        clear hst hx hI1 hI
        go_wp2
        go_quiet (fail)
        go_wp2
        go_ret
        exact ⟨ret_i (by have := HI1.out; omega), below_drewN (below_drewN (Below.refl _ _) _) _⟩
    · have hd : decide ((at_ : Int) + (i : Int) < (n : Int)) = false := by simp; omega
      have hI1 := hI.out
      rw [List.drop_of_length_le (i := at_ + i) (by have := HL.out; omega)] at hI1
      have HI1 := Lib.hid hI1
      clear hI1 hI
      go_wp2
      go_quiet (fail)
      go_wp2
      go_ret
      exact ⟨ret_i (by have h := HI1.out; simp only [sameAs] at h; omega), below_drewN (below_drewN (Below.refl _ _) _) _⟩

theorem hz_u64 {x : Int} (h : Fits .i64 x) (w : World) : ∃ z : Nat, zig x = z ∧ (z : Int) ≤ 18446744073709551615 ∧ Calls Try.prog 36 #[.int .i64 x] w fun e w' => e = .returned (.int .u64 z) ∧ w = w' := by
  obtain ⟨z, hz⟩ := Int.eq_ofNat_of_zero_le (zig_nonneg x)
  have h2 := zig_max x h.1 h.2
  have h3 := zig_any x w h.1 h.2
  rw [hz] at h2 h3
  exact ⟨z, hz, h2, h3⟩
theorem rz_u64 {x : Int} (h : Fits .i64 x) (w : World) : ∃ z : Nat, zig x = z ∧ (z : Int) ≤ 18446744073709551615 ∧ Calls Try.prog 25 #[.int .i64 x] w fun e w' => e = .returned (.int .u64 z) ∧ w = w' := by
  obtain ⟨z, hz⟩ := Int.eq_ofNat_of_zero_le (zig_nonneg x)
  have h2 := zig_max x h.1 h.2
  have h3 := refZig_any x w h.1 h.2
  rw [hz] at h2 h3
  exact ⟨z, hz, h2, h3⟩
end Go.Proofs.Ytbfnaigefmdcdaa

namespace Go.Proofs.Ytbfnaigefmdcdaa
open Go.RowKit Go.Cor Go.Free

/-- a fresh row and its width -/
def RetZig (B : Nat) (w : World) (zs : List Int) (e : Ending) (w' : World) : Prop :=
  ∃ A n c, e = .returned (.tuple #[.slice A n c, .int .i64 (most zs)]) ∧ Owns w' B 45 .u64 A n c zs ∧ Below B w w'
set_option maxRecDepth 100000 in
set_option maxHeartbeats 1000000 in
theorem zigs_any (A : Option Addr) (n c : Nat) (xs : List Int) (w : World) (h : Rd w .i64 A n c xs) (hi : In .i64 xs) (hn : n ≤ 2000) :
    Calls Try.prog 47 #[.slice A n c] w (RetZig w.heap.size w (xs.map zig)) := by
  have H := Lib.hid h
  have HI := Lib.hid hi
  clear h hi
  go_enter Try.func47, Try.ntmps47
  go_wp2
  go_loopg [4, 9] n (fun g v4 v9 wr => ∃ i : Nat, v9 = .int .i64 i ∧ i ≤ n ∧ g = n - i ∧ ∃ A' c', v4 = .slice A' i c' ∧ Hid (Owns wr w.heap.size 45 .u64 A' i c' ((xs.take i).map zig) ∧ Below w.heap.size w wr))
  case atStart => exact ⟨0, rfl, by omega, by omega, none, 0, rfl, Lib.hid ⟨owns_nil _ _ _ _, Below.refl _ _⟩⟩
  case round =>
    obtain ⟨i, rfl, hi, rfl, A', c', rfl, hI⟩ := hrel
    by_cases hlt : i < n
    · obtain ⟨b', o, rfl, hbl, hc⟩ := (H.out.below hI.out.2).get (by omega)
      have hcell := hc i hlt
      have hl := H.out.len
      have e1 := map_take_snoc (l := xs) (k := i) zig (by omega)
      rw [List.getD_eq_getElem?_getD] at hcell
      have hx := HI.out (xs[i]?.getD 0) (by rw [List.getElem?_eq_getElem (by omega)]; exact List.getElem_mem _)
      obtain ⟨x, hxe⟩ : ∃ x, xs[i]?.getD 0 = x := ⟨_, rfl⟩
      rw [hxe] at hcell e1 hx
      have HZ := Lib.hid (fun w => zig_any x w hx.1 hx.2)
      have E1 := Lib.hid e1
      obtain ⟨hx0, hx1⟩ := hx
      obtain ⟨z, hz⟩ : ∃ z, zig x = z := ⟨_, rfl⟩
      rw [hz] at HZ E1
      clear hc hl e1 hxe hz
      go_wp2_with fail
      refine (HZ.out _).mono ?_
      rintro e w2 ⟨rfl, rfl⟩
      go_wp2_with (at_builtin; refine wpList_append_r rfl rfl elemU64 (hI.out.1.alloc _) rfl (RdV.one (Box.new _ _ _)) rfl one_one (by omega) (by omega) (by have := hI.out.2.size; simp; omega) ?_; intro A2 c2 w3 hown hg _)
      have HB := Lib.hid (below_grown (hI.out.2.alloc hI.out.2.size _) (hI.out.1.alloc _) hg (by have := hI.out.2.size; simp; omega))
      have HO3 := Lib.hid (owns_snoc hown)
      clear hown hg
      go_roundg (n - (i + 1))
      case measure => omega
      case rel => exact ⟨i + 1, by go_num, by omega, rfl, A2, c2, rfl, Lib.hid ⟨by rw [← E1.out]; exact HO3.out, HB.out⟩⟩
    · obtain rfl : i = n := by omega
      have ho := hI.out.1
      rw [List.take_of_length_le (by have := H.out.len; omega)] at ho
      have HO := Lib.hid ho
      have HM := Lib.hid (fun w h => most_any A' i c' (xs.map zig) w h hn (zigs_u64 HI.out))
      clear ho
      go_wp2_with fail
      refine (HM.out _ (Rd.own HO.out)).mono ?_
      rintro e w2 ⟨rfl, rfl⟩
      go_wp2
      go_ret2
      exact ⟨A', i, c', rfl, HO.out, hI.out.2⟩
set_option maxRecDepth 100000 in
set_option maxHeartbeats 1000000 in
theorem refZigs_any (A : Option Addr) (n c : Nat) (xs : List Int) (w : World) (h : Rd w .i64 A n c xs) (hi : In .i64 xs) (hn : n ≤ 2000) :
    Calls Try.prog 50 #[.slice A n c] w (RetRow w.heap.size 45 .u64 w (xs.map zig)) := by
  have H := Lib.hid h
  have HI := Lib.hid hi
  clear h hi
  go_enter Try.func50, Try.ntmps50
  go_wp2
  go_loopg [3, 4] n (fun g v3 v4 wr => ∃ i : Nat, v4 = .int .i64 i ∧ i ≤ n ∧ g = n - i ∧ ∃ A' c', v3 = .slice A' i c' ∧ Hid (Owns wr w.heap.size 45 .u64 A' i c' ((xs.take i).map zig) ∧ Below w.heap.size w wr))
  case atStart => exact ⟨0, rfl, by omega, by omega, none, 0, rfl, Lib.hid ⟨owns_nil _ _ _ _, Below.refl _ _⟩⟩
  case round =>
    obtain ⟨i, rfl, hi, rfl, A', c', rfl, hI⟩ := hrel
    by_cases hlt : i < n
    · obtain ⟨b', o, rfl, hbl, hc⟩ := (H.out.below hI.out.2).get (by omega)
      have hcell := hc i hlt
      have hl := H.out.len
      have e1 := map_take_snoc (l := xs) (k := i) zig (by omega)
      rw [List.getD_eq_getElem?_getD] at hcell
      have hx := HI.out (xs[i]?.getD 0) (by rw [List.getElem?_eq_getElem (by omega)]; exact List.getElem_mem _)
      obtain ⟨x, hxe⟩ : ∃ x, xs[i]?.getD 0 = x := ⟨_, rfl⟩
      rw [hxe] at hcell e1 hx
      have HZ := Lib.hid (fun w => refZig_any x w hx.1 hx.2)
      have E1 := Lib.hid e1
      obtain ⟨hx0, hx1⟩ := hx
      obtain ⟨z, hz⟩ : ∃ z, zig x = z := ⟨_, rfl⟩
      rw [hz] at HZ E1
      clear hc hl e1 hxe hz
      go_wp2_with fail
      refine (HZ.out _).mono ?_
      rintro e w2 ⟨rfl, rfl⟩
      go_wp2_with (at_builtin; refine wpList_append_r rfl rfl elemU64 (hI.out.1.alloc _) rfl (RdV.one (Box.new _ _ _)) rfl one_one (by omega) (by omega) (by have := hI.out.2.size; simp; omega) ?_; intro A2 c2 w3 hown hg _)
      have HB := Lib.hid (below_grown (hI.out.2.alloc hI.out.2.size _) (hI.out.1.alloc _) hg (by have := hI.out.2.size; simp; omega))
      have HO3 := Lib.hid (owns_snoc hown)
      clear hown hg
      go_roundg (n - (i + 1))
      case measure => omega
      case rel => exact ⟨i + 1, by go_num, by omega, rfl, A2, c2, rfl, Lib.hid ⟨by rw [← E1.out]; exact HO3.out, HB.out⟩⟩
    · obtain rfl : i = n := by omega
      have ho := hI.out.1
      rw [List.take_of_length_le (by have := H.out.len; omega)] at ho
      have HO := Lib.hid ho
      clear ho
      go_wp2
      go_ret
      exact ⟨A', i, c', rfl, HO.out, hI.out.2⟩
end Go.Proofs.Ytbfnaigefmdcdaa

namespace Go.Cor
open Go Go.RowKit
theorem zeroCells_one (z : Value) (m : Nat) : Builtin.zeroCells #[z] m = (List.replicate m z).toArray := by
  apply Array.ext'
  apply List.ext_getElem (by simp [Builtin.zeroCells])
  intro i h1 h2
  simp [Builtin.zeroCells, Nat.mod_one]
section
variable {P : Program} (w : World)
theorem run_append_z (base : Nat) (t u ty e : TypeId) (i : TypeInfo) (z : Value) (bytes : Nat) (k : IntKind) (ht : P.underlying t = some (.slice e)) (hu : P.underlying u = some (.int k)) (hi : P.info? e = some i) (hz : i.zero = some z)
    (hsize : i.size = 1) (hby : i.bytes = bytes) (hzs : z.cells = #[z]) (hz1 : z.oneCell' = true)
    (v : Value) (n : Nat) (xs : List Value) (hown : w.ownsRow base e 1 v n xs) (m : Nat) (hm : 0 < m)
    (hbytes : (n + m) * bytes ≤ 140737488355328) (h63 : n + m ≤ 4611686018427387904) (hbase : base ≤ w.heap.size) :
    ∃ A' c' w', (Builtin.append_ #[t, u] ty #[v, .int .i64 m]).run P w = .ok (.slice A' (n + m) c') w' ∧ w'.ownsRow base e 1 (.slice A' (n + m) c') (n + m) (xs ++ List.replicate m z) ∧ w.grownBy w' v.ownBlock := by
  subst hby
  have hlx : xs.length = n := by have := hown.1; omega
  have hlen : (xs ++ List.replicate m z).length = (n + m) * 1 := by rw [List.length_append, hlx]; simp
  have hml : n + m ≤ maxLen := by simp only [maxLen]; omega
  have hw : IntKind.i64.wrap (m : Int) = (m : Int) := by simp [IntKind.wrap, IntKind.bits, IntKind.signed]; omega
  have hneg : ¬ ((m : Int) < 0) := by omega
  have hmb : ¬ (281474976710656 < (m : Int) * (i.bytes : Int)) := by
    have h1 : m * i.bytes ≤ (n + m) * i.bytes := Nat.mul_le_mul_right _ (by omega)
    have h2 : ((m * i.bytes : Nat) : Int) = (m : Int) * (i.bytes : Int) := Int.natCast_mul _ _
    omega
  have hm0 : m ≠ 0 := by omega
  have hz' := zeroCells_one z m
  have grown : ∀ (old : Nat), old < n + m → ∀ (row : Option Nat),
      (w.drew.alloc (.cells (xs.toArray ++ (List.replicate m z).toArray ++ Builtin.zeroCells z.cells (grownCap w (n + m) old e - (n + m))) e)).ownsRow base e 1
        (.slice (some ⟨w.heap.size, 0, none⟩) (n + m) (grownCap w (n + m) old e)) (n + m) (xs ++ List.replicate m z) ∧
      w.grownBy (w.drew.alloc (.cells (xs.toArray ++ (List.replicate m z).toArray ++ Builtin.zeroCells z.cells (grownCap w (n + m) old e - (n + m))) e)) row := by
    intro old ho row
    have hge := grownCap_ge w (n + m) old e
    have hcm : grownCap w (n + m) old e ≤ maxLen := grownCap_le_maxLen w (n + m) old e hml
    refine ⟨⟨hlen, .inr ⟨w.heap.size, _, _, rfl, hbase, heap_alloc_new w.drew _, hge, hcm, ?_, ?_⟩⟩, ⟨rfl, rfl, rfl, by simp, fun k hk _ => by exact Below.heap_alloc w.drew _ k hk⟩⟩
    · simp only [Array.size_append, List.size_toArray, size_zeroCells, hzs, hlx, List.length_replicate]
      simp; omega
    · simp only [Array.toList_append, List.append_assoc]
      rw [← List.append_assoc, ← hlen]
      exact List.take_left
  rcases hown.2 with ⟨rfl, rfl⟩ | ⟨g, cap, cur, rfl, hbg, hg, hnc, hcm, hcs, htake⟩
  · have hx : xs = [] := List.eq_nil_of_length_eq_zero hlx
    subst hx
    have hgr := grown 0 (by omega) (Value.ownBlock (.slice none 0 0))
    simp only [Nat.zero_add, List.nil_append, Array.empty_append] at hgr ⊢
    have h63' : ¬ (9223372036854775807 < (m : Int)) := by omega
    have h48' : ¬ (281474976710656 < Builtin.nextslicecap m 0 * i.bytes) := by rw [nextslicecap_zero hm]; rw [Nat.zero_add] at hbytes; omega
    refine ⟨_, _, _, ?_, hgr.1, hgr.2⟩
    simp [Builtin.append_, run_underlying ht, run_underlying hu, sizeOf, typeInfo, zeroValue, hi, hz, hsize, hzs, hz', hw, hneg, hmb, asInt, asIntOf, hm0, h63', h48', Question.forced, run_firstCells_none, newRow, grownCap]
  · by_cases hroom : n + m ≤ cap
    · have hfit : n * 1 + (List.replicate m z).length ≤ cur.size := by rw [hcs, List.length_replicate]; omega
      have hst := run_storeCells_at P g (n * 1) e (List.replicate m z) 0 cur w hg (by simpa using hfit) (fun u hu => by rw [List.eq_of_mem_replicate hu]; exact hz1)
      simp only [Nat.add_zero] at hst
      refine ⟨some ⟨g, 0, none⟩, cap, w.setRow g (cur.toList.take (n * 1) ++ List.replicate m z ++ cur.toList.drop (n * 1 + (List.replicate m z).length)).toArray, ?_, ⟨hlen, .inr ⟨g, cap, _, rfl, hbg, setRow_heap w g cur _ e _ hg, hroom, hcm, ?_, ?_⟩⟩, ⟨rfl, rfl, rfl, by simp, fun k _ hk => setRow_other w g k _ (fun e => hk (by simp [Value.ownBlock, e]))⟩⟩
      · simp only [Nat.mul_one] at hst
        simp [Builtin.append_, run_underlying ht, run_underlying hu, sizeOf, typeInfo, zeroValue, hi, hz, hsize, hzs, hz', hw, hneg, hmb, asInt, asIntOf, hm0, hroom, Addr.add_lit, hst]
      · simp only [List.size_toArray, List.length_append, List.length_take, List.length_drop, Array.length_toList]
        omega
      · rw [htake, ← hlen]
        exact List.take_left
    · have holds : ∀ j u, xs[j]? = some u → w.cell? ((⟨g, 0, none⟩ : Addr).add j) = some u := hown.cells (g := g) rfl
      have hgr := grown cap (by omega) (Value.ownBlock (.slice (some ⟨g, 0, none⟩) n cap))
      have hn' : ¬ (n + m ≤ cap) := hroom
      have h63' : ¬ (9223372036854775807 < ((n : Int) + (m : Int))) := by omega
      have h48' : ¬ (281474976710656 < Builtin.nextslicecap (n + m) cap * i.bytes) := by have := growslice_fits (need := n + m) (old := cap) (by omega) hbytes; omega
      have hfo := run_firstCells_some (P := P) w.drew 1 n ⟨g, 0, none⟩ n cap xs (by omega) (by simpa using holds)
      refine ⟨_, _, _, ?_, hgr.1, hgr.2⟩
      simp [Builtin.append_, run_underlying ht, run_underlying hu, sizeOf, typeInfo, zeroValue, hi, hz, hsize, hzs, hz', hw, hneg, hmb, asInt, asIntOf, hm0, hn', h63', h48', Question.forced, hfo, newRow, grownCap]
end
theorem wpList_append_z {P : Program} {w : World} {ops : Array Oper} {rest : List Oper} {o : Oper} {a : Act} {Q : Exit → Act → World → Prop} (hgd : o.guard = none) {s x : Operand} {t u : TypeId}
    (ho : o.op = .call { callee := .builtin .append, args := #[s, x], argTypes := #[t, u] })
    {e : TypeId} {z : Value} {bytes : Nat} (ht : ElemT P t e z 1 bytes) {k : IntKind} (hu : P.underlying u = some (.int k)) (hzs : z.cells = #[z]) (hz1 : z.oneCell' = true)
    {base : Nat} {v : Value} {n : Nat} {xs : List Value} (hown : w.ownsRow base e 1 v n xs) (hs : a.eval s = v) {m : Nat} (hx : a.eval x = .int .i64 m) (hm : 0 < m)
    (hbytes : (n + m) * bytes ≤ 140737488355328) (h63 : n + m ≤ 4611686018427387904) (hbase : base ≤ w.heap.size)
    (h : ∀ A' c' w', w'.ownsRow base e 1 (.slice A' (n + m) c') (n + m) (xs ++ List.replicate m z) → w.grownBy w' v.ownBlock → wpList P ops Q rest (a.put o.dst (.slice A' (n + m) c')) w') :
    wpList P ops Q (o :: rest) a w := by
  refine wpList_plain hgd fun K hK => ?_
  obtain ⟨i, hi, hz, hsize, hby⟩ := info_parts ht.info
  obtain ⟨A', c', w', hrun, h2, h3⟩ := run_append_z (P := P) w base t u o.type e i z bytes k ht.und hu hi hz hsize hby hzs hz1 v n xs hown m hm hbytes h63 hbase
  unfold Oper.wp
  simp only [execOp, ho, resolve, invoke, builtin, Sem.run_bind, Sem.run_pure, Result.andThen_ok, List.map_toArray, List.map_cons, List.map_nil, hs, hx, hrun]
  exact hK _ _ (h _ _ _ h2 h3)
end Go.Cor

namespace Go.Cor
open Go Go.RowKit
theorem get_part {x : Int} {lo s : Nat} (h0 : 0 ≤ x) (h1 : x ≤ 255) (hs : lo + s ≤ 8) :
    bits .and .u64 (IntKind.u64.wrap (x / 2 ^ lo)) (IntKind.u64.wrap (IntKind.u64.wrap (2 ^ s) - 1)) = ((x.toNat / 2 ^ lo % 2 ^ s : Nat) : Int) := by
  obtain ⟨y, rfl⟩ := Int.eq_ofNat_of_zero_le h0
  have h2 : (y : Int) / 2 ^ lo = ((y / 2 ^ lo : Nat) : Int) := by simp
  have h3 : y / 2 ^ lo ≤ y := Nat.div_le_self _ _
  have h4 : (2 : Nat) ^ s ≤ 2 ^ 8 := Nat.pow_le_pow_right (by decide) (by omega)
  have h5 := pow_pos2 s
  have h6 : (2 : Int) ^ s = ((2 ^ s : Nat) : Int) := by simp
  rw [h2, Int.toNat_natCast]
  obtain ⟨z, hz⟩ : ∃ z, y / 2 ^ lo = z := ⟨_, rfl⟩
  rw [hz] at h3 ⊢
  rw [wrapu64_in z (by omega) (by omega), wrapu64_in (2 ^ s) (by omega) (by omega), wrapu64_in _ (by omega) (by omega), and_mask_u64 _ s (by omega) (by omega) (by omega)]
  simp
theorem get_or {v pt i s : Nat} (hv : v < 2 ^ i) (hp : pt < 2 ^ s) (hs : i + s ≤ 64) : bits .or .u64 (v : Int) (IntKind.u64.wrap ((pt : Int) * 2 ^ i)) = ((v + 2 ^ i * pt : Nat) : Int) := by
  have h1 : 2 ^ i * (pt + 1) ≤ 2 ^ i * 2 ^ s := Nat.mul_le_mul_left _ hp
  rw [← Nat.pow_add, Nat.mul_add] at h1
  have h2 : (2 : Nat) ^ (i + s) ≤ 2 ^ 64 := Nat.pow_le_pow_right (by decide) hs
  have h3 : (pt : Int) * 2 ^ i = ((2 ^ i * pt : Nat) : Int) := by rw [Int.natCast_mul, Int.mul_comm]; simp
  have h4 : ((2 ^ i * pt : Nat) : Int) = 2 ^ i * (pt : Int) := by simp
  rw [h3, wrapu64_in _ (by omega) (by omega), h4, or_parts_u64 _ _ i (by omega) (by rw [show (2 : Int) ^ i = ((2 ^ i : Nat) : Int) by simp]; omega) (by omega) (by rw [← h4]; omega)]
  simp
/-- a reader at p, over the bytes xs, of which at_ bits are behind it -/
structure Br (w : World) (T : TypeId) (p : Nat) (A : Option Addr) (n c : Nat) (xs : List Int) (at_ : Nat) : Prop where
  blk : w.heap[p]? = some (.cells #[.slice A n c, .int .i64 at_] T (0, 0))
  rd : Rd w .u8 A n c xs
  ne : ∀ b o, A = some ⟨b, o, none⟩ → b ≠ p
  le : at_ ≤ 8 * n
  small : n ≤ 100000
  bytes : By xs
section
variable {w w' : World} {T : TypeId} {p : Nat} {A : Option Addr} {n c : Nat} {xs : List Int} {at_ : Nat}
theorem Br.keep {S : World → Nat → Prop} (h : Br w T p A n c xs at_) (hk : Keep S w w') (hp : S w p) (hA : ∀ b o, A = some ⟨b, o, none⟩ → S w b) : Br w' T p A n c xs at_ :=
  ⟨(hk.block p (lt_of_block h.blk) hp).trans h.blk, h.rd.keep hk.size fun b hb ⟨o, ho⟩ => hk.block b hb (hA b o ho), h.ne, h.le, h.small, h.bytes⟩
theorem Br.below (h : Br w T p A n c xs at_) (hb : Below w.heap.size w w') : Br w' T p A n c xs at_ := h.keep (S := fun _ _ => True) (.of_below hb) trivial fun _ _ _ => trivial
theorem Br.lt (h : Br w T p A n c xs at_) : p < w.heap.size := lt_of_block h.blk
theorem Br.c0 (h : Br w T p A n c xs at_) : w.cell? ⟨p, 0, none⟩ = some (.slice A n c) := by simp [World.cell?, h.blk]
theorem Br.c1 (h : Br w T p A n c xs at_) : w.cell? ⟨p, 1, none⟩ = some (.int .i64 at_) := by simp [World.cell?, h.blk]
theorem Br.f1 (h : Br w T p A n c xs at_) : w.frozen? ⟨p, 1, none⟩ = false := by simp [World.frozen?, h.blk]
theorem Br.move (h : Br w T p A n c xs at_) {m : Nat} (hm : m ≤ 8 * n) : Br (w.setCell ⟨p, 1, none⟩ (.int .i64 m)) T p A n c xs m := by
  refine ⟨?_, h.rd.setCell (fun b o ho => h.ne b o ho) _, h.ne, hm, h.small, h.bytes⟩
  simpa using Joins.block_setCell (i := 1) h.blk (.int .i64 (m : Int))
end
end Go.Cor
namespace Go.Proofs.Ytbfnaigefmdcdaa
open Go.RowKit Go.Cor Go.Free
abbrev Rea (w : World) := Br w 129
/-- a new reader -/
def NewRea (w : World) (n : Nat) (xs : List Int) (e : Ending) (w' : World) : Prop :=
  ∃ p A c, e = .returned (.pointer (some ⟨p, 0, none⟩)) ∧ Rea w' p A n c xs 0 ∧ Below w.heap.size w w' ∧ w.heap.size ≤ p ∧ ∀ b o, A = some ⟨b, o, none⟩ → w.heap.size ≤ b
theorem newReader_any (A : Option Addr) (n c : Nat) (xs : List Int) (w : World) (h : Rd w .u8 A n c xs) (hn : n ≤ 100000) (hb : By xs) :
    Calls Try.prog 100 #[.slice A n c] w (NewRea w n xs) := by
  have H := Lib.hid h
  have HB := Lib.hid hb
  clear h hb
  go_enter Try.func100, Try.ntmps100
  go_wp2_with fail
  refine (clone_any A n c xs w H.out (by omega)).mono ?_
  rintro e w1 ⟨A1, n1, c1, rfl, hown, hb1⟩
  obtain rfl : n1 = n := by have := row_len hown; have := H.out.len; omega
  have HO := Lib.hid hown
  have HB1 := Lib.hid hb1
  clear hown hb1
  go_wp2
  go_ret
  refine ⟨w1.heap.size, A1, c1, rfl, ⟨heap_alloc_new w1 _, (Rd.own HO.out).alloc _, ?_, by omega, hn, HB.out⟩, HB1.out.alloc HB1.out.size _, HB1.out.size, ?_⟩
  · rintro b o rfl
    have := HO.out.lt b rfl
    omega
  · rintro b o rfl
    exact (HO.out.lt b rfl).1
theorem rleft_any {w : World} {p : Nat} {A : Option Addr} {n c : Nat} {xs : List Int} {at_ : Nat} (h : Rea w p A n c xs at_) :
    Calls Try.prog 102 #[.pointer (some ⟨p, 0, none⟩)] w fun e w' => e = .returned (.int .i64 ((8 * n - at_ : Nat) : Int)) ∧ ∃ k, w' = w.drewN k := by
  have h0 := h.c0
  have h1 := h.c1
  have h2 := h.le
  have h3 := h.small
  have e0 : IntKind.i64.wrap ((n : Int) * 8) = (n : Int) * 8 := wrapi64_in _ (by omega) (by omega)
  have e1 : IntKind.i64.wrap ((n : Int) * 8 - (at_ : Int)) = ((8 * n - at_ : Nat) : Int) := by rw [wrapi64_in _ (by omega) (by omega)]; omega
  clear h
  go_enter Try.func102, Try.ntmps102
  go_wp2
  go_quiet (fail)
  go_wp2
  go_ret
  exact ⟨ret_i (by omega), _, rfl⟩

set_option maxRecDepth 100000 in
set_option maxHeartbeats 4000000 in
theorem rget_any {w : World} {p : Nat} {A : Option Addr} {n c : Nat} {xs : List Int} {at_ k : Nat} (h : Rea w p A n c xs at_) (hk : k ≤ 64) (hl : k ≤ 8 * n - at_) :
    Calls Try.prog 101 #[.pointer (some ⟨p, 0, none⟩), .int .i64 k] w fun e w' => e = .returned (.tuple #[.int .u64 ((nums xs / 2 ^ at_ % 2 ^ k : Nat) : Int), .int .i64 0]) ∧ Rea w' p A n c xs (at_ + k) ∧ Mod (· = p) w w' := by
  have hw := fun w => bwide_any (k : Int) w
  rw [show decide (0 ≤ (k : Int) ∧ (k : Int) ≤ 64) = true by simp; omega] at hw
  have HW := Lib.hid hw
  have HL := Lib.hid (rleft_any h)
  have H := Lib.hid h
  clear h hw
  go_enter Try.func101, Try.ntmps101
  go_wp2_with fail
  refine (HW.out _).mono ?_
  rintro e w' ⟨rfl, rfl⟩
  go_wp2_with fail
  refine HL.out.mono ?_
  rintro e w1 ⟨rfl, kd, rfl⟩
  go_wp2_with fail
  go_loopg [6, 7] k (fun g v6 v7 wr => ∃ i v : Nat, v6 = .int .u64 v ∧ v7 = .int .i64 i ∧ g = k - i ∧ i ≤ k ∧ Hid (v = nums xs / 2 ^ at_ % 2 ^ i ∧ Rea wr p A n c xs (at_ + i) ∧ Mod (· = p) w wr))
  case atStart => exact ⟨0, 0, rfl, rfl, by omega, by omega, Lib.hid ⟨by simp [Nat.mod_one], H.out.below (below_drewN (Below.refl _ _) _), .of_below (below_drewN (Below.refl _ _) _)⟩⟩
  case round =>
    obtain ⟨i, v, rfl, rfl, rfl, hi, hI⟩ := hrel
    by_cases hlt : i < k
    · have hR := hI.out.2.1
      have h0 := hR.c0
      have h1 := hR.c1
      have f1 := hR.f1
      have hsm := hR.small
      have hb8 : (at_ + i) / 8 < n := by omega
      obtain ⟨b', o, rfl, hbl, hc⟩ := hR.rd.get (by omega)
      have hcell := hc ((at_ + i) / 8) hb8
      rw [List.getD_eq_getElem?_getD] at hcell
      have hx := hR.bytes (xs[(at_ + i) / 8]?.getD 0) (by rw [List.getElem?_eq_getElem (by have := hR.rd.len; omega)]; exact List.getElem_mem _)
      obtain ⟨x, hxe⟩ : ∃ x, xs[(at_ + i) / 8]?.getD 0 = x := ⟨_, rfl⟩
      rw [hxe] at hcell hx
      obtain ⟨a, ha⟩ : ∃ a, at_ + i = a := ⟨_, rfl⟩
      rw [ha] at hxe hcell hb8 h1
      obtain ⟨q, hq⟩ : ∃ q, a / 8 = q := ⟨_, rfl⟩
      rw [hq] at hxe hcell hb8
      obtain ⟨lo, hlo⟩ : ∃ lo, a % 8 = lo := ⟨_, rfl⟩
      have ha8 : a = 8 * q + lo := by omega
      have hlo8 : lo < 8 := by omega
      have e1 : IntKind.i64.wrap ((a : Int).tmod 8) = (lo : Int) := by rw [Int.tmod_eq_emod_of_nonneg (by omega), wrapi64_in _ (by omega) (by omega)]; omega
      have e2 : IntKind.i64.wrap ((a : Int).tdiv 8) = (q : Int) := by rw [Int.tdiv_eq_ediv_of_nonneg (by omega), wrapi64_in _ (by omega) (by omega)]; omega
      have e3 : (a : Int) % 8 = (lo : Int) := by omega
      have e4 : (a : Int) / 8 = (q : Int) := by omega
      have HX := Lib.hid (And.intro hxe (And.intro ha (And.intro hq (And.intro hlo ha8))))
      clear hc hR hxe ha hq hlo ha8
      go_upto_region 10 with fail
      obtain ⟨s, hsE⟩ : ∃ s : Nat, (if (k : Int) - (i : Int) < 8 - (lo : Int) then (k : Int) - (i : Int) else 8 - (lo : Int)) = (s : Int) := ⟨min (8 - lo) (k - i), by split <;> omega⟩
      rw [hsE]
      have hs1 : s ≤ 8 - lo ∧ s ≤ k - i ∧ 0 < s ∧ s ≤ 8 := by split at hsE <;> omega
      obtain ⟨hs1, hs2, hs3, hs4⟩ := hs1
      clear hsE
      go_quiet (fail)
      obtain ⟨hxe, ha, hq, hlo, ha8⟩ := HX.out
      have hR := hI.out.2.1
      have hxl : xs.length = n := hR.rd.len
      rw [get_part hx.1 hx.2 (show lo + s ≤ 8 by omega), ← hxe, ← hq, ← hlo, part_at hR.bytes (by omega) (by omega)]
      obtain ⟨pt, hpt⟩ : ∃ pt, nums xs / 2 ^ a % 2 ^ s = pt := ⟨_, rfl⟩
      rw [hpt]
      have hv : v < 2 ^ i := by rw [hI.out.1]; exact Nat.mod_lt _ (pow_pos2 i)
      have hpl : pt < 2 ^ s := by rw [← hpt]; exact Nat.mod_lt _ (pow_pos2 s)
      have hor := get_or hv hpl (show i + s ≤ 64 by omega)
      have HP := Lib.hid hpt
      have hc1 : (wr.drewN nq).cell? ⟨p, 1, none⟩ = some (.int .i64 a) := h1
      have hf1 : (wr.drewN nq).frozen? ⟨p, 1, none⟩ = false := f1
      have HR := Lib.hid hR
      have HX2 := Lib.hid (And.intro ha hxl)
      have es1 : IntKind.i64.wrap ((a : Int) + (s : Int)) = (a : Int) + (s : Int) := by have := hR.le; exact wrapi64_in _ (by omega) (by omega)
      clear hxe ha hq hlo ha8 HX hR hpt hx hcell h0 h1 f1 hxl e1 e2 e3 e4
      go_wp2_with fail
      go_roundg (k - (i + s))
      case measure => omega
      case rel =>
        obtain ⟨ha, hxl⟩ := HX2.out
        have hle := HR.out.le
        have hI1 := hI.out.1
        have e1 : (v : Int) + 2 ^ i * (pt : Int) = ((v + 2 ^ i * pt : Nat) : Int) := by simp
        have e2 : (a : Int) + (s : Int) = ((at_ + (i + s) : Nat) : Int) := by omega
        rw [e2]
        refine ⟨i + s, v + 2 ^ i * pt, val_i e1, val_i (by omega), rfl, by omega, Lib.hid ⟨?_, (HR.out.below (below_drewN (Below.refl _ _) nq)).move (by omega), Mod.trans (Mod.trans hI.out.2.2 (.of_below (below_drewN (Below.refl _ _) nq))) (.setCell _ (by simp) _)⟩⟩
        rw [mod_split, hI1, ← HP.out, ← ha, Nat.div_div_eq_div_mul, ← Nat.pow_add]
    · obtain rfl : i = k := by omega
      have hI1 := hI.out.1
      have HV := Lib.hid hI1
      clear hI1
      go_wp2
      go_ret2
      exact ⟨by rw [← HV.out]; rfl, hI.out.2⟩
end Go.Proofs.Ytbfnaigefmdcdaa

namespace Go.Cor
open Go Go.RowKit
theorem Mod.grown {T : Nat → Prop} {w0 w w' : World} {B : Nat} {v : Value} {E : TypeId} {size n : Nat} {xs : List Value} (h : Mod T w0 w) (hown : w.ownsRow B E size v n xs) (hg : w.grownBy w' v.ownBlock) (hB : w0.heap.size ≤ B) : Mod T w0 w' :=
  ⟨hg.os.trans h.os, hg.tape.trans h.tape, hg.output.trans h.output, Nat.le_trans h.size hg.size, fun k hk ht => (hg.block k (Nat.lt_of_lt_of_le hk h.size) (fun e => by have := (hown.lt k e.symm).1; omega)).trans (h.block k hk ht)⟩
theorem Cu.of_mod {w w' : World} {T : TypeId} {p : Nat} {A : Option Addr} {n c : Nat} {xs : List Int} {a b : Nat} (h : Cu w T p A n c xs a) (hm : Mod (· = p) w w') (hb : w'.heap[p]? = some (.cells #[.slice A n c, .int .i64 b] T (0, 0))) (hle : b ≤ n) : Cu w' T p A n c xs b :=
  ⟨hb, h.rd.keep hm.size fun k hk ⟨o, ho⟩ => hm.block k hk (h.ne k o ho), h.ne, hle, h.small, h.bytes⟩
/-- a reading, then an append onto a row of the call's own -/
theorem Cu.grown {w0 w w' : World} {T : TypeId} {p : Nat} {A : Option Addr} {n c : Nat} {xs : List Int} {a0 a : Nat} {B : Nat} {v : Value} {E : TypeId} {size m : Nat} {vs : List Value} (h0 : Cu w0 T p A n c xs a0) (hm : Mod (· = p) w0 w) (h : Cu w T p A n c xs a)
    (hown : w.ownsRow B E size v m vs) (hB : w0.heap.size ≤ B) (hg : w.grownBy w' v.ownBlock) : Cu w' T p A n c xs a ∧ Mod (· = p) w0 w' := by
  have hm' := hm.grown hown hg hB
  refine ⟨h0.of_mod hm' ((hg.block p h.lt fun e => ?_).trans h.blk) h.le, hm'⟩
  have := (hown.lt p e.symm).1
  have := h0.lt
  omega
end Go.Cor

namespace Go.Cor
open Go Go.RowKit
theorem Br.of_mod {w w' : World} {T : TypeId} {p : Nat} {A : Option Addr} {n c : Nat} {xs : List Int} {a b : Nat} (h : Br w T p A n c xs a) (hm : Mod (· = p) w w') (hb : w'.heap[p]? = some (.cells #[.slice A n c, .int .i64 b] T (0, 0))) (hle : b ≤ 8 * n) : Br w' T p A n c xs b :=
  ⟨hb, h.rd.keep hm.size fun k hk ⟨o, ho⟩ => hm.block k hk (h.ne k o ho), h.ne, hle, h.small, h.bytes⟩
/-- a reading, then an append onto a row of the call's own -/
theorem Br.grown {w0 w w' : World} {T : TypeId} {p : Nat} {A : Option Addr} {n c : Nat} {xs : List Int} {a0 a : Nat} {B : Nat} {v : Value} {E : TypeId} {size m : Nat} {vs : List Value} (h0 : Br w0 T p A n c xs a0) (hm : Mod (· = p) w0 w) (h : Br w T p A n c xs a)
    (hown : w.ownsRow B E size v m vs) (hB : w0.heap.size ≤ B) (hg : w.grownBy w' v.ownBlock) : Br w' T p A n c xs a ∧ Mod (· = p) w0 w' := by
  have hm' := hm.grown hown hg hB
  refine ⟨h0.of_mod hm' ((hg.block p h.lt fun e => ?_).trans h.blk) h.le, hm'⟩
  have := (hown.lt p e.symm).1
  have := h0.lt
  omega
end Go.Cor
namespace Go.Proofs.Ytbfnaigefmdcdaa
open Go.RowKit Go.Cor Go.Free

set_option maxRecDepth 100000 in
set_option maxHeartbeats 2000000 in
theorem unpack_any (A : Option Addr) (m c : Nat) (xs : List Int) (k n : Nat) (w : World) (h : Rd w .u8 A m c xs) (hb : By xs) (hm : m ≤ 100000) (hn : n ≤ 1024) (hk : k ≤ 64) :
    Calls Try.prog 87 #[.slice A m c, .int .i64 k, .int .i64 n] w (RetPair w.heap.size 45 .u64 w (unpk k n xs)) := by
  have hw := fun w => bwide_any (k : Int) w
  rw [show decide (0 ≤ (k : Int) ∧ (k : Int) ≤ 64) = true by simp; omega] at hw
  have hnd := fun w => need_any n k hn hk w
  have hlen := h.len
  have hU : unpk k n xs = if m < octets (n * k) then ([], 1) else if octets (n * k) < m then ([], 2) else if nums xs / 2 ^ (k * n) ≠ 0 then ([], 3) else (unp k n (nums xs), 0) := by unfold unpk; rw [hlen]
  have hN : octets (n * k) * 8 < n * k + 8 ∧ n * k ≤ octets (n * k) * 8 := by unfold octets; omega
  have hnk : n * k ≤ 1024 * 64 := Nat.mul_le_mul hn hk
  obtain ⟨q, hq⟩ : ∃ q, octets (n * k) = q := ⟨_, rfl⟩
  rw [hq] at hnd hU hN
  have HW := Lib.hid hw
  have HND := Lib.hid hnd
  have H := Lib.hid h
  have HB := Lib.hid hb
  have HU := Lib.hid hU
  have HN := Lib.hid hN
  have HNK := Lib.hid hnk
  clear h hw hb hnd hlen hU hq hN hnk
  by_cases h1 : m < q
  · go_enter Try.func87, Try.ntmps87
    go_wp2_with fail
    refine (HW.out _).mono ?_
    rintro e w' ⟨rfl, rfl⟩
    go_wp2_with fail
    refine (HND.out _).mono ?_
    rintro e w' ⟨rfl, rfl⟩
    go_wp2
    go_ret2
    exact ⟨none, 0, 0, by rw [HU.out, if_pos h1]; rfl, by rw [HU.out, if_pos h1]; exact owns_nil _ _ _ _, Below.refl _ _⟩
  by_cases h2 : q < m
  · go_enter Try.func87, Try.ntmps87
    go_wp2_with fail
    refine (HW.out _).mono ?_
    rintro e w' ⟨rfl, rfl⟩
    go_wp2_with fail
    refine (HND.out _).mono ?_
    rintro e w' ⟨rfl, rfl⟩
    go_wp2_with fail
    refine (HND.out _).mono ?_
    rintro e w' ⟨rfl, rfl⟩
    go_wp2
    go_ret2
    exact ⟨none, 0, 0, by rw [HU.out, if_neg h1, if_pos h2]; rfl, by rw [HU.out, if_neg h1, if_pos h2]; exact owns_nil _ _ _ _, Below.refl _ _⟩
  obtain rfl : q = m := by omega
  have HNR := Lib.hid (newReader_any A q c xs w H.out hm HB.out)
  go_enter Try.func87, Try.ntmps87
  go_wp2_with fail
  refine (HW.out _).mono ?_
  rintro e w' ⟨rfl, rfl⟩
  go_wp2_with fail
  refine (HND.out _).mono ?_
  rintro e w' ⟨rfl, rfl⟩
  go_wp2_with fail
  refine (HND.out _).mono ?_
  rintro e w' ⟨rfl, rfl⟩
  go_wp2_with fail
  refine HNR.out.mono ?_
  rintro e w1 ⟨p, A1, c1, rfl, hre, hb1, hp, hA1⟩
  have HRE := Lib.hid hre
  have HB1 := Lib.hid hb1
  clear hre hb1
  go_wp2_with fail
  go_loopg [9, 42] n (fun g v9 v42 wr => ∃ i : Nat, v42 = .int .i64 i ∧ g = n - i ∧ i ≤ n ∧ ∃ A' c', v9 = .slice A' i c' ∧ Hid (Owns wr w1.heap.size 45 .u64 A' i c' (unp k i (nums xs)) ∧ Rea wr p A1 q c1 xs (k * i) ∧ Mod (· = p) w1 wr))
  case atStart => exact ⟨0, rfl, by omega, by omega, none, 0, rfl, Lib.hid ⟨owns_nil _ _ _ _, by simpa using HRE.out, Keep.refl _ _⟩⟩
  case round =>
    obtain ⟨i, rfl, rfl, hi, A', c', rfl, hI⟩ := hrel
    by_cases hlt : i < n
    · have hks : k * i + k ≤ 8 * q := by have h3 : k * (i + 1) ≤ k * n := Nat.mul_le_mul_left _ (by omega); rw [Nat.mul_add, Nat.mul_one, Nat.mul_comm k n] at h3; have := HN.out; omega
      have hg := rget_any hI.out.2.1 hk (by omega)
      rw [show k * i + k = k * (i + 1) by rw [Nat.mul_add, Nat.mul_one]] at hg
      have HG := Lib.hid hg
      clear hg hks
      go_wp2_with fail
      refine HG.out.mono ?_
      rintro e w2 ⟨rfl, hre2, hm2⟩
      have HO2 := Lib.hid (owns_keep hI.out.1 hm2 fun g hg _ => by have := (hI.out.1.lt g hg).1; have := HRE.out.lt; omega)
      have HR2 := Lib.hid hre2
      have HM2 := Lib.hid (Mod.trans hI.out.2.2 hm2)
      clear hre2 hm2
      go_wp2_with (at_builtin; refine wpList_append_r rfl rfl elemU64 (HO2.out.alloc _) rfl (RdV.one (Box.new _ _ _)) rfl one_one (by omega) (by omega) (by have := HM2.out.size; simp; omega) ?_; intro A2 c2 w3 hown hg _)
      have hgr := Br.grown HRE.out (Mod.trans HM2.out (.alloc _ _ _)) (HR2.out.below ((Below.refl _ _).alloc (Nat.le_refl _) _)) (HO2.out.alloc _) (Nat.le_refl _) hg
      have HG3 := Lib.hid hgr
      have HO3 := Lib.hid (owns_snoc hown)
      clear hgr hown hg
      go_roundg (n - (i + 1))
      case measure => omega
      case rel => exact ⟨i + 1, by go_num, rfl, by omega, A2, c2, rfl, Lib.hid ⟨by rw [← unp_snoc]; exact HO3.out, HG3.out.1, HG3.out.2⟩⟩
    · obtain rfl : i = n := by omega
      have hN := HN.out
      have hle : 8 * q - k * i ≤ 64 := by rw [Nat.mul_comm k i]; omega
      have HL := Lib.hid (rleft_any hI.out.2.1)
      have hgt := fun kd => rget_any (k := 8 * q - k * i) (hI.out.2.1.below (below_drewN (Below.refl _ _) kd)) hle (Nat.le_refl _)
      have hv : nums xs / 2 ^ (k * i) % 2 ^ (8 * q - k * i) = nums xs / 2 ^ (k * i) := by
        refine Nat.mod_eq_of_lt (Nat.div_lt_of_lt_mul ?_)
        rw [← Nat.pow_add, show k * i + (8 * q - k * i) = 8 * q by rw [Nat.mul_comm k i]; omega, ← two8]
        have := nums_lt HB.out; rwa [H.out.len] at this
      rw [hv] at hgt
      have HGT := Lib.hid hgt
      have HU' := Lib.hid (show unpk k i xs = if nums xs / 2 ^ (k * i) ≠ 0 then ([], 3) else (unp k i (nums xs), 0) by rw [HU.out, if_neg h1, if_neg h2])
      clear hgt hv hle hN
      obtain ⟨r, hr⟩ : ∃ r, nums xs / 2 ^ (k * i) = r := ⟨_, rfl⟩
      rw [hr] at HGT HU'
      go_wp2_with fail
      refine HL.out.mono ?_
      rintro e w2 ⟨rfl, kd, rfl⟩
      by_cases h0 : r = 0
      · subst h0
        go_wp2_with fail
        refine (HGT.out kd).mono ?_
        rintro e w3 ⟨rfl, _, hm3⟩
        have HM3 := Lib.hid hm3
        clear hm3 hr
        go_wp2
        go_ret2
        exact ⟨A', i, c', by rw [HU'.out]; rfl, by rw [HU'.out]; exact owns_weak (owns_keep (hI.out.1.below (below_drewN (Below.refl _ _) kd)) HM3.out fun g hg _ => by have := (hI.out.1.lt g hg).1; have := HRE.out.lt; omega) HB1.out.size, HB1.out.trans (below_keep (Mod.trans (Mod.trans hI.out.2.2 (.of_below (below_drewN (Below.refl _ _) kd))) HM3.out) HB1.out.size fun k hk => by omega)⟩
      · have hne : (((r : Int) == 0)) = false := by simp; omega
        have hne2 : (((r : Int) != 0)) = true := by simp; omega
        go_wp2_with fail
        refine (HGT.out kd).mono ?_
        rintro e w3 ⟨rfl, _, hm3⟩
        have HM3 := Lib.hid hm3
        clear hm3 hr
        go_wp2
        go_ret2
        exact ⟨none, 0, 0, by rw [HU'.out, if_pos h0]; rfl, by rw [HU'.out, if_pos h0]; exact owns_nil _ _ _ _, HB1.out.trans (below_keep (Mod.trans (Mod.trans hI.out.2.2 (.of_below (below_drewN (Below.refl _ _) kd))) HM3.out) HB1.out.size fun k hk => by omega)⟩
end Go.Proofs.Ytbfnaigefmdcdaa
