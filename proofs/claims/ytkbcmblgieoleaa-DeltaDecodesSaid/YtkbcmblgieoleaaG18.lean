/-
  Chapter 1: Writer.Put. (lemmas: one cell of the call's own row is written)
  Chapter 1: Writer.Put: the walk.
  Chapter 1: Pack, of numbers that fit.
  Chapter 1: a reader of bits: what it is, its making, how many bits are left, the next number.
  Chapter 1: Unpack.
-/
import Derived.Lib.SmallJoins
import Derived.Deep.Cut
import Derived.Deep.LoopGhost
import Derived.Deep.CutRange
import Derived.Deep.QuietTactic
import Derived.Test.YtkbcmblgieoleaaG7
import Derived.Test.YtkbcmblgieoleaaG12
import Derived.Test.YtkbcmblgieoleaaG15
import Derived.Test.YtkbcmblgieoleaaG16
import Derived.Test.YtkbcmblgieoleaaG17
namespace Go.Cor
open Go Go.RowKit
/-- one cell of a row that the call owns is written -/
theorem owns_put {w : World} {B k i : Nat} {E : TypeId} {kd : IntKind} {v : Value} {xs : List Int} {y : Int} (h : w.ownsRow B E 1 v k (xs.map (.int kd))) (hi : i < k) :
    ∃ g c, v = .slice (some ⟨g, 0, none⟩) k c ∧ B ≤ g ∧ g < w.heap.size ∧ w.cell? ⟨g, i, none⟩ = (xs[i]?).map (.int kd) ∧ w.frozen? ⟨g, i, none⟩ = false ∧ (w.setCell ⟨g, i, none⟩ (.int kd y)).ownsRow B E 1 v k ((xs.set i y).map (.int kd)) := by
  obtain ⟨hl, h2⟩ := h
  rcases h2 with ⟨_, rfl⟩ | ⟨g, c, cur, rfl, hB, hg, hnc, hcm, hcs, ht⟩
  · omega
  have hcur : i < cur.size := by omega
  rw [Nat.mul_one] at ht
  refine ⟨g, c, rfl, hB, lt_of_block hg, ?_, by simp [World.frozen?, hg], by simpa using hl, .inr ⟨g, c, cur.setIfInBounds i (.int kd y), rfl, hB, Joins.block_setCell hg _, hnc, hcm, by simpa using hcs, ?_⟩⟩
  · have e : (xs.map (Value.int kd))[i]? = cur[i]? := by
      rw [← ht, List.getElem?_take_of_lt hi]; simp
    rw [List.getElem?_map] at e
    simp [World.cell?, hg, e]
  · rw [Nat.mul_one, Array.toList_setIfInBounds, List.take_set, ht, List.map_set]
/-- a row that the call owns is no block of another type -/
theorem owns_ne {w : World} {B k p size : Nat} {E T : TypeId} {v : Value} {xs : List Value} {cs : Array Value} (h : w.ownsRow B E size v k xs) (hp : w.heap[p]? = some (.cells cs T (0, 0))) (hT : E ≠ T) : v.ownBlock ≠ some p := by
  intro e
  rcases h.2 with ⟨rfl, _⟩ | ⟨g, c, cur, rfl, _, hg, _⟩
  · cases e
  · injection e with e
    simp only at e
    subst e
    rw [hp] at hg
    injection hg with hg
    injection hg with _ h2
    exact hT h2.symm
end Go.Cor
namespace Go.Proofs.Ytkbcmblgieoleaa
open Go.RowKit Go.Cor Go.Free

/-- a writer whose last byte stands open: the row has a byte for the next bit -/
def WrO (w : World) (B p V many : Nat) : Prop :=
  ∃ A c, w.heap[p]? = some (.cells #[.slice A (many / 8 + 1) c, .int .i64 many] 156 (0, 0)) ∧ Owns w B 5 .u8 A (many / 8 + 1) c (leb V (many / 8 + 1)) ∧ ∀ b o, A = some ⟨b, o, none⟩ → b ≠ p
theorem octets_open {m : Nat} (h : ¬ m % 8 = 0) : octets m = m / 8 + 1 := by unfold octets; omega
theorem octets_shut {m : Nat} (h : m % 8 = 0) : octets m = m / 8 := by unfold octets; omega
theorem Wr.opened {w : World} {B p V m : Nat} (h : Wr w B p V m) (hm : ¬ m % 8 = 0) : WrO w B p V m := by
  obtain ⟨A, c, hb, ho, hne⟩ := h.blk
  rw [octets_open hm] at hb ho
  exact ⟨A, c, hb, ho, hne⟩
end Go.Proofs.Ytkbcmblgieoleaa

namespace Go.Cor
open Go
theorem put_byte {V u a s q g : Nat} (hV : V / 256 ^ q < 2 ^ a) (ha : a < 8) (hu : u < 2 ^ g) (hg : g ≤ 64) (hs : s = min (8 - a) g) :
    bits .or .u8 ((V : Int) / 256 ^ q % 256) (IntKind.u64.wrap ((u : Int) * 2 ^ a) % 256) = ((V / 256 ^ q + u % 2 ^ s * 2 ^ a : Nat) : Int) := by
  have hw : IntKind.u64.wrap ((u : Int) * 2 ^ a) % 256 = ((u * 2 ^ a % 256 : Nat) : Int) := by
    rw [wrapu64, show (u : Int) * 2 ^ a = ((u * 2 ^ a : Nat) : Int) by simp]; omega
  have h8 : (256 : Nat) = 2 ^ (8 - a) * 2 ^ a := by rw [← Nat.pow_add, show 8 - a + a = 8 by omega]
  have hm : u * 2 ^ a % 256 = u % 2 ^ s * 2 ^ a := by
    rw [h8, Nat.mul_mod_mul_right]
    by_cases h : 8 - a ≤ g
    · rw [show s = 8 - a by omega]
    · obtain rfl : s = g := by omega
      rw [Nat.mod_eq_of_lt hu, Nat.mod_eq_of_lt (Nat.lt_of_lt_of_le hu (Nat.pow_le_pow_right (by decide) (by omega)))]
  have h2 : 2 ^ a ≤ 2 ^ 7 := Nat.pow_le_pow_right (by decide) (by omega)
  have hv : (V : Int) / 256 ^ q % 256 = ((V / 256 ^ q : Nat) : Int) := by
    rw [show (V : Int) / 256 ^ q = ((V / 256 ^ q : Nat) : Int) by simp]; obtain ⟨y, hy⟩ : ∃ y, V / 256 ^ q = y := ⟨_, rfl⟩; rw [hy] at hV ⊢; omega
  have h3 : u % 2 ^ s * 2 ^ a + 2 ^ a ≤ 256 := by
    rw [h8, ← Nat.succ_mul]
    exact Nat.mul_le_mul_right _ (Nat.lt_of_lt_of_le (Nat.mod_lt _ (pow_pos2 s)) (Nat.pow_le_pow_right (by decide) (by omega)))
  rw [hw, hm, hv, show ((u % 2 ^ s * 2 ^ a : Nat) : Int) = 2 ^ a * ((u % 2 ^ s : Nat) : Int) by rw [Int.natCast_mul, Int.mul_comm]; simp]
  rw [or_parts_u8 _ _ a (by omega) (by rw [show (2 : Int) ^ a = ((2 ^ a : Nat) : Int) by simp]; omega) (by omega) (by rw [show (2 : Int) ^ a * ((u % 2 ^ s : Nat) : Int) = ((u % 2 ^ s * 2 ^ a : Nat) : Int) by rw [Int.natCast_mul, Int.mul_comm]; simp]; omega)]
  rw [Int.natCast_add, Int.natCast_mul, Int.mul_comm]; simp
end Go.Cor
namespace Go.Proofs.Ytkbcmblgieoleaa
open Go.RowKit Go.Cor Go.Free

set_option maxRecDepth 100000 in
set_option maxHeartbeats 4000000 in
theorem Put_any {w : World} {B p V many v k : Nat} (h : Wr w B p V many) (hB : B ≤ w.heap.size) (hk : k ≤ 64) (hv : v < 2 ^ k) (hs : many + k ≤ 65536) :
    Calls Try.prog 105 #[.pointer (some ⟨p, 0, none⟩), .int .u64 v, .int .i64 k] w fun e w' => e = .returned (.int .i64 0) ∧ Wr w' B p (V + v * 2 ^ many) (many + k) ∧ Below B w w' := by
  have hv64 : v < 2 ^ 64 := Nat.lt_of_lt_of_le hv (Nat.pow_le_pow_right (by decide) hk)
  have hw := fun w => bwide_any (k : Int) w
  rw [show decide (0 ≤ (k : Int) ∧ (k : Int) ≤ 64) = true by simp; omega] at hw
  have hf := fun w => fits_any v k hk hv64 w
  rw [decide_eq_true hv] at hf
  have HW := Lib.hid hw
  have HF := Lib.hid hf
  have H := Lib.hid h
  have hv' : (v : Int) ≤ 18446744073709551615 := by have : (2 : Nat) ^ 64 = 18446744073709551616 := by decide
                                                    omega
  have HV := Lib.hid (And.intro hv hB)
  clear h hw hf hv64 hv
  go_enter Try.func105, Try.ntmps105
  go_wp2_with fail
  refine (HW.out _).mono ?_
  rintro e w' ⟨rfl, rfl⟩
  go_wp2_with fail
  refine (HF.out _).mono ?_
  rintro e w' ⟨rfl, rfl⟩
  go_wp2_with fail
  go_loopg [1, 2] k (fun g v1 v2 wr => ∃ u j V1 m1 : Nat, v1 = .int .u64 u ∧ v2 = .int .i64 j ∧ g = j ∧ Hid (Wr wr B p V1 m1 ∧ Below B w wr ∧ u < 2 ^ j ∧ j ≤ 64 ∧ V1 + u * 2 ^ m1 = V + v * 2 ^ many ∧ m1 + j = many + k))
  case atStart => exact ⟨v, k, V, many, rfl, rfl, rfl, Lib.hid ⟨H.out, Below.refl _ _, HV.out.1, hk, rfl, rfl⟩⟩
  case round =>
    obtain ⟨u, j, V1, m1, rfl, rfl, rfl, hI⟩ := hrel
    by_cases hj : 0 < gk
    · obtain ⟨A, c, hb, ho, hne⟩ := hI.out.1.blk
      have hm1 := hI.out.1.small
      have k0 : wr.cell? ⟨p, 0, none⟩ = some (.slice A (octets m1) c) := by simp [World.cell?, hb]
      have k1 : wr.cell? ⟨p, 1, none⟩ = some (.int .i64 m1) := by simp [World.cell?, hb]
      have f0 : wr.frozen? ⟨p, 0, none⟩ = false := by simp [World.frozen?, hb]
      have e1 : IntKind.i64.wrap ((m1 : Int).tmod 8) = ((m1 % 8 : Nat) : Int) := by rw [Int.tmod_eq_emod_of_nonneg (by omega), wrapi64_in _ (by omega) (by omega)]; omega
      have HO := Lib.hid (And.intro ho hne)
      have HBK := Lib.hid hb
      clear hb ho hne
      have hBr : B ≤ wr.heap.size := Nat.le_trans hB hI.out.2.1.size
      have hplt := lt_of_block HBK.out
      go_upto_if 26 with fail
      rw [show (m1 : Int) % 8 = ((m1 % 8 : Nat) : Int) by omega]
      obtain ⟨a, hma⟩ : ∃ a, m1 % 8 = a := ⟨_, rfl⟩
      rw [hma]
      go_cut [] from 20 to 35 (fun wx => Hid (WrO wx B p V1 m1 ∧ Below B w wx))
      case first =>
        by_cases ha0 : a = 0
        · subst ha0
          have ha := hma
          rw [octets_shut ha] at k0 HO HBK
          have hV : V1 < 256 ^ (m1 / 8) := by have := hI.out.1.lt; rw [pow_split, ha] at this; simpa using this
          have HV1 := Lib.hid (leb_open hV)
          have HA := Lib.hid ha
          have hob : (Value.slice A (m1 / 8) c).ownBlock ≠ some p := owns_ne HO.out.1 HBK.out (by decide)
          have HOB := Lib.hid hob
          clear ha hma hV e1 hob
          go_wp2_with (at_builtin; refine wpList_append_r rfl rfl elemU8 (HO.out.1.alloc _) rfl (RdV.one (Box.new _ _ _)) rfl one_one (by omega) (by omega) (by simp; omega) ?_; intro A2 c2 w3 hown hg _; have hb3 : w3.heap[p]? = some (.cells #[.slice A (m1 / 8) c, .int .i64 m1] 156 (0, 0)) := ((hg.block p (by simp; omega) (fun e => HOB.out e.symm)).trans ((Below.heap_alloc wr _ p hplt).trans HBK.out)); have k3 : w3.cell? ⟨p, 0, none⟩ = some (.slice A (m1 / 8) c) := (by simp [World.cell?, hb3]); have f3 : w3.frozen? ⟨p, 0, none⟩ = false := (by simp [World.frozen?, hb3]))
          have hb4 := Joins.block_setCell (i := 0) hb3 (.slice A2 (m1 / 8 + 1) c2)
          have hown2 : Owns w3 B 5 .u8 A2 (m1 / 8 + 1) c2 (leb V1 (m1 / 8 + 1)) := by rw [← HV1.out]; exact owns_snoc hown
          have hne2 := owns_ne hown2 hb3 (by decide)
          have hbl := below_grown (hI.out.2.1.alloc hBr _) (HO.out.1.alloc _) hg (by simp; omega)
          go_meet
          exact Lib.hid ⟨⟨A2, c2, by simpa using hb4, ownsRow_setCell_other hown2 hne2 _, fun b o e => by subst e; intro h; subst h; exact hne2 rfl⟩, hbl.setCell (by exact hI.out.1.own) _⟩
        · have hab : ((a : Int) == 0) = false := by simp; omega
          have HWO := Lib.hid (hI.out.1.opened (show ¬ m1 % 8 = 0 by omega))
          go_wp2_with fail
          go_meet
          exact Lib.hid ⟨HWO.out, hI.out.2.1⟩
      case rest =>
        obtain ⟨⟨A3, c3, hb3, ho3, hne3⟩, hbl3⟩ := hcut.out
        obtain ⟨q, hq⟩ : ∃ q, m1 / 8 = q := ⟨_, rfl⟩
        rw [hq] at hb3 ho3
        obtain ⟨g, c4, hv4, hBg, hgl, hcell, hfr, hset⟩ := owns_put (i := q) (y := ((V1 / 256 ^ q + (u % 2 ^ (min (8 - a) gk)) * 2 ^ a : Nat) : Int)) ho3 (by omega)
        injection hv4 with hA hk4 hc4
        subst hA hc4
        rw [leb_at (by omega)] at hcell
        have k0' : wc.cell? ⟨p, 0, none⟩ = some (.slice (some ⟨g, 0, none⟩) (q + 1) c3) := by simp [World.cell?, hb3]
        have k1' : wc.cell? ⟨p, 1, none⟩ = some (.int .i64 m1) := by simp [World.cell?, hb3]
        simp at hcell
        have HS3 := Lib.hid (And.intro hb3 (And.intro hset (And.intro hbl3 hq)))
        have eq1 : IntKind.i64.wrap (q : Int) = (q : Int) := wrapi64_in _ (by omega) (by omega)
        clear hb3 ho3 hset hbl3 hcut k0 k1 f0 e1 HO HBK hq
        go_upto_region 10 with fail
        go_region
        obtain ⟨s, hsE⟩ : ∃ s : Nat, (if (gk : Int) < 8 - (a : Int) then (gk : Int) else 8 - (a : Int)) = (s : Int) := ⟨min (8 - a) gk, by split <;> omega⟩
        rw [hsE]
        have ha8 : a < 8 := by omega
        have hsm : s = min (8 - a) gk := by split at hsE <;> omega
        clear hsE
        obtain ⟨hb3, hset, hbl3, hq⟩ := HS3.out
        rw [← hsm] at hset
        have hV2 : V1 / 256 ^ q < 2 ^ a := by
          have := hI.out.1.lt; rw [pow_split, hq, hma] at this; exact Nat.div_lt_of_lt_mul this
        rw [put_byte hV2 ha8 hI.out.2.2.1 hI.out.2.2.2.1 hsm]
        have hlm := leb_more (u := u % 2 ^ s) hI.out.1.lt (Nat.lt_of_lt_of_le (Nat.mod_lt _ (pow_pos2 s)) (Nat.pow_le_pow_right (by decide) (by omega)))
        rw [hq, hma] at hlm
        rw [hlm] at hset
        have hgp : g ≠ p := hne3 g 0 rfl
        obtain ⟨w5, hw5⟩ : ∃ w5, (wc.setCell ⟨g, q, none⟩ (.int .u8 ((V1 / 256 ^ q + u % 2 ^ s * 2 ^ a : Nat) : Int))).drew = w5 := ⟨_, rfl⟩
        rw [hw5]
        have hb5 : w5.heap[p]? = some (.cells #[.slice (some ⟨g, 0, none⟩) (q + 1) c3, .int .i64 m1] 156 (0, 0)) := by
          rw [← hw5]; exact (Below.heap_setCell _ _ _ _ (fun e => hgp e.symm)).trans hb3
        have ho5 : Owns w5 B 5 .u8 (some ⟨g, 0, none⟩) (q + 1) c3 (leb (V1 + u % 2 ^ s * 2 ^ m1) (q + 1)) := by rw [← hw5]; exact hset
        have hbl5 : Below B w w5 := by rw [← hw5]; exact below_drewN (hbl3.setCell hBg _) 1
        have k15 : w5.cell? ⟨p, 1, none⟩ = some (.int .i64 m1) := by simp [World.cell?, hb5]
        have f15 : w5.frozen? ⟨p, 1, none⟩ = false := by simp [World.frozen?, hb5]
        have HS5 := Lib.hid (And.intro hb5 (And.intro ho5 (And.intro hbl5 (And.intro hq hsm))))
        have ES1 := Lib.hid (shr_nat u s)
        have es4 : s ≤ gk ∧ 0 < s ∧ s ≤ 8 := by omega
        obtain ⟨es5, es6, es7⟩ := es4
        have es8 : gk ≤ 64 := hI.out.2.2.2.1
        clear hb3 hset hbl3 HS3 hV2 hlm hb5 ho5 hbl5 hw5 k0' k1' hcell hfr hk4 eq1 hsm
        go_wp2_with fail
        go_roundg (gk - s)
        case measure => omega
        case rel =>
          obtain ⟨hb5, ho5, hbl5, hq, hsm⟩ := HS5.out
          obtain ⟨hwr, _, hu, _, hsum, hcnt⟩ := hI.out
          have hoct : octets (m1 + s) = q + 1 := by unfold octets; omega
          have hne5 : (Value.slice (some ⟨g, 0, none⟩) (q + 1) c3).ownBlock ≠ some p := owns_ne ho5 hb5 (by decide)
          have hb6 := Joins.block_setCell (i := 1) hb5 (.int .i64 ((m1 + s : Nat) : Int))
          have ho6 : Owns (w5.setCell ⟨p, 1, none⟩ (.int .i64 ((m1 + s : Nat) : Int))) B 5 .u8 (some ⟨g, 0, none⟩) (q + 1) c3 (leb (V1 + u % 2 ^ s * 2 ^ m1) (q + 1)) := ownsRow_setCell_other ho5 hne5 _
          have hbl6 : Below B w (w5.setCell ⟨p, 1, none⟩ (.int .i64 ((m1 + s : Nat) : Int))) := hbl5.setCell hwr.own _
          rw [show (m1 : Int) + (s : Int) = ((m1 + s : Nat) : Int) by omega]
          refine ⟨u / 2 ^ s, gk - s, V1 + u % 2 ^ s * 2 ^ m1, m1 + s, val_i ES1.out, val_i (by omega), rfl, Lib.hid ⟨⟨⟨some ⟨g, 0, none⟩, c3, by rw [hoct]; simpa using hb6, by rw [hoct]; exact ho6, hne3⟩, hwr.own, ?_, by omega⟩, hbl6, ?_, by omega, ?_, by omega⟩⟩
          · have h1 := hwr.lt
            have h2 : u % 2 ^ s + 1 ≤ 2 ^ s := Nat.mod_lt _ (pow_pos2 s)
            have h3 := Nat.mul_le_mul_right (2 ^ m1) h2
            rw [Nat.add_mul, Nat.one_mul] at h3
            rw [Nat.pow_add, Nat.mul_comm (2 ^ m1)]
            omega
          · rw [Nat.div_lt_iff_lt_mul (pow_pos2 s), ← Nat.pow_add, show gk - s + s = gk by omega]; exact hu
          · rw [← hsum, Nat.pow_add, Nat.add_assoc]
            congr 1
            have h1 := Nat.div_add_mod u (2 ^ s)
            have h2 : u / 2 ^ s * (2 ^ m1 * 2 ^ s) = 2 ^ s * (u / 2 ^ s) * 2 ^ m1 := by simp only [Nat.mul_assoc, Nat.mul_comm, Nat.mul_left_comm]
            rw [h2, ← Nat.add_mul, Nat.add_comm, h1]
    · obtain rfl : gk = 0 := by omega
      have HE := Lib.hid (show V1 = V + v * 2 ^ many ∧ m1 = many + k by
        have h1 := hI.out.2.2.1
        have h2 := hI.out.2.2.2.2.1
        have h3 := hI.out.2.2.2.2.2
        obtain rfl : u = 0 := by omega
        simp at h2; omega)
      go_wp2
      go_ret
      refine ⟨rfl, ?_, hI.out.2.1⟩
      rw [← HE.out.1, ← HE.out.2]; exact hI.out.1
end Go.Proofs.Ytkbcmblgieoleaa

namespace Go.Cor
/-- what Unpack hands out -/
def unpk (k n : Nat) (b : List Int) : List Int × Int :=
  if b.length < octets (n * k) then ([], 1) else if octets (n * k) < b.length then ([], 2) else if nums b / 2 ^ (k * n) ≠ 0 then ([], 3) else (unp k n (nums b), 0)
end Go.Cor
namespace Go.Proofs.Ytkbcmblgieoleaa
open Go.RowKit Go.Cor Go.Free

/-- a pair of a fresh row and an error's number -/
def RetPair (B : Nat) (E : TypeId) (k : IntKind) (w : World) (r : List Int × Int) (e : Ending) (w' : World) : Prop :=
  ∃ A n c, e = .returned (.tuple #[.slice A n c, .int .i64 r.2]) ∧ Owns w' B E k A n c r.1 ∧ Below B w w'
set_option maxRecDepth 100000 in
set_option maxHeartbeats 2000000 in
theorem pack_any (A : Option Addr) (n c : Nat) (us : List Int) (k : Nat) (w : World) (h : Rd w .u64 A n c us) (hi : In .u64 us) (hn : n ≤ 1024) (hk : k ≤ 64) (hf : Fitl k us) :
    Calls Try.prog 59 #[.int .i64 k, .slice A n c] w (RetPair w.heap.size 5 .u8 w (packed k us, 0)) := by
  have hw := fun w => bwide_any (k : Int) w
  rw [show decide (0 ≤ (k : Int) ∧ (k : Int) ≤ 64) = true by simp; omega] at hw
  have HW := Lib.hid hw
  have H := Lib.hid h
  have HI := Lib.hid hi
  have HF := Lib.hid hf
  clear h hw hi hf
  go_enter Try.func59, Try.ntmps59
  go_wp2_with fail
  refine (HW.out _).mono ?_
  rintro e w' ⟨rfl, rfl⟩
  go_wp2_with fail
  refine (newWriter_any _).mono ?_
  rintro e w1 ⟨p, rfl, hwr, hb1⟩
  have HWR := Lib.hid hwr
  have HB1 := Lib.hid hb1
  clear hwr hb1
  go_wp2_with fail
  go_loopg [21] n (fun g v21 wr => ∃ i : Nat, v21 = .int .i64 i ∧ g = n - i ∧ i ≤ n ∧ Hid (Wr wr w.heap.size p (pk k (us.take i)) (k * i) ∧ Below w.heap.size w wr))
  case atStart => exact ⟨0, rfl, by omega, by omega, Lib.hid ⟨by simpa [pk] using HWR.out, HB1.out⟩⟩
  case round =>
    obtain ⟨i, rfl, rfl, hi, hI⟩ := hrel
    by_cases hlt : i < n
    · obtain ⟨b', o, rfl, hbl, hc⟩ := (H.out.below hI.out.2).get (by omega)
      have hcell := hc i hlt
      have hl := H.out.len
      have e1 := pk_take k (l := us) (i := i) (by omega)
      rw [List.getD_eq_getElem?_getD] at hcell
      have hmem : us[i]?.getD 0 ∈ us := by rw [List.getElem?_eq_getElem (by omega)]; exact List.getElem_mem _
      have hx := HI.out _ hmem
      have hx2 := HF.out _ hmem
      obtain ⟨x, hxe⟩ : ∃ x, us[i]?.getD 0 = x := ⟨_, rfl⟩
      rw [hxe] at hcell e1 hx hx2
      obtain ⟨x, rfl⟩ := Int.eq_ofNat_of_zero_le hx2.1
      rw [Int.toNat_natCast] at e1 hx2
      have hks : k * i + k ≤ 65536 := by have : k * (i + 1) ≤ 64 * 1024 := Nat.mul_le_mul hk (by omega); rw [Nat.mul_add] at this; omega
      have hp := Put_any (v := x) (k := k) hI.out.1 hI.out.2.size hk hx2.2 hks
      rw [← e1, show k * i + k = k * (i + 1) by rw [Nat.mul_add, Nat.mul_one]] at hp
      have HP := Lib.hid hp
      clear hc hl e1 hmem hx hx2 hxe hp hks
      go_wp2_with fail
      refine HP.out.mono ?_
      rintro e w2 ⟨rfl, hwr2, hb2⟩
      have HWR2 := Lib.hid hwr2
      have HB2 := Lib.hid (hI.out.2.trans hb2)
      clear hwr2 hb2
      go_wp2_with fail
      go_roundg (n - (i + 1))
      case measure => omega
      case rel => exact ⟨i + 1, by go_num, rfl, by omega, Lib.hid ⟨HWR2.out, HB2.out⟩⟩
    · obtain rfl : i = n := by omega
      have hwr := hI.out.1
      rw [List.take_of_length_le (by have := H.out.len; omega)] at hwr
      have HY := Lib.hid (wbytes_any hwr)
      clear hwr
      go_wp2_with fail
      refine HY.out.mono ?_
      rintro e w2 ⟨A', m', c', rfl, ho, hb⟩
      have HO := Lib.hid (owns_weak ho hI.out.2.size)
      have HB := Lib.hid (hI.out.2.trans (hb.mono hI.out.2.size))
      clear ho hb
      go_wp2
      go_ret2
      exact ⟨A', m', c', rfl, by unfold packed; rw [H.out.len, Nat.mul_comm i]; exact HO.out, HB.out⟩
end Go.Proofs.Ytkbcmblgieoleaa

namespace Go.Cor
open Go Go.RowKit
theorem get_part {x : Int} {lo s : Nat} (h0 : 0 ≤ x) (h1 : x ≤ 255) (hs : lo + s ≤ 8) :
    bits .and .u64 (IntKind.u64.wrap (x / 2 ^ lo)) (IntKind.u64.wrap (IntKind.u64.wrap (2 ^ s) - 1)) = ((x.toNat / 2 ^ lo % 2 ^ s : Nat) : Int) := by
  obtain ⟨y, rfl⟩ := Int.eq_ofNat_of_zero_le h0
  have h2 : (y : Int) / 2 ^ lo = ((y / 2 ^ lo : Nat) : Int) := by simp
  have h3 : y / 2 ^ lo ≤ y := Nat.div_le_self _ _
  have h4 : (2 : Nat) ^ s ≤ 2 ^ 8 := Nat.pow_le_pow_right (by decide) (by omega)
  have h5 := pow_pos2 s
  have h6 : (2 : Int) ^ s = ((2 ^ s : Nat) : Int) := by simp
  rw [h2, Int.toNat_natCast]
  obtain ⟨z, hz⟩ : ∃ z, y / 2 ^ lo = z := ⟨_, rfl⟩
  rw [hz] at h3 ⊢
  rw [wrapu64_in z (by omega) (by omega), wrapu64_in (2 ^ s) (by omega) (by omega), wrapu64_in _ (by omega) (by omega), and_mask_u64 _ s (by omega) (by omega) (by omega)]
  simp
theorem get_or {v pt i s : Nat} (hv : v < 2 ^ i) (hp : pt < 2 ^ s) (hs : i + s ≤ 64) : bits .or .u64 (v : Int) (IntKind.u64.wrap ((pt : Int) * 2 ^ i)) = ((v + 2 ^ i * pt : Nat) : Int) := by
  have h1 : 2 ^ i * (pt + 1) ≤ 2 ^ i * 2 ^ s := Nat.mul_le_mul_left _ hp
  rw [← Nat.pow_add, Nat.mul_add] at h1
  have h2 : (2 : Nat) ^ (i + s) ≤ 2 ^ 64 := Nat.pow_le_pow_right (by decide) hs
  have h3 : (pt : Int) * 2 ^ i = ((2 ^ i * pt : Nat) : Int) := by rw [Int.natCast_mul, Int.mul_comm]; simp
  have h4 : ((2 ^ i * pt : Nat) : Int) = 2 ^ i * (pt : Int) := by simp
  rw [h3, wrapu64_in _ (by omega) (by omega), h4, or_parts_u64 _ _ i (by omega) (by rw [show (2 : Int) ^ i = ((2 ^ i : Nat) : Int) by simp]; omega) (by omega) (by rw [← h4]; omega)]
  simp
/-- a reader at p, over the bytes xs, of which at_ bits are behind it -/
structure Br (w : World) (T : TypeId) (p : Nat) (A : Option Addr) (n c : Nat) (xs : List Int) (at_ : Nat) : Prop where
  blk : w.heap[p]? = some (.cells #[.slice A n c, .int .i64 at_] T (0, 0))
  rd : Rd w .u8 A n c xs
  ne : ∀ b o, A = some ⟨b, o, none⟩ → b ≠ p
  le : at_ ≤ 8 * n
  small : n ≤ 100000
  bytes : By xs
section
variable {w w' : World} {T : TypeId} {p : Nat} {A : Option Addr} {n c : Nat} {xs : List Int} {at_ : Nat}
theorem Br.keep {S : World → Nat → Prop} (h : Br w T p A n c xs at_) (hk : Keep S w w') (hp : S w p) (hA : ∀ b o, A = some ⟨b, o, none⟩ → S w b) : Br w' T p A n c xs at_ :=
  ⟨(hk.block p (lt_of_block h.blk) hp).trans h.blk, h.rd.keep hk.size fun b hb ⟨o, ho⟩ => hk.block b hb (hA b o ho), h.ne, h.le, h.small, h.bytes⟩
theorem Br.below (h : Br w T p A n c xs at_) (hb : Below w.heap.size w w') : Br w' T p A n c xs at_ := h.keep (S := fun _ _ => True) (.of_below hb) trivial fun _ _ _ => trivial
theorem Br.lt (h : Br w T p A n c xs at_) : p < w.heap.size := lt_of_block h.blk
theorem Br.c0 (h : Br w T p A n c xs at_) : w.cell? ⟨p, 0, none⟩ = some (.slice A n c) := by simp [World.cell?, h.blk]
theorem Br.c1 (h : Br w T p A n c xs at_) : w.cell? ⟨p, 1, none⟩ = some (.int .i64 at_) := by simp [World.cell?, h.blk]
theorem Br.f1 (h : Br w T p A n c xs at_) : w.frozen? ⟨p, 1, none⟩ = false := by simp [World.frozen?, h.blk]
theorem Br.move (h : Br w T p A n c xs at_) {m : Nat} (hm : m ≤ 8 * n) : Br (w.setCell ⟨p, 1, none⟩ (.int .i64 m)) T p A n c xs m := by
  refine ⟨?_, h.rd.setCell (fun b o ho => h.ne b o ho) _, h.ne, hm, h.small, h.bytes⟩
  simpa using Joins.block_setCell (i := 1) h.blk (.int .i64 (m : Int))
end
end Go.Cor
namespace Go.Proofs.Ytkbcmblgieoleaa
open Go.RowKit Go.Cor Go.Free
abbrev Rea (w : World) := Br w 158
/-- a new reader -/
def NewRea (w : World) (n : Nat) (xs : List Int) (e : Ending) (w' : World) : Prop :=
  ∃ p A c, e = .returned (.pointer (some ⟨p, 0, none⟩)) ∧ Rea w' p A n c xs 0 ∧ Below w.heap.size w w' ∧ w.heap.size ≤ p ∧ ∀ b o, A = some ⟨b, o, none⟩ → w.heap.size ≤ b
theorem newReader_any (A : Option Addr) (n c : Nat) (xs : List Int) (w : World) (h : Rd w .u8 A n c xs) (hn : n ≤ 100000) (hb : By xs) :
    Calls Try.prog 110 #[.slice A n c] w (NewRea w n xs) := by
  have H := Lib.hid h
  have HB := Lib.hid hb
  clear h hb
  go_enter Try.func110, Try.ntmps110
  go_wp2_with fail
  refine (clone_any A n c xs w H.out (by omega)).mono ?_
  rintro e w1 ⟨A1, n1, c1, rfl, hown, hb1⟩
  obtain rfl : n1 = n := by have := row_len hown; have := H.out.len; omega
  have HO := Lib.hid hown
  have HB1 := Lib.hid hb1
  clear hown hb1
  go_wp2
  go_ret
  refine ⟨w1.heap.size, A1, c1, rfl, ⟨heap_alloc_new w1 _, (Rd.own HO.out).alloc _, ?_, by omega, hn, HB.out⟩, HB1.out.alloc HB1.out.size _, HB1.out.size, ?_⟩
  · rintro b o rfl
    have := HO.out.lt b rfl
    omega
  · rintro b o rfl
    exact (HO.out.lt b rfl).1
theorem rleft_any {w : World} {p : Nat} {A : Option Addr} {n c : Nat} {xs : List Int} {at_ : Nat} (h : Rea w p A n c xs at_) :
    Calls Try.prog 112 #[.pointer (some ⟨p, 0, none⟩)] w fun e w' => e = .returned (.int .i64 ((8 * n - at_ : Nat) : Int)) ∧ ∃ k, w' = w.drewN k := by
  have h0 := h.c0
  have h1 := h.c1
  have h2 := h.le
  have h3 := h.small
  have e0 : IntKind.i64.wrap ((n : Int) * 8) = (n : Int) * 8 := wrapi64_in _ (by omega) (by omega)
  have e1 : IntKind.i64.wrap ((n : Int) * 8 - (at_ : Int)) = ((8 * n - at_ : Nat) : Int) := by rw [wrapi64_in _ (by omega) (by omega)]; omega
  clear h
  go_enter Try.func112, Try.ntmps112
  go_wp2
  go_quiet (fail)
  go_wp2
  go_ret
  exact ⟨ret_i (by omega), _, rfl⟩

set_option maxRecDepth 100000 in
set_option maxHeartbeats 4000000 in
theorem rget_any {w : World} {p : Nat} {A : Option Addr} {n c : Nat} {xs : List Int} {at_ k : Nat} (h : Rea w p A n c xs at_) (hk : k ≤ 64) (hl : k ≤ 8 * n - at_) :
    Calls Try.prog 111 #[.pointer (some ⟨p, 0, none⟩), .int .i64 k] w fun e w' => e = .returned (.tuple #[.int .u64 ((nums xs / 2 ^ at_ % 2 ^ k : Nat) : Int), .int .i64 0]) ∧ Rea w' p A n c xs (at_ + k) ∧ Mod (· = p) w w' := by
  have hw := fun w => bwide_any (k : Int) w
  rw [show decide (0 ≤ (k : Int) ∧ (k : Int) ≤ 64) = true by simp; omega] at hw
  have HW := Lib.hid hw
  have HL := Lib.hid (rleft_any h)
  have H := Lib.hid h
  clear h hw
  go_enter Try.func111, Try.ntmps111
  go_wp2_with fail
  refine (HW.out _).mono ?_
  rintro e w' ⟨rfl, rfl⟩
  go_wp2_with fail
  refine HL.out.mono ?_
  rintro e w1 ⟨rfl, kd, rfl⟩
  go_wp2_with fail
  go_loopg [6, 7] k (fun g v6 v7 wr => ∃ i v : Nat, v6 = .int .u64 v ∧ v7 = .int .i64 i ∧ g = k - i ∧ i ≤ k ∧ Hid (v = nums xs / 2 ^ at_ % 2 ^ i ∧ Rea wr p A n c xs (at_ + i) ∧ Mod (· = p) w wr))
  case atStart => exact ⟨0, 0, rfl, rfl, by omega, by omega, Lib.hid ⟨by simp [Nat.mod_one], H.out.below (below_drewN (Below.refl _ _) _), .of_below (below_drewN (Below.refl _ _) _)⟩⟩
  case round =>
    obtain ⟨i, v, rfl, rfl, rfl, hi, hI⟩ := hrel
    by_cases hlt : i < k
    · have hR := hI.out.2.1
      have h0 := hR.c0
      have h1 := hR.c1
      have f1 := hR.f1
      have hsm := hR.small
      have hb8 : (at_ + i) / 8 < n := by omega
      obtain ⟨b', o, rfl, hbl, hc⟩ := hR.rd.get (by omega)
      have hcell := hc ((at_ + i) / 8) hb8
      rw [List.getD_eq_getElem?_getD] at hcell
      have hx := hR.bytes (xs[(at_ + i) / 8]?.getD 0) (by rw [List.getElem?_eq_getElem (by have := hR.rd.len; omega)]; exact List.getElem_mem _)
      obtain ⟨x, hxe⟩ : ∃ x, xs[(at_ + i) / 8]?.getD 0 = x := ⟨_, rfl⟩
      rw [hxe] at hcell hx
      obtain ⟨a, ha⟩ : ∃ a, at_ + i = a := ⟨_, rfl⟩
      rw [ha] at hxe hcell hb8 h1
      obtain ⟨q, hq⟩ : ∃ q, a / 8 = q := ⟨_, rfl⟩
      rw [hq] at hxe hcell hb8
      obtain ⟨lo, hlo⟩ : ∃ lo, a % 8 = lo := ⟨_, rfl⟩
      have ha8 : a = 8 * q + lo := by omega
      have hlo8 : lo < 8 := by omega
      have e1 : IntKind.i64.wrap ((a : Int).tmod 8) = (lo : Int) := by rw [Int.tmod_eq_emod_of_nonneg (by omega), wrapi64_in _ (by omega) (by omega)]; omega
      have e2 : IntKind.i64.wrap ((a : Int).tdiv 8) = (q : Int) := by rw [Int.tdiv_eq_ediv_of_nonneg (by omega), wrapi64_in _ (by omega) (by omega)]; omega
      have e3 : (a : Int) % 8 = (lo : Int) := by omega
      have e4 : (a : Int) / 8 = (q : Int) := by omega
      have HX := Lib.hid (And.intro hxe (And.intro ha (And.intro hq (And.intro hlo ha8))))
      clear hc hR hxe ha hq hlo ha8
      go_upto_region 10 with fail
      obtain ⟨s, hsE⟩ : ∃ s : Nat, (if (k : Int) - (i : Int) < 8 - (lo : Int) then (k : Int) - (i : Int) else 8 - (lo : Int)) = (s : Int) := ⟨min (8 - lo) (k - i), by split <;> omega⟩
      rw [hsE]
      have hs1 : s ≤ 8 - lo ∧ s ≤ k - i ∧ 0 < s ∧ s ≤ 8 := by split at hsE <;> omega
      obtain ⟨hs1, hs2, hs3, hs4⟩ := hs1
      clear hsE
      go_quiet (fail)
      obtain ⟨hxe, ha, hq, hlo, ha8⟩ := HX.out
      have hR := hI.out.2.1
      have hxl : xs.length = n := hR.rd.len
      rw [get_part hx.1 hx.2 (show lo + s ≤ 8 by omega), ← hxe, ← hq, ← hlo, part_at hR.bytes (by omega) (by omega)]
      obtain ⟨pt, hpt⟩ : ∃ pt, nums xs / 2 ^ a % 2 ^ s = pt := ⟨_, rfl⟩
      rw [hpt]
      have hv : v < 2 ^ i := by rw [hI.out.1]; exact Nat.mod_lt _ (pow_pos2 i)
      have hpl : pt < 2 ^ s := by rw [← hpt]; exact Nat.mod_lt _ (pow_pos2 s)
      have hor := get_or hv hpl (show i + s ≤ 64 by omega)
      have HP := Lib.hid hpt
      have hc1 : (wr.drewN nq).cell? ⟨p, 1, none⟩ = some (.int .i64 a) := h1
      have hf1 : (wr.drewN nq).frozen? ⟨p, 1, none⟩ = false := f1
      have HR := Lib.hid hR
      have HX2 := Lib.hid (And.intro ha hxl)
      have es1 : IntKind.i64.wrap ((a : Int) + (s : Int)) = (a : Int) + (s : Int) := by have := hR.le; exact wrapi64_in _ (by omega) (by omega)
      clear hxe ha hq hlo ha8 HX hR hpt hx hcell h0 h1 f1 hxl e1 e2 e3 e4
      go_wp2_with fail
      go_roundg (k - (i + s))
      case measure => omega
      case rel =>
        obtain ⟨ha, hxl⟩ := HX2.out
        have hle := HR.out.le
        have hI1 := hI.out.1
        have e1 : (v : Int) + 2 ^ i * (pt : Int) = ((v + 2 ^ i * pt : Nat) : Int) := by simp
        have e2 : (a : Int) + (s : Int) = ((at_ + (i + s) : Nat) : Int) := by omega
        rw [e2]
        refine ⟨i + s, v + 2 ^ i * pt, val_i e1, val_i (by omega), rfl, by omega, Lib.hid ⟨?_, (HR.out.below (below_drewN (Below.refl _ _) nq)).move (by omega), Mod.trans (Mod.trans hI.out.2.2 (.of_below (below_drewN (Below.refl _ _) nq))) (.setCell _ (by simp) _)⟩⟩
        rw [mod_split, hI1, ← HP.out, ← ha, Nat.div_div_eq_div_mul, ← Nat.pow_add]
    · obtain rfl : i = k := by omega
      have hI1 := hI.out.1
      have HV := Lib.hid hI1
      clear hI1
      go_wp2
      go_ret2
      exact ⟨by rw [← HV.out]; rfl, hI.out.2⟩
end Go.Proofs.Ytkbcmblgieoleaa

namespace Go.Cor
open Go Go.RowKit
theorem Br.of_mod {w w' : World} {T : TypeId} {p : Nat} {A : Option Addr} {n c : Nat} {xs : List Int} {a b : Nat} (h : Br w T p A n c xs a) (hm : Mod (· = p) w w') (hb : w'.heap[p]? = some (.cells #[.slice A n c, .int .i64 b] T (0, 0))) (hle : b ≤ 8 * n) : Br w' T p A n c xs b :=
  ⟨hb, h.rd.keep hm.size fun k hk ⟨o, ho⟩ => hm.block k hk (h.ne k o ho), h.ne, hle, h.small, h.bytes⟩
/-- a reading, then an append onto a row of the call's own -/
theorem Br.grown {w0 w w' : World} {T : TypeId} {p : Nat} {A : Option Addr} {n c : Nat} {xs : List Int} {a0 a : Nat} {B : Nat} {v : Value} {E : TypeId} {size m : Nat} {vs : List Value} (h0 : Br w0 T p A n c xs a0) (hm : Mod (· = p) w0 w) (h : Br w T p A n c xs a)
    (hown : w.ownsRow B E size v m vs) (hB : w0.heap.size ≤ B) (hg : w.grownBy w' v.ownBlock) : Br w' T p A n c xs a ∧ Mod (· = p) w0 w' := by
  have hm' := hm.grown hown hg hB
  refine ⟨h0.of_mod hm' ((hg.block p h.lt fun e => ?_).trans h.blk) h.le, hm'⟩
  have := (hown.lt p e.symm).1
  have := h0.lt
  omega
end Go.Cor
namespace Go.Proofs.Ytkbcmblgieoleaa
open Go.RowKit Go.Cor Go.Free

set_option maxRecDepth 100000 in
set_option maxHeartbeats 2000000 in
theorem unpack_any (A : Option Addr) (m c : Nat) (xs : List Int) (k n : Nat) (w : World) (h : Rd w .u8 A m c xs) (hb : By xs) (hm : m ≤ 100000) (hn : n ≤ 1024) (hk : k ≤ 64) :
    Calls Try.prog 68 #[.slice A m c, .int .i64 k, .int .i64 n] w (RetPair w.heap.size 32 .u64 w (unpk k n xs)) := by
  have hw := fun w => bwide_any (k : Int) w
  rw [show decide (0 ≤ (k : Int) ∧ (k : Int) ≤ 64) = true by simp; omega] at hw
  have hnd := fun w => need_any n k hn hk w
  have hlen := h.len
  have hU : unpk k n xs = if m < octets (n * k) then ([], 1) else if octets (n * k) < m then ([], 2) else if nums xs / 2 ^ (k * n) ≠ 0 then ([], 3) else (unp k n (nums xs), 0) := by unfold unpk; rw [hlen]
  have hN : octets (n * k) * 8 < n * k + 8 ∧ n * k ≤ octets (n * k) * 8 := by unfold octets; omega
  have hnk : n * k ≤ 1024 * 64 := Nat.mul_le_mul hn hk
  obtain ⟨q, hq⟩ : ∃ q, octets (n * k) = q := ⟨_, rfl⟩
  rw [hq] at hnd hU hN
  have HW := Lib.hid hw
  have HND := Lib.hid hnd
  have H := Lib.hid h
  have HB := Lib.hid hb
  have HU := Lib.hid hU
  have HN := Lib.hid hN
  have HNK := Lib.hid hnk
  clear h hw hb hnd hlen hU hq hN hnk
  by_cases h1 : m < q
  · go_enter Try.func68, Try.ntmps68
    go_wp2_with fail
    refine (HW.out _).mono ?_
    rintro e w' ⟨rfl, rfl⟩
    go_wp2_with fail
    refine (HND.out _).mono ?_
    rintro e w' ⟨rfl, rfl⟩
    go_wp2
    go_ret2
    exact ⟨none, 0, 0, by rw [HU.out, if_pos h1]; rfl, by rw [HU.out, if_pos h1]; exact owns_nil _ _ _ _, Below.refl _ _⟩
  by_cases h2 : q < m
  · go_enter Try.func68, Try.ntmps68
    go_wp2_with fail
    refine (HW.out _).mono ?_
    rintro e w' ⟨rfl, rfl⟩
    go_wp2_with fail
    refine (HND.out _).mono ?_
    rintro e w' ⟨rfl, rfl⟩
    go_wp2_with fail
    refine (HND.out _).mono ?_
    rintro e w' ⟨rfl, rfl⟩
    go_wp2
    go_ret2
    exact ⟨none, 0, 0, by rw [HU.out, if_neg h1, if_pos h2]; rfl, by rw [HU.out, if_neg h1, if_pos h2]; exact owns_nil _ _ _ _, Below.refl _ _⟩
  obtain rfl : q = m := by omega
  have HNR := Lib.hid (newReader_any A q c xs w H.out hm HB.out)
  go_enter Try.func68, Try.ntmps68
  go_wp2_with fail
  refine (HW.out _).mono ?_
  rintro e w' ⟨rfl, rfl⟩
  go_wp2_with fail
  refine (HND.out _).mono ?_
  rintro e w' ⟨rfl, rfl⟩
  go_wp2_with fail
  refine (HND.out _).mono ?_
  rintro e w' ⟨rfl, rfl⟩
  go_wp2_with fail
  refine HNR.out.mono ?_
  rintro e w1 ⟨p, A1, c1, rfl, hre, hb1, hp, hA1⟩
  have HRE := Lib.hid hre
  have HB1 := Lib.hid hb1
  clear hre hb1
  go_wp2_with fail
  go_loopg [9, 42] n (fun g v9 v42 wr => ∃ i : Nat, v42 = .int .i64 i ∧ g = n - i ∧ i ≤ n ∧ ∃ A' c', v9 = .slice A' i c' ∧ Hid (Owns wr w1.heap.size 32 .u64 A' i c' (unp k i (nums xs)) ∧ Rea wr p A1 q c1 xs (k * i) ∧ Mod (· = p) w1 wr))
  case atStart => exact ⟨0, rfl, by omega, by omega, none, 0, rfl, Lib.hid ⟨owns_nil _ _ _ _, by simpa using HRE.out, Keep.refl _ _⟩⟩
  case round =>
    obtain ⟨i, rfl, rfl, hi, A', c', rfl, hI⟩ := hrel
    by_cases hlt : i < n
    · have hks : k * i + k ≤ 8 * q := by have h3 : k * (i + 1) ≤ k * n := Nat.mul_le_mul_left _ (by omega); rw [Nat.mul_add, Nat.mul_one, Nat.mul_comm k n] at h3; have := HN.out; omega
      have hg := rget_any hI.out.2.1 hk (by omega)
      rw [show k * i + k = k * (i + 1) by rw [Nat.mul_add, Nat.mul_one]] at hg
      have HG := Lib.hid hg
      clear hg hks
      go_wp2_with fail
      refine HG.out.mono ?_
      rintro e w2 ⟨rfl, hre2, hm2⟩
      have HO2 := Lib.hid (owns_keep hI.out.1 hm2 fun g hg _ => by have := (hI.out.1.lt g hg).1; have := HRE.out.lt; omega)
      have HR2 := Lib.hid hre2
      have HM2 := Lib.hid (Mod.trans hI.out.2.2 hm2)
      clear hre2 hm2
      go_wp2_with (at_builtin; refine wpList_append_r rfl rfl elemU64 (HO2.out.alloc _) rfl (RdV.one (Box.new _ _ _)) rfl one_one (by omega) (by omega) (by have := HM2.out.size; simp; omega) ?_; intro A2 c2 w3 hown hg _)
      have hgr := Br.grown HRE.out (Mod.trans HM2.out (.alloc _ _ _)) (HR2.out.below ((Below.refl _ _).alloc (Nat.le_refl _) _)) (HO2.out.alloc _) (Nat.le_refl _) hg
      have HG3 := Lib.hid hgr
      have HO3 := Lib.hid (owns_snoc hown)
      clear hgr hown hg
      go_roundg (n - (i + 1))
      case measure => omega
      case rel => exact ⟨i + 1, by go_num, rfl, by omega, A2, c2, rfl, Lib.hid ⟨by rw [← unp_snoc]; exact HO3.out, HG3.out.1, HG3.out.2⟩⟩
    · obtain rfl : i = n := by omega
      have hN := HN.out
      have hle : 8 * q - k * i ≤ 64 := by rw [Nat.mul_comm k i]; omega
      have HL := Lib.hid (rleft_any hI.out.2.1)
      have hgt := fun kd => rget_any (k := 8 * q - k * i) (hI.out.2.1.below (below_drewN (Below.refl _ _) kd)) hle (Nat.le_refl _)
      have hv : nums xs / 2 ^ (k * i) % 2 ^ (8 * q - k * i) = nums xs / 2 ^ (k * i) := by
        refine Nat.mod_eq_of_lt (Nat.div_lt_of_lt_mul ?_)
        rw [← Nat.pow_add, show k * i + (8 * q - k * i) = 8 * q by rw [Nat.mul_comm k i]; omega, ← two8]
        have := nums_lt HB.out; rwa [H.out.len] at this
      rw [hv] at hgt
      have HGT := Lib.hid hgt
      have HU' := Lib.hid (show unpk k i xs = if nums xs / 2 ^ (k * i) ≠ 0 then ([], 3) else (unp k i (nums xs), 0) by rw [HU.out, if_neg h1, if_neg h2])
      clear hgt hv hle hN
      obtain ⟨r, hr⟩ : ∃ r, nums xs / 2 ^ (k * i) = r := ⟨_, rfl⟩
      rw [hr] at HGT HU'
      go_wp2_with fail
      refine HL.out.mono ?_
      rintro e w2 ⟨rfl, kd, rfl⟩
      by_cases h0 : r = 0
      · subst h0
        go_wp2_with fail
        refine (HGT.out kd).mono ?_
        rintro e w3 ⟨rfl, _, hm3⟩
        have HM3 := Lib.hid hm3
        clear hm3 hr
        go_wp2
        go_ret2
        exact ⟨A', i, c', by rw [HU'.out]; rfl, by rw [HU'.out]; exact owns_weak (owns_keep (hI.out.1.below (below_drewN (Below.refl _ _) kd)) HM3.out fun g hg _ => by have := (hI.out.1.lt g hg).1; have := HRE.out.lt; omega) HB1.out.size, HB1.out.trans (below_keep (Mod.trans (Mod.trans hI.out.2.2 (.of_below (below_drewN (Below.refl _ _) kd))) HM3.out) HB1.out.size fun k hk => by omega)⟩
      · have hne : (((r : Int) == 0)) = false := by simp; omega
        have hne2 : (((r : Int) != 0)) = true := by simp; omega
        go_wp2_with fail
        refine (HGT.out kd).mono ?_
        rintro e w3 ⟨rfl, _, hm3⟩
        have HM3 := Lib.hid hm3
        clear hm3 hr
        go_wp2
        go_ret2
        exact ⟨none, 0, 0, by rw [HU'.out, if_pos h0]; rfl, by rw [HU'.out, if_pos h0]; exact owns_nil _ _ _ _, HB1.out.trans (below_keep (Mod.trans (Mod.trans hI.out.2.2 (.of_below (below_drewN (Below.refl _ _) kd))) HM3.out) HB1.out.size fun k hk => by omega)⟩
end Go.Proofs.Ytkbcmblgieoleaa
