/-
  Chapter 1: Writer.Put. (lemmas: one cell of the call's own row is written)
  Chapter 1: Writer.Put: the walk.
  Chapter 1: Pack, of numbers that fit.
-/
import Derived.Lib.SmallJoins
import Derived.Deep.Cut
import Derived.Deep.LoopGhost
import Derived.Deep.CutRange
import Derived.Test.YtaohdbagcfgoeaaDoorG7
import Derived.Test.YtaohdbagcfgoeaaDoorG11
import Derived.Test.YtaohdbagcfgoeaaDoorG13
import Derived.Test.YtaohdbagcfgoeaaDoorG14
namespace Go.Cor
open Go Go.RowKit
/-- one cell of a row that the call owns is written -/
theorem owns_put {w : World} {B k i : Nat} {E : TypeId} {kd : IntKind} {v : Value} {xs : List Int} {y : Int} (h : w.ownsRow B E 1 v k (xs.map (.int kd))) (hi : i < k) :
    ∃ g c, v = .slice (some ⟨g, 0, none⟩) k c ∧ B ≤ g ∧ g < w.heap.size ∧ w.cell? ⟨g, i, none⟩ = (xs[i]?).map (.int kd) ∧ w.frozen? ⟨g, i, none⟩ = false ∧ (w.setCell ⟨g, i, none⟩ (.int kd y)).ownsRow B E 1 v k ((xs.set i y).map (.int kd)) := by
  obtain ⟨hl, h2⟩ := h
  rcases h2 with ⟨_, rfl⟩ | ⟨g, c, cur, rfl, hB, hg, hnc, hcm, hcs, ht⟩
  · omega
  have hcur : i < cur.size := by omega
  rw [Nat.mul_one] at ht
  refine ⟨g, c, rfl, hB, lt_of_block hg, ?_, by simp [World.frozen?, hg], by simpa using hl, .inr ⟨g, c, cur.setIfInBounds i (.int kd y), rfl, hB, Joins.block_setCell hg _, hnc, hcm, by simpa using hcs, ?_⟩⟩
  · have e : (xs.map (Value.int kd))[i]? = cur[i]? := by
      rw [← ht, List.getElem?_take_of_lt hi]; simp
    rw [List.getElem?_map] at e
    simp [World.cell?, hg, e]
  · rw [Nat.mul_one, Array.toList_setIfInBounds, List.take_set, ht, List.map_set]
/-- a row that the call owns is no block of another type -/
theorem owns_ne {w : World} {B k p size : Nat} {E T : TypeId} {v : Value} {xs : List Value} {cs : Array Value} (h : w.ownsRow B E size v k xs) (hp : w.heap[p]? = some (.cells cs T (0, 0))) (hT : E ≠ T) : v.ownBlock ≠ some p := by
  intro e
  rcases h.2 with ⟨rfl, _⟩ | ⟨g, c, cur, rfl, _, hg, _⟩
  · cases e
  · injection e with e
    simp only at e
    subst e
    rw [hp] at hg
    injection hg with hg
    injection hg with _ h2
    exact hT h2.symm
end Go.Cor
namespace Go.Proofs.YtaohdbagcfgoeaaDoor
open Go.RowKit Go.Cor Go.Free

theorem octets_open {m : Nat} (h : ¬ m % 8 = 0) : octets m = m / 8 + 1 := by unfold octets; omega
theorem octets_shut {m : Nat} (h : m % 8 = 0) : octets m = m / 8 := by unfold octets; omega
end Go.Proofs.YtaohdbagcfgoeaaDoor

namespace Go.Cor
open Go
theorem put_byte {V u a s q g : Nat} (hV : V / 256 ^ q < 2 ^ a) (ha : a < 8) (hu : u < 2 ^ g) (hg : g ≤ 64) (hs : s = min (8 - a) g) :
    bits .or .u8 ((V : Int) / 256 ^ q % 256) (IntKind.u64.wrap ((u : Int) * 2 ^ a) % 256) = ((V / 256 ^ q + u % 2 ^ s * 2 ^ a : Nat) : Int) := by
  have hw : IntKind.u64.wrap ((u : Int) * 2 ^ a) % 256 = ((u * 2 ^ a % 256 : Nat) : Int) := by
    rw [wrapu64, show (u : Int) * 2 ^ a = ((u * 2 ^ a : Nat) : Int) by simp]; omega
  have h8 : (256 : Nat) = 2 ^ (8 - a) * 2 ^ a := by rw [← Nat.pow_add, show 8 - a + a = 8 by omega]
  have hm : u * 2 ^ a % 256 = u % 2 ^ s * 2 ^ a := by
    rw [h8, Nat.mul_mod_mul_right]
    by_cases h : 8 - a ≤ g
    · rw [show s = 8 - a by omega]
    · obtain rfl : s = g := by omega
      rw [Nat.mod_eq_of_lt hu, Nat.mod_eq_of_lt (Nat.lt_of_lt_of_le hu (Nat.pow_le_pow_right (by decide) (by omega)))]
  have h2 : 2 ^ a ≤ 2 ^ 7 := Nat.pow_le_pow_right (by decide) (by omega)
  have hv : (V : Int) / 256 ^ q % 256 = ((V / 256 ^ q : Nat) : Int) := by
    rw [show (V : Int) / 256 ^ q = ((V / 256 ^ q : Nat) : Int) by simp]; obtain ⟨y, hy⟩ : ∃ y, V / 256 ^ q = y := ⟨_, rfl⟩; rw [hy] at hV ⊢; omega
  have h3 : u % 2 ^ s * 2 ^ a + 2 ^ a ≤ 256 := by
    rw [h8, ← Nat.succ_mul]
    exact Nat.mul_le_mul_right _ (Nat.lt_of_lt_of_le (Nat.mod_lt _ (pow_pos2 s)) (Nat.pow_le_pow_right (by decide) (by omega)))
  rw [hw, hm, hv, show ((u % 2 ^ s * 2 ^ a : Nat) : Int) = 2 ^ a * ((u % 2 ^ s : Nat) : Int) by rw [Int.natCast_mul, Int.mul_comm]; simp]
  rw [or_parts_u8 _ _ a (by omega) (by rw [show (2 : Int) ^ a = ((2 ^ a : Nat) : Int) by simp]; omega) (by omega) (by rw [show (2 : Int) ^ a * ((u % 2 ^ s : Nat) : Int) = ((u % 2 ^ s * 2 ^ a : Nat) : Int) by rw [Int.natCast_mul, Int.mul_comm]; simp]; omega)]
  rw [Int.natCast_add, Int.natCast_mul, Int.mul_comm]; simp
end Go.Cor
namespace Go.Proofs.YtaohdbagcfgoeaaDoor
open Go.RowKit Go.Cor Go.Free

end Go.Proofs.YtaohdbagcfgoeaaDoor

namespace Go.Cor
/-- what Unpack hands out -/
def unpk (k n : Nat) (b : List Int) : List Int × Int :=
  if b.length < octets (n * k) then ([], 1) else if octets (n * k) < b.length then ([], 2) else if nums b / 2 ^ (k * n) ≠ 0 then ([], 3) else (unp k n (nums b), 0)
end Go.Cor
namespace Go.Proofs.YtaohdbagcfgoeaaDoor
open Go.RowKit Go.Cor Go.Free

/-- a pair of a fresh row and an error's number -/
def RetPair (B : Nat) (E : TypeId) (k : IntKind) (w : World) (r : List Int × Int) (e : Ending) (w' : World) : Prop :=
  ∃ A n c, e = .returned (.tuple #[.slice A n c, .int .i64 r.2]) ∧ Owns w' B E k A n c r.1 ∧ Below B w w'
end Go.Proofs.YtaohdbagcfgoeaaDoor
