/-
  bytes.Clone; what the tables say of rows of bytes and numbers. (Printed by wip/genput.py.)
  Chapter 7: may a block have so many numbers?
-/
import Derived.Test.YtaohdbagcfgoeaaDoorRows
import Derived.WalkKit
import Derived.WalkSpells
import Derived.WalkLawsBesides
import Derived.ProofKit
import Derived.OpenShut
import Derived.Test.YtaohdbagcfgoeaaDoorG6
import Derived.Test.YtaohdbagcfgoeaaDoorG7
import Derived.Test.YtaohdbagcfgoeaaDoorG8
namespace Go.Cor
open Go Go.RowKit Go.Free
theorem Owns.below {w w' : World} {B : Nat} {E : TypeId} {k : IntKind} {A : Option Addr} {n c : Nat} {xs : List Int} (h : Owns w B E k A n c xs) (hb : Below w.heap.size w w') : Owns w' B E k A n c xs :=
  owns_keep (S := fun _ _ => True) h (.of_below hb) (fun _ _ _ => trivial)
theorem owns_weak {w : World} {B B' : Nat} {E : TypeId} {size : Nat} {v : Value} {n : Nat} {xs : List Value} (h : w.ownsRow B E size v n xs) (hb : B' ≤ B) : w.ownsRow B' E size v n xs := by
  refine ⟨h.1, ?_⟩
  rcases h.2 with ⟨rfl, rfl⟩ | ⟨g, cap, cur, rfl, hB, hg, hnc, hcm, hcs, ht⟩
  · exact .inl ⟨rfl, rfl⟩
  · exact .inr ⟨g, cap, cur, rfl, Nat.le_trans hb hB, hg, hnc, hcm, hcs, ht⟩
theorem row_len {w : World} {B : Nat} {E : TypeId} {k : IntKind} {A : Option Addr} {n c : Nat} {xs : List Int} (h : Owns w B E k A n c xs) : xs.length = n := by
  have := h.1; simpa using this
theorem owns_start {w : World} {B : Nat} {E : TypeId} {k : IntKind} {A : Option Addr} {n c : Nat} {xs : List Int} (h : w.ownsRow B E 1 (.slice A (0 + n) c) (0 + n) ([] ++ xs.map (.int k))) : Owns w B E k A n c xs := by rw [Nat.zero_add] at h; exact h
/-- a number's bytes, the least first -/
def leb (v m : Nat) : List Int := (List.range m).map fun j => ((v / 256 ^ j % 256 : Nat) : Int)
theorem leb_len (v m : Nat) : (leb v m).length = m := by simp [leb]
theorem leb_snoc (v m : Nat) : leb v m ++ [((v / 256 ^ m % 256 : Nat) : Int)] = leb v (m + 1) := range_map_snoc _ m
theorem leb_bytes (v m : Nat) : ∀ x ∈ leb v m, 0 ≤ x ∧ x ≤ 255 := by
  intro x hx
  simp only [leb, List.mem_map] at hx
  obtain ⟨j, _, rfl⟩ := hx
  have := Nat.mod_lt (v / 256 ^ j) (show 0 < 256 by decide)
  omega
end Go.Cor
namespace Go.Proofs.YtaohdbagcfgoeaaDoor
open Go.RowKit Go.Cor Go.Free

theorem elemU8 : ElemT Tryd.prog 30 5 (.int .u8 0) 1 1 := ⟨Tryd.underlying30, by kernel_rfl, rfl, by decide⟩

set_option maxHeartbeats 1000000 in
theorem clone_any (A : Option Addr) (n c : Nat) (xs : List Int) (w : World) (h : Rd w .u8 A n c xs) (hn : n ≤ 1000000) :
    Calls Tryd.prog 50 #[.slice A n c] w (RetRow w.heap.size 5 .u8 w xs) := by
  cases A with
  | none =>
    have hc := h.nil rfl
    have hn0 : n = 0 := by have := h.cap; omega
    subst hc hn0
    have hx : xs = [] := List.eq_nil_of_length_eq_zero (by have := h.len; omega)
    subst hx
    have hnl := fun (w : World) => Lib.run_eql_slice_nil (P := Tryd.prog) w 30 5 none 0 0 0 0 Tryd.underlying30
    go_enter Tryd.func50, Tryd.ntmps50
    go_wp2
    go_ret
    exact ⟨none, 0, 0, rfl, owns_nil _ _ _ _, Below.refl _ _⟩
  | some ad =>
    have H := Lib.hid h
    have HN := Lib.hid hn
    clear h hn
    have hnl := fun (w : World) => Lib.run_eql_slice_nil (P := Tryd.prog) w 30 5 (some ad) n c 0 0 Tryd.underlying30
    go_enter Tryd.func50, Tryd.ntmps50
    go_wp2_with (at_builtin; refine wpList_append_r rfl rfl elemU8 (owns_lit0 (Nat.le_refl _)) rfl (Rd.toV (H.out.alloc _)) rfl ints_one (by have := HN.out; omega) (by have := HN.out; omega) (by simp) ?_; intro A' c' w' hown hg _)
    go_ret
    exact ⟨A', n, c', rfl, by simpa using hown, below_grown ((Below.refl _ _).alloc (Nat.le_refl _) _) (owns_lit0 (size := 1) (Nat.le_refl _)) hg (by simp)⟩

theorem elemI64 : ElemT Tryd.prog 22 2 (.int .i64 0) 1 8 := ⟨Tryd.underlying22, by kernel_rfl, rfl, by decide⟩
end Go.Proofs.YtaohdbagcfgoeaaDoor

namespace Go.Cor
def blk (n : Int) : Bool := decide (1 ≤ n ∧ n ≤ 1024)
end Go.Cor
namespace Go.Proofs.YtaohdbagcfgoeaaDoor
open Go.RowKit Go.Cor Go.Free

theorem block_any (n : Int) (w : World) : Calls Tryd.prog 38 #[.int .i64 n] w fun e w' => e = .returned (.bool (blk n)) ∧ w = w' := by
  by_cases h1 : 1 ≤ n
  · by_cases h2 : n ≤ 1024
    · have hb : blk n = true := by unfold blk; simp; omega
      rw [hb]
      clear hb
      go_enter Tryd.func38, Tryd.ntmps38
      go_wp2
      go_ret
      exact ⟨rfl, rfl⟩
    · have hb : blk n = false := by unfold blk; simp; omega
      rw [hb]
      clear hb
      go_enter Tryd.func38, Tryd.ntmps38
      go_wp2
      go_ret
      exact ⟨ret_b (by simp <;> omega), rfl⟩
  · have hb : blk n = false := by unfold blk; simp; omega
    rw [hb]
    clear hb
    go_enter Tryd.func38, Tryd.ntmps38
    go_wp2
    go_ret
    exact ⟨rfl, rfl⟩
theorem refBlock_any (n : Int) (w : World) : Calls Tryd.prog 23 #[.int .i64 n] w fun e w' => e = .returned (.bool (blk n)) ∧ w = w' := by
  by_cases h1 : 1 ≤ n
  · by_cases h2 : n ≤ 1024
    · have hb : blk n = true := by unfold blk; simp; omega
      rw [hb]
      clear hb
      go_enter Tryd.func23, Tryd.ntmps23
      go_wp2
      go_ret
      exact ⟨rfl, rfl⟩
    · have hb : blk n = false := by unfold blk; simp; omega
      rw [hb]
      clear hb
      go_enter Tryd.func23, Tryd.ntmps23
      go_wp2
      go_ret
      exact ⟨ret_b (by simp <;> omega), rfl⟩
  · have hb : blk n = false := by unfold blk; simp; omega
    rw [hb]
    clear hb
    go_enter Tryd.func23, Tryd.ntmps23
    go_wp2
    go_ret
    exact ⟨rfl, rfl⟩
end Go.Proofs.YtaohdbagcfgoeaaDoor
