/-
  Chapter 1, plain: packed rows: pk is the number of a row of numbers of one width, unp its numbers again; bits as a list of truths.
  A cursor, while the call's own rows grow.
  The reference: a number of bytes; the block of a plain form.
-/
import Derived.Test.YtaohdbagcfgoeaaDoorG8
import Derived.Test.YtaohdbagcfgoeaaDoorG9
import Derived.Test.YtaohdbagcfgoeaaDoorG11
import Derived.Test.YtaohdbagcfgoeaaDoorG12
namespace Go.Cor
def octets (n : Nat) : Nat := (n + 7) / 8
theorem pow_pos2 (k : Nat) : 0 < 2 ^ k := Nat.pow_pos (by decide)
/-- a row of numbers of one width, as one number -/
def pk (k : Nat) : List Int → Nat
  | [] => 0
  | u :: r => u.toNat + 2 ^ k * pk k r
def Fitl (k : Nat) (l : List Int) : Prop := ∀ u ∈ l, 0 ≤ u ∧ u.toNat < 2 ^ k
theorem pk_app (k : Nat) (l m : List Int) : pk k (l ++ m) = pk k l + 2 ^ (k * l.length) * pk k m := by
  induction l with
  | nil => simp [pk]
  | cons u r ih => simp only [List.cons_append, pk, ih, List.length_cons, Nat.mul_add, Nat.pow_add, Nat.mul_one, Nat.add_assoc, Nat.mul_assoc, Nat.mul_comm, Nat.mul_left_comm]
theorem pk_snoc (k : Nat) (l : List Int) (u : Int) : pk k (l ++ [u]) = pk k l + u.toNat * 2 ^ (k * l.length) := by rw [pk_app]; simp [pk, Nat.mul_comm]
theorem pk_take (k : Nat) {l : List Int} {i : Nat} (h : i < l.length) : pk k (l.take (i + 1)) = pk k (l.take i) + (l[i]?.getD 0).toNat * 2 ^ (k * i) := by
  rw [take_snoc h, pk_snoc, List.length_take, Nat.min_eq_left (by omega)]
theorem pk_lt {k : Nat} {l : List Int} (h : Fitl k l) : pk k l < 2 ^ (k * l.length) := by
  induction l with
  | nil => simp [pk]
  | cons u r ih =>
    have h1 := (h u (by simp)).2
    have h2 := ih fun x hx => h x (by simp [hx])
    rw [pk, List.length_cons, Nat.mul_add, Nat.mul_one, Nat.pow_add, Nat.mul_comm (2 ^ (k * r.length))]
    have h3 : 2 ^ k * (pk k r + 1) ≤ 2 ^ k * 2 ^ (k * r.length) := Nat.mul_le_mul_left _ h2
    rw [Nat.mul_add] at h3
    omega
theorem pk_get {k : Nat} : ∀ {l : List Int}, Fitl k l → ∀ {i : Nat}, i < l.length → pk k l / 2 ^ (k * i) % 2 ^ k = (l[i]?.getD 0).toNat
  | [], _, i, hi => by simp at hi
  | u :: r, h, 0, _ => by
    simp only [pk, Nat.mul_zero, Nat.pow_zero, Nat.div_one]
    rw [Nat.add_mul_mod_self_left, Nat.mod_eq_of_lt (h u (by simp)).2]; rfl
  | u :: r, h, i + 1, hi => by
    rw [pk, Nat.mul_add, Nat.mul_one, Nat.add_comm (k * i), Nat.pow_add, ← Nat.div_div_eq_div_mul, Nat.add_mul_div_left _ _ (pow_pos2 k), Nat.div_eq_of_lt (h u (by simp)).2, Nat.zero_add,
      pk_get (fun x hx => h x (by simp [hx])) (by simpa using hi)]
    rfl
/-- the numbers of a width of a number -/
def unp (k n V : Nat) : List Int := (List.range n).map fun i => ((V / 2 ^ (k * i) % 2 ^ k : Nat) : Int)
theorem unp_len (k n V : Nat) : (unp k n V).length = n := by simp [unp]
theorem unp_snoc (k n V : Nat) : unp k n V ++ [((V / 2 ^ (k * n) % 2 ^ k : Nat) : Int)] = unp k (n + 1) V := range_map_snoc _ n
theorem unp_fit (k n V : Nat) : Fitl k (unp k n V) := by
  intro u hu
  obtain ⟨i, _, rfl⟩ := List.mem_map.1 hu
  exact ⟨by omega, by rw [Int.toNat_natCast]; exact Nat.mod_lt _ (pow_pos2 k)⟩
theorem unp_pk {k : Nat} {l : List Int} (h : Fitl k l) : unp k l.length (pk k l) = l := by
  apply List.ext_getElem (by simp [unp])
  intro i h1 h2
  simp only [unp, List.getElem_map, List.getElem_range]
  rw [pk_get h h2, List.getElem?_eq_getElem h2, Option.getD_some]
  have := (h _ (List.getElem_mem h2)).1
  omega
theorem unp_mod (k n V m : Nat) (h : k * n ≤ m) : unp k n (V % 2 ^ m) = unp k n V := by
  unfold unp
  refine List.map_congr_left fun i hi => ?_
  have hi := List.mem_range.1 hi
  congr 1
  have h1 : k * i + k ≤ m := by have : k * (i + 1) ≤ k * n := Nat.mul_le_mul_left _ hi; rw [Nat.mul_add] at this; omega
  rw [show (2 : Nat) ^ m = 2 ^ (k * i) * 2 ^ (m - k * i) by rw [← Nat.pow_add]; congr 1; omega, Nat.mod_mul_right_div_self]
  exact Nat.mod_mod_of_dvd _ (Nat.pow_dvd_pow 2 (by omega))

/-- what packed bytes are -/
def packed (k : Nat) (l : List Int) : List Int := leb (pk k l) (octets (l.length * k))
/-- a row of bytes as a number -/
def nums (b : List Int) : Nat := (num b).toNat
theorem nums_eq {b : List Int} (h : By b) : ((nums b : Nat) : Int) = num b := by unfold nums; have := (num_bd h).1; omega
theorem nums_lt {b : List Int} (h : By b) : nums b < 256 ^ b.length := by
  have h1 := (num_bd h).2
  have h2 := nums_eq h
  have h3 : ((256 ^ b.length : Nat) : Int) = (256 : Int) ^ b.length := Int.natCast_pow 256 _
  omega
theorem nums_nil : nums [] = 0 := rfl
theorem nums_cons {x : Int} {r : List Int} (h : By (x :: r)) : nums (x :: r) = x.toNat + 256 * nums r := by
  have h1 := nums_eq h
  have h2 := nums_eq (b := r) fun y hy => h y (by simp [hy])
  have h3 := h x (by simp)
  rw [num] at h1
  omega
/-- a bit of bytes is a bit of their number -/
theorem nums_at : ∀ {b : List Int}, By b → ∀ {j : Nat}, j < b.length → nums b / 256 ^ j % 256 = (b[j]?.getD 0).toNat
  | [], _, j, hj => by simp at hj
  | x :: r, h, 0, _ => by
    have h3 := h x (by simp)
    rw [nums_cons h]; simp; omega
  | x :: r, h, j + 1, hj => by
    have h3 := h x (by simp)
    rw [nums_cons h, Nat.pow_succ, Nat.mul_comm (256 ^ j), ← Nat.div_div_eq_div_mul, show (x.toNat + 256 * nums r) / 256 = nums r by omega, nums_at (fun y hy => h y (by simp [hy])) (by simpa using hj)]
    rfl
theorem nums_packed {k : Nat} {l : List Int} (h : Fitl k l) : nums (packed k l) = pk k l := by
  unfold nums packed
  rw [num_leb, Int.toNat_natCast, Nat.mod_eq_of_lt]
  refine Nat.lt_of_lt_of_le (pk_lt h) ?_
  rw [two8]
  refine Nat.pow_le_pow_right (by decide) ?_
  unfold octets
  rw [Nat.mul_comm l.length]; omega
theorem packed_len (k : Nat) (l : List Int) : (packed k l).length = octets (l.length * k) := leb_len _ _
/-- the bits of bytes from a place on lie in one byte and in what follows -/
theorem bit_at {b : List Int} (h : By b) {j : Nat} (hj : j / 8 < b.length) : nums b / 2 ^ j % 2 = (b[j / 8]?.getD 0).toNat / 2 ^ (j % 8) % 2 := by
  rw [pow_split, ← Nat.div_div_eq_div_mul, ← nums_at h hj]
  obtain ⟨V, hV⟩ : ∃ V, nums b / 256 ^ (j / 8) = V := ⟨_, rfl⟩
  rw [hV]
  have h8 : j % 8 < 8 := Nat.mod_lt _ (by decide)
  rw [show (256 : Nat) = 2 ^ (j % 8) * 2 ^ (8 - j % 8) by rw [← Nat.pow_add, show j % 8 + (8 - j % 8) = 8 by omega], Nat.mod_mul_right_div_self]
  exact (Nat.mod_mod_of_dvd _ ⟨2 ^ (7 - j % 8), by rw [← Nat.pow_succ']; congr 1; omega⟩).symm
/-- some bits of one byte -/
theorem part_at {b : List Int} (h : By b) {j s : Nat} (hj : j / 8 < b.length) (hs : j % 8 + s ≤ 8) : (b[j / 8]?.getD 0).toNat / 2 ^ (j % 8) % 2 ^ s = nums b / 2 ^ j % 2 ^ s := by
  rw [pow_split j, ← Nat.div_div_eq_div_mul, ← nums_at h hj]
  obtain ⟨V, hV⟩ : ∃ V, nums b / 256 ^ (j / 8) = V := ⟨_, rfl⟩
  rw [hV]
  rw [show (256 : Nat) = 2 ^ (j % 8) * 2 ^ (8 - j % 8) by rw [← Nat.pow_add, show j % 8 + (8 - j % 8) = 8 by omega], Nat.mod_mul_right_div_self]
  exact Nat.mod_mod_of_dvd _ (Nat.pow_dvd_pow 2 (by omega))
/-- a number's bits, in two parts -/
theorem mod_split (x k s : Nat) : x % 2 ^ (k + s) = x % 2 ^ k + 2 ^ k * (x / 2 ^ k % 2 ^ s) := by rw [Nat.pow_add, Nat.mod_mul]

/-- bits as a number -/
def nbs : List Bool → Nat
  | [] => 0
  | x :: r => x.toNat + 2 * nbs r
def bitsOf (v : Nat) : Nat → List Bool
  | 0 => []
  | k + 1 => decide (v % 2 = 1) :: bitsOf (v / 2) k
theorem bitsOf_len (v k : Nat) : (bitsOf v k).length = k := by
  induction k generalizing v with
  | zero => rfl
  | succ k ih => simp [bitsOf, ih]
theorem nbs_app (l m : List Bool) : nbs (l ++ m) = nbs l + 2 ^ l.length * nbs m := by
  induction l with
  | nil => simp [nbs]
  | cons x r ih => simp only [List.cons_append, nbs, ih, List.length_cons, Nat.mul_add, Nat.pow_succ]; rw [Nat.mul_comm (2 ^ r.length) 2, Nat.mul_assoc]; omega
theorem nbs_bits (v k : Nat) : nbs (bitsOf v k) = v % 2 ^ k := by
  induction k generalizing v with
  | zero => simp [bitsOf, nbs, Nat.mod_one]
  | succ k ih =>
    rw [bitsOf, nbs, ih, Nat.pow_succ', Nat.mod_mul]
    by_cases h : v % 2 = 1
    · simp [h]
    · simp [h]; omega
theorem nbs_lt (l : List Bool) : nbs l < 2 ^ l.length := by
  induction l with
  | nil => simp [nbs]
  | cons x r ih =>
    rw [nbs, List.length_cons, Nat.pow_succ]
    cases x <;> simp <;> omega
theorem bitsOf_snoc (v k : Nat) : bitsOf v k ++ [decide (v / 2 ^ k % 2 = 1)] = bitsOf v (k + 1) := by
  induction k generalizing v with
  | zero => simp [bitsOf]
  | succ k ih => rw [bitsOf, List.cons_append, bitsOf, Nat.pow_succ', ← Nat.div_div_eq_div_mul, ih]
/-- the bits of a row of numbers -/
def bitl (k : Nat) (l : List Int) : List Bool := (l.map fun u => bitsOf u.toNat k).flatten
theorem bitl_len (k : Nat) (l : List Int) : (bitl k l).length = k * l.length := by
  induction l with
  | nil => rfl
  | cons u r ih => rw [bitl, List.map_cons, List.flatten_cons, List.length_append, bitsOf_len, ← bitl, ih, List.length_cons, Nat.mul_add]; omega
theorem bitl_snoc (k : Nat) {l : List Int} {i : Nat} (h : i < l.length) : bitl k (l.take i) ++ bitsOf (l[i]?.getD 0).toNat k = bitl k (l.take (i + 1)) := by
  unfold bitl; rw [take_snoc h]; simp
theorem nbs_bitl {k : Nat} {l : List Int} (h : Fitl k l) : nbs (bitl k l) = pk k l := by
  induction l with
  | nil => rfl
  | cons u r ih => rw [bitl, List.map_cons, List.flatten_cons, nbs_app, bitsOf_len, nbs_bits, ← bitl, ih fun x hx => h x (by simp [hx]), pk, Nat.mod_eq_of_lt (h u (by simp)).2]
theorem nbs_take {l : List Bool} {i : Nat} (h : i < l.length) : nbs (l.take (i + 1)) = nbs (l.take i) + (l[i]?.getD false).toNat * 2 ^ i := by
  rw [List.take_add_one, List.getElem?_eq_getElem h]
  simp only [Option.toList_some, Option.getD_some]
  rw [nbs_app, List.length_take, Nat.min_eq_left (by omega)]
  simp [nbs, Nat.mul_comm]
/-- a bit goes into a row of bytes -/
theorem leb_bit {V i u M : Nat} (hV : V < 2 ^ i) (hu : u < 2) (hM : i / 8 < M) :
    (leb V M).set (i / 8) ((V / 256 ^ (i / 8) % 256 + u * 2 ^ (i % 8) : Nat) : Int) = leb (V + u * 2 ^ i) M ∧ V / 256 ^ (i / 8) % 256 + u * 2 ^ (i % 8) < 256 := by
  have hp := pow_split i
  obtain ⟨k, hk⟩ : ∃ k, i / 8 = k := ⟨_, rfl⟩
  obtain ⟨a, ha⟩ : ∃ a, i % 8 = a := ⟨_, rfl⟩
  have ha8 : a < 8 := by omega
  rw [hk, ha] at hp ⊢
  rw [hk] at hM
  rw [hp] at hV ⊢
  have h3 : V / 256 ^ k < 2 ^ a := Nat.div_lt_of_lt_mul hV
  have h4 : 2 * 2 ^ a ≤ 256 := by rw [← Nat.pow_succ']; exact Nat.pow_le_pow_right (n := 2) (by decide) (show a + 1 ≤ 8 by omega)
  have h5 : u * 2 ^ a ≤ 2 ^ a := by have := Nat.mul_le_mul_right (2 ^ a) (show u ≤ 1 by omega); omega
  have h6 : V / 256 ^ k % 256 = V / 256 ^ k := Nat.mod_eq_of_lt (by omega)
  rw [h6]
  refine ⟨List.ext_getElem? fun j => ?_, by omega⟩
  have key : (V + u * (256 ^ k * 2 ^ a)) / 256 ^ k = V / 256 ^ k + u * 2 ^ a := by
    rw [show u * (256 ^ k * 2 ^ a) = 256 ^ k * (u * 2 ^ a) by simp only [Nat.mul_assoc, Nat.mul_left_comm, Nat.mul_comm], Nat.add_mul_div_left _ _ (Nat.pow_pos (by decide))]
  by_cases h1 : j < k
  · rw [List.getElem?_set_ne (by omega), leb_at (by omega), leb_at (by omega)]
    congr 2
    have e : u * (256 ^ k * 2 ^ a) = 256 ^ j * (256 * (256 ^ (k - j - 1) * u * 2 ^ a)) := by
      have : (256 : Nat) ^ k = 256 ^ j * (256 * 256 ^ (k - j - 1)) := by
        rw [← Nat.pow_succ', ← Nat.pow_add]; congr 1; omega
      rw [this]; simp only [Nat.mul_assoc, Nat.mul_left_comm, Nat.mul_comm]
    rw [e, Nat.add_mul_div_left _ _ (Nat.pow_pos (by decide)), Nat.add_mul_mod_self_left]
  · by_cases h2 : j = k
    · subst h2
      rw [List.getElem?_set_self (by rw [leb_len]; omega), leb_at (by omega), key]
      congr 2
      omega
    · by_cases h7 : j < M
      · have h8 : ∀ y : Nat, y / 256 ^ k < 256 → y / 256 ^ j = 0 := by
          intro y hy
          rw [show j = k + (j - k) by omega, Nat.pow_add, ← Nat.div_div_eq_div_mul, Nat.div_eq_of_lt]
          have h9 : 256 ^ 1 ≤ 256 ^ (j - k) := Nat.pow_le_pow_right (by decide) (by omega)
          omega
        rw [List.getElem?_set_ne (by omega), leb_at h7, leb_at h7, h8 V (by omega), h8 _ (by omega)]
      · rw [List.getElem?_eq_none (by simp [leb_len]; omega), List.getElem?_eq_none (by rw [leb_len]; omega)]
end Go.Cor

namespace Go.Cor
open Go Go.RowKit
theorem Mod.grown {T : Nat → Prop} {w0 w w' : World} {B : Nat} {v : Value} {E : TypeId} {size n : Nat} {xs : List Value} (h : Mod T w0 w) (hown : w.ownsRow B E size v n xs) (hg : w.grownBy w' v.ownBlock) (hB : w0.heap.size ≤ B) : Mod T w0 w' :=
  ⟨hg.os.trans h.os, hg.tape.trans h.tape, hg.output.trans h.output, Nat.le_trans h.size hg.size, fun k hk ht => (hg.block k (Nat.lt_of_lt_of_le hk h.size) (fun e => by have := (hown.lt k e.symm).1; omega)).trans (h.block k hk ht)⟩
theorem Cu.of_mod {w w' : World} {T : TypeId} {p : Nat} {A : Option Addr} {n c : Nat} {xs : List Int} {a b : Nat} (h : Cu w T p A n c xs a) (hm : Mod (· = p) w w') (hb : w'.heap[p]? = some (.cells #[.slice A n c, .int .i64 b] T (0, 0))) (hle : b ≤ n) : Cu w' T p A n c xs b :=
  ⟨hb, h.rd.keep hm.size fun k hk ⟨o, ho⟩ => hm.block k hk (h.ne k o ho), h.ne, hle, h.small, h.bytes⟩
/-- a reading, then an append onto a row of the call's own -/
theorem Cu.grown {w0 w w' : World} {T : TypeId} {p : Nat} {A : Option Addr} {n c : Nat} {xs : List Int} {a0 a : Nat} {B : Nat} {v : Value} {E : TypeId} {size m : Nat} {vs : List Value} (h0 : Cu w0 T p A n c xs a0) (hm : Mod (· = p) w0 w) (h : Cu w T p A n c xs a)
    (hown : w.ownsRow B E size v m vs) (hB : w0.heap.size ≤ B) (hg : w.grownBy w' v.ownBlock) : Cu w' T p A n c xs a ∧ Mod (· = p) w0 w' := by
  have hm' := hm.grown hown hg hB
  refine ⟨h0.of_mod hm' ((hg.block p h.lt fun e => ?_).trans h.blk) h.le, hm'⟩
  have := (hown.lt p e.symm).1
  have := h0.lt
  omega
end Go.Cor

namespace Go.Proofs.YtaohdbagcfgoeaaDoor
open Go.RowKit Go.Cor Go.Free

set_option maxHeartbeats 1000000 in
theorem refNumber_any (A : Option Addr) (n c : Nat) (xs : List Int) (w : World) (h : Rd w .u8 A n c xs) (hby : By xs) (hn : n ≤ 8) :
    Calls Tryd.prog 34 #[.slice A n c] w fun e w' => e = .returned (.int .u64 (num xs)) ∧ w = w' := by
  have H := Lib.hid h
  have HBY := Lib.hid hby
  clear h hby
  go_enter Tryd.func34, Tryd.ntmps34
  go_wp2
  go_loop [3, 4, 8, 9, 10, 11, 12, 13, 14, 15, 16, 17, 18, 19] (fun v3 v4 _ _ _ _ _ _ _ _ _ _ _ _ => ∃ j : Nat, v4 = .int .i64 ((j : Int) - 1) ∧ j ≤ n ∧ ∃ v : Int, v3 = .int .u64 v ∧ 0 ≤ v ∧ Hid (v = num (xs.drop j)))
    (fun _ v4 _ _ _ _ _ _ _ _ _ _ _ _ => (intOf v4 + 1).toNat)
  case atStart => exact ⟨n, rfl, by omega, 0, rfl, by omega, Lib.hid (by rw [List.drop_of_length_le (by have := H.out.len; omega)]; rfl)⟩
  case round =>
    obtain ⟨j, rfl, hj, v, rfl, hv0, hv⟩ := hrel
    by_cases hlt : 0 < j
    · obtain ⟨i, rfl⟩ : ∃ i, j = i + 1 := ⟨j - 1, by omega⟩
      have hi : ((i + 1 : Nat) : Int) - 1 = (i : Int) := by omega
      rw [hi]
      obtain ⟨b, o, rfl, _, hc⟩ := H.out.get (by omega)
      have hcell := hc i (by omega)
      have hl := H.out.len
      rw [List.getD_eq_getElem?_getD] at hcell
      have hx := HBY.out (xs[i]?.getD 0) (by rw [List.getElem?_eq_getElem (by omega)]; exact List.getElem_mem _)
      have e1 : num (xs.drop i) = xs[i]?.getD 0 + 256 * num (xs.drop (i + 1)) := by rw [drop_cons_getD xs 0 (by omega)]; rfl
      obtain ⟨x, hxe⟩ : ∃ x, xs[i]?.getD 0 = x := ⟨_, rfl⟩
      rw [hxe] at hcell hx e1
      rw [← hv.out] at e1
      obtain ⟨hx0, hx1⟩ := hx
      have hb := num_bd (HBY.out.drop i)
      rw [e1, List.length_drop, hl] at hb
      have hb2 : x + 256 * v ≤ 18446744073709551615 := by
        have h2 : ((256 ^ (n - i) : Nat) : Int) ≤ ((256 ^ 8 : Nat) : Int) := Int.ofNat_le.2 (Nat.pow_le_pow_right (by decide) (by omega))
        rw [Int.natCast_pow] at h2
        have h4 : ((256 : Nat) : Int) = 256 := rfl
        rw [h4] at h2
        have h3 : ((256 ^ 8 : Nat) : Int) = 18446744073709551616 := by decide
        omega
      have E1 := Lib.hid e1
      clear hc hl hxe e1 hb hi hv
      go_wp2
      go_round
      case rel => exact ⟨i, by go_num, by omega, x + 256 * v, val_i (by omega), by omega, Lib.hid E1.out.symm⟩
      case measure => simp [intOf] <;> omega
    · obtain rfl : j = 0 := by omega
      have hv' := hv.out
      rw [List.drop_zero] at hv'
      have HV := Lib.hid hv'
      clear hv hv'
      go_wp2
      go_ret
      exact ⟨ret_i HV.out, rfl⟩
end Go.Proofs.YtaohdbagcfgoeaaDoor
