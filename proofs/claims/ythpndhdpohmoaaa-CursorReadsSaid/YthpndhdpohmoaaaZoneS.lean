/-
  Chapter 25, the plain part: zones' bytes, and back.
-/
import Derived.Test.YthpndhdpohmoaaaZoneM
import Derived.Test.YthpndhdpohmoaaaCurB
import Derived.Test.YthpndhdpohmoaaaPlainM
namespace Go.Cor
open Go
/-- may a zone be? -/
def zright (z : Zn) : Bool := decide (1 ≤ z.n ∧ z.n ≤ 1024) && (decide (z.lo ≤ z.hi) && (!decide (z.n = 1) || (decide (z.lo = z.hi) && decide (z.s = z.lo))))
def I64' (x : Int) : Prop := -9223372036854775808 ≤ x ∧ x ≤ 9223372036854775807
structure ZFit (z : Zn) : Prop where
  n : I64' z.n
  lo : I64' z.lo
  hi : I64' z.hi
  s : I64' z.s
/-- a zone's bytes -/
def zb (z : Zn) : List Int := leb (wu64 z.n).toNat 2 ++ leb (wu64 z.lo).toNat 8 ++ (leb (wu64 z.hi).toNat 8 ++ leb (wu64 z.s).toNat 8)
theorem zb_len (z : Zn) : (zb z).length = 26 := by simp [zb, leb_len]
def zbs (zs : List Zn) : List Int := (zs.map zb).flatten
theorem zbs_len (zs : List Zn) : (zbs zs).length = 26 * zs.length := by
  induction zs with
  | nil => rfl
  | cons z r ih => unfold zbs at *; simp [zb_len, ih]; omega
theorem zbs_snoc (l : List Zn) (z : Zn) : zbs (l ++ [z]) = zbs l ++ zb z := by unfold zbs; simp
def zst (zs : List Zn) : List Int := leb zs.length 4 ++ zbs zs
theorem zst_len (zs : List Zn) : (zst zs).length = 4 + 26 * zs.length := by unfold zst; rw [List.length_append, leb_len, zbs_len]
theorem zst_bytes (zs : List Zn) : ∀ x ∈ zst zs, 0 ≤ x ∧ x ≤ 255 := by
  intro x hx
  unfold zst zbs at hx
  rw [List.mem_append] at hx
  rcases hx with hx | hx
  · exact leb_bytes _ _ x hx
  · rw [List.mem_flatten] at hx
    obtain ⟨y, hy, hx⟩ := hx
    obtain ⟨z, _, rfl⟩ := List.mem_map.1 hy
    unfold zb at hx
    rw [List.mem_append, List.mem_append, List.mem_append] at hx
    rcases hx with (hx | hx) | hx | hx <;> exact leb_bytes _ _ x hx
/-- what Store hands out -/
def zstore (zs : List Zn) : List Int × Int := if zs.all zright then (zst zs, 0) else ([], 4)

/-- the zone of 26 bytes -/
def zparse (b : List Int) : Zn := ⟨num (b.take 2), w64 (num ((b.drop 2).take 8)), w64 (num ((b.drop 10).take 8)), w64 (num ((b.drop 18).take 8))⟩
def zl : Nat → List Int → List Zn × Nat × Int
  | 0, _ => ([], 0, 0)
  | f + 1, b => if b.length < 26 then ([], 0, 1) else if zright (zparse b) = false then ([], 0, 4) else
      if (zl f (b.drop 26)).2.2 ≠ 0 then ([], 0, (zl f (b.drop 26)).2.2) else (zparse b :: (zl f (b.drop 26)).1, 26 + (zl f (b.drop 26)).2.1, 0)
def zll (l : List Zn) (a : Nat) (r : List Zn × Nat × Int) : List Zn × Nat × Int := if r.2.2 ≠ 0 then ([], 0, r.2.2) else (l ++ r.1, a + r.2.1, 0)
theorem zll_short (l : List Zn) (a f : Nat) (b : List Int) (h : b.length < 26) : zll l a (zl (f + 1) b) = ([], 0, 1) := by simp [zl, zll, h]
theorem zll_bad (l : List Zn) (a f : Nat) (b : List Int) (h : ¬ b.length < 26) (hr : zright (zparse b) = false) : zll l a (zl (f + 1) b) = ([], 0, 4) := by simp [zl, zll, h, hr]
theorem zll_step (l : List Zn) (a f : Nat) (b : List Int) (h : ¬ b.length < 26) (hr : zright (zparse b) = true) : zll l a (zl (f + 1) b) = zll (l ++ [zparse b]) (a + 26) (zl f (b.drop 26)) := by
  rw [zl, if_neg h, if_neg (by simp [hr])]
  by_cases h2 : (zl f (b.drop 26)).2.2 = 0
  · rw [if_neg (by simp [h2]), zll, zll, if_neg (by simp), if_neg (by simp [h2])]
    simp; omega
  · rw [if_pos h2, zll, zll, if_pos h2, if_pos h2]
theorem zll_end (l : List Zn) (a : Nat) (b : List Int) : zll l a (zl 0 b) = (l, a, 0) := by simp [zl, zll]
theorem zl_err {f : Nat} {b : List Int} (h : (zl f b).2.2 ≠ 0) : zl f b = ([], 0, (zl f b).2.2) := by
  cases f with
  | zero => simp [zl] at h
  | succ f =>
    rw [zl] at h ⊢
    split at h
    · simp [*]
    · split at h
      · simp [*]
      · split at h
        · simp [*]
        · simp at h
theorem zl_start (a f : Nat) (b : List Int) : zll [] a (zl f b) = if (zl f b).2.2 ≠ 0 then ([], 0, (zl f b).2.2) else ((zl f b).1, a + (zl f b).2.1, 0) := by
  unfold zll; simp
/-- what Load hands out -/
def zload (ys : List Int) : List Zn × Int :=
  if ys.length < 4 then ([], 1) else
    if (zl (num (ys.take 4)).toNat (ys.drop 4)).2.2 ≠ 0 then ([], (zl (num (ys.take 4)).toNat (ys.drop 4)).2.2)
    else if 4 + (zl (num (ys.take 4)).toNat (ys.drop 4)).2.1 < ys.length then ([], 2) else ((zl (num (ys.take 4)).toNat (ys.drop 4)).1, 0)

theorem w64_leb {x : Int} (h : I64' x) : w64 (num (leb (wu64 x).toNat 8)) = x := by
  have hb := wu64_bd x
  rw [num_leb, Nat.mod_eq_of_lt (show (wu64 x).toNat < 256 ^ 8 by omega)]
  unfold w64 wu64 I64' at *
  omega
theorem n_leb {x : Int} (h1 : 1 ≤ x) (h2 : x ≤ 1024) : num (leb (wu64 x).toNat 2) = x := by
  have hw : wu64 x = x := by unfold wu64; omega
  rw [hw, num_leb, Nat.mod_eq_of_lt (show x.toNat < 256 ^ 2 by omega)]
  omega
theorem zparse_zb {z : Zn} (h : ZFit z) (hr : zright z = true) (r : List Int) : zparse (zb z ++ r) = z := by
  have hn : 1 ≤ z.n ∧ z.n ≤ 1024 := by unfold zright at hr; simp at hr; exact hr.1
  have a := leb_len (wu64 z.n).toNat 2
  have b := leb_len (wu64 z.lo).toNat 8
  have c := leb_len (wu64 z.hi).toNat 8
  have d := leb_len (wu64 z.s).toNat 8
  have e1 : (zb z ++ r).take 2 = leb (wu64 z.n).toNat 2 := by
    unfold zb; simp only [List.append_assoc]; rw [List.take_append_of_le_length (by omega), List.take_of_length_le (by omega)]
  have e2 : ((zb z ++ r).drop 2).take 8 = leb (wu64 z.lo).toNat 8 := by
    unfold zb; simp only [List.append_assoc]
    rw [List.drop_append_of_le_length (by omega), List.drop_of_length_le (by omega), List.nil_append, List.take_append_of_le_length (by omega), List.take_of_length_le (by omega)]
  have e3 : ((zb z ++ r).drop 10).take 8 = leb (wu64 z.hi).toNat 8 := by
    unfold zb; simp only [List.append_assoc]
    rw [List.drop_append, List.drop_of_length_le (by omega), List.nil_append, a, List.drop_append, List.drop_of_length_le (by omega), List.nil_append, b, List.drop_zero, List.take_append_of_le_length (by omega), List.take_of_length_le (by omega)]
  have e4 : ((zb z ++ r).drop 18).take 8 = leb (wu64 z.s).toNat 8 := by
    unfold zb; simp only [List.append_assoc]
    rw [List.drop_append, List.drop_of_length_le (by omega), List.nil_append, a, List.drop_append, List.drop_of_length_le (by omega), List.nil_append, b, List.drop_append, List.drop_of_length_le (by omega), List.nil_append, c, List.drop_zero, List.take_append_of_le_length (by omega), List.take_of_length_le (by omega)]
  unfold zparse
  rw [e1, e2, e3, e4, w64_leb h.lo, w64_leb h.hi, w64_leb h.s, n_leb hn.1 hn.2]
theorem zl_zbs {zs : List Zn} (h : ∀ z ∈ zs, ZFit z ∧ zright z = true) (r : List Int) : zl zs.length (zbs zs ++ r) = (zs, (zbs zs).length, 0) := by
  induction zs with
  | nil => rfl
  | cons z t ih =>
    have e : zbs (z :: t) ++ r = zb z ++ (zbs t ++ r) := by unfold zbs; simp
    have hz := h z (by simp)
    have hp := zparse_zb hz.1 hz.2 (zbs t ++ r)
    have hd : (zb z ++ (zbs t ++ r)).drop 26 = zbs t ++ r := by rw [List.drop_append, List.drop_of_length_le (by rw [zb_len]; omega), zb_len]; simp
    have hl : ¬ (zb z ++ (zbs t ++ r)).length < 26 := by rw [List.length_append, zb_len]; omega
    rw [List.length_cons, e, zl, if_neg hl, hp, if_neg (by simp [hz.2]), hd, ih fun y hy => h y (by simp [hy])]
    simp [zbs_len]
    omega
/-- what is stored is loaded as it was -/
theorem zload_zst {zs : List Zn} (h : ∀ z ∈ zs, ZFit z) (hr : zs.all zright = true) (hl : zs.length ≤ 1000) : zload (zst zs) = (zs, 0) := by
  have hlen := zst_len zs
  have e1 : (zst zs).take 4 = leb zs.length 4 := by unfold zst; rw [List.take_append_of_le_length (by rw [leb_len]; omega), List.take_of_length_le (by rw [leb_len]; omega)]
  have e2 : (zst zs).drop 4 = zbs zs := by unfold zst; rw [List.drop_append, List.drop_of_length_le (by rw [leb_len]; omega), leb_len]; simp
  have e3 := zl_zbs (zs := zs) (fun z hz => ⟨h z hz, List.all_eq_true.1 hr z hz⟩) []
  rw [List.append_nil] at e3
  have e4 : (num (leb zs.length 4)).toNat = zs.length := by
    rw [num_leb, Int.toNat_natCast]; exact Nat.mod_eq_of_lt (by rw [show (256 : Nat) ^ 4 = 4294967296 by decide]; omega)
  unfold zload
  rw [if_neg (by omega), e1, e2, e4, e3]
  simp [hlen, zbs_len]
end Go.Cor
