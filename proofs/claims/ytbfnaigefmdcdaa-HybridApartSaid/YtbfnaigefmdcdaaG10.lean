/-
  Chapter 10, the plain part: blocks in runs, there and back.
  Chapter 6's functions: what each computes (width, and the reference). Printed by wip/genwid.py.
  Widths of one number; what the tables say of rows of numbers. (Printed by wip/genwid.py.)
  Chapter 6's functions that go through a row once: the least, the greatest width.
-/
import Derived.Test.YtbfnaigefmdcdaaRows
import Derived.Lib.Strings
import Derived.Lib.Slices
import Derived.Lib.Small
import Derived.Lib.Walk
import Derived.Lib.BitFns
import Derived.WalkKit
import Derived.WalkSpells
import Derived.WalkLawsBesides
import Derived.ProofKit
import Derived.OpenShut
import Derived.Test.YtbfnaigefmdcdaaG3
import Derived.Test.YtbfnaigefmdcdaaG4
import Derived.Test.YtbfnaigefmdcdaaG8
import Derived.Test.YtbfnaigefmdcdaaG9
namespace Go.Cor
open Go
def sameAs (a : Int) : List Int → Nat
  | [] => 0
  | x :: r => if x = a then sameAs a r + 1 else 0
/-- how many of the first numbers are one and the same -/
def same (l : List Int) : Nat := sameAs (l[0]?.getD 0) l
theorem sameAs_le (a : Int) (l : List Int) : sameAs a l ≤ l.length := by
  induction l with
  | nil => simp [sameAs]
  | cons x r ih => rw [sameAs]; split <;> simp <;> omega
theorem same_le (l : List Int) : same l ≤ l.length := sameAs_le _ _
theorem same_pos {l : List Int} (h : l ≠ []) : 1 ≤ same l := by
  cases l with
  | nil => exact absurd rfl h
  | cons x r => simp [same, sameAs]
theorem sameAs_drop (a : Int) {l : List Int} {k : Nat} (h : k < l.length) : sameAs a (l.drop k) = if l[k]?.getD 0 = a then sameAs a (l.drop (k + 1)) + 1 else 0 := by
  rw [drop_cons_getD l 0 h, sameAs]
theorem sameAs_take (a : Int) (l : List Int) : l.take (sameAs a l) = List.replicate (sameAs a l) a := by
  induction l with
  | nil => simp [sameAs]
  | cons x r ih =>
    rw [sameAs]
    split
    · rename_i h; subst h; rw [List.take_succ_cons, ih, List.replicate_succ]
    · simp
/-- how many groups of eight stand ahead of a run -/
def hgr : Nat → List Int → Nat
  | 0, _ => 0
  | f + 1, l => if l = [] ∨ 8 ≤ same l then 0 else hgr f (l.drop 8) + 1
theorem hgr_bd : ∀ (f : Nat) (l : List Int), hgr f l ≠ 0 → 8 * (hgr f l - 1) < l.length
  | 0, l, h => by simp [hgr] at h
  | f + 1, l, h => by
    rw [hgr] at h ⊢
    split at h
    · exact absurd rfl h
    · rename_i h1
      rw [if_neg h1]
      rw [not_or] at h1
      have h3 : 0 < l.length := List.length_pos_iff.2 h1.1
      by_cases h2 : hgr f (l.drop 8) = 0
      · rw [h2]; simpa using h3
      · have := hgr_bd f (l.drop 8) h2
        rw [List.length_drop] at this
        omega
/-- how many numbers the next run has -/
def htak (l : List Int) : Nat := if 8 ≤ same l then same l else min (8 * hgr l.length l) l.length
theorem htak_le (l : List Int) : htak l ≤ l.length := by unfold htak; have := same_le l; split <;> omega
theorem htak_pos {l : List Int} (h : l ≠ []) : 1 ≤ htak l := by
  unfold htak
  split
  · omega
  · rename_i h1
    cases l with
    | nil => exact absurd rfl h
    | cons x r => rw [List.length_cons, hgr, if_neg (by simp; omega)]; omega
/-- a packed run's numbers, and noughts till the last group is full -/
def hpad (us : List Int) : List Int := us ++ List.replicate (8 * ((us.length + 7) / 8) - us.length) 0
theorem hpad_len (us : List Int) : (hpad us).length = 8 * ((us.length + 7) / 8) := by simp [hpad]; omega
/-- a run's bytes: of one number so often, or of packed ones -/
def hput (w often : Nat) (us : List Int) : List Int :=
  if 0 < often then vput (2 * often) ++ leb (us[0]?.getD 0).toNat (octets w) else vput (2 * ((us.length + 7) / 8) + 1) ++ (packr w (hpad us)).1
/-- the next run's bytes -/
def hone (w : Nat) (l : List Int) : List Int := if 8 ≤ same l then hput w (same l) (l.take 1) else hput w 0 (l.take (htak l))
/-- the bytes of all runs -/
def hrest (w : Nat) (l : List Int) : List Int := if h : l = [] then [] else hone w l ++ hrest w (l.drop (htak l))
termination_by l.length
decreasing_by rw [List.length_drop]; have := htak_pos h; have : 0 < l.length := List.length_pos_iff.2 h; omega
theorem hrest_nil (w : Nat) : hrest w [] = [] := by rw [hrest, dif_pos rfl]
theorem hrest_step (w : Nat) {l : List Int} (h : l ≠ []) : hrest w l = hone w l ++ hrest w (l.drop (htak l)) := by rw [hrest, dif_neg h]
/-- the runs: how often (packed: 0), from which place on, how many numbers are told -/
def hlist (at_ : Nat) (l : List Int) : List (Nat × Nat × Nat) := if h : l = [] then [] else (if 8 ≤ same l then (same l, at_, 1) else (0, at_, htak l)) :: hlist (at_ + htak l) (l.drop (htak l))
termination_by l.length
decreasing_by rw [List.length_drop]; have := htak_pos h; have : 0 < l.length := List.length_pos_iff.2 h; omega
theorem hlist_nil (at_ : Nat) : hlist at_ [] = [] := by rw [hlist, dif_pos rfl]
theorem hlist_step (at_ : Nat) {l : List Int} (h : l ≠ []) : hlist at_ l = (if 8 ≤ same l then (same l, at_, 1) else (0, at_, htak l)) :: hlist (at_ + htak l) (l.drop (htak l)) := by rw [hlist, dif_neg h]
theorem hlist_rest (w : Nat) (zs : List Int) : ∀ (n : Nat) (at_ : Nat), (zs.drop at_).length = n → ((hlist at_ (zs.drop at_)).map fun x => hput w x.1 ((zs.drop x.2.1).take x.2.2)).flatten = hrest w (zs.drop at_) := by
  intro n
  induction n using Nat.strongRecOn with
  | ind n ih =>
    intro at_ hl
    by_cases h : zs.drop at_ = []
    · rw [h, hlist_nil, hrest_nil]; rfl
    · have hp := htak_pos h
      have hle := htak_le (zs.drop at_)
      rw [hlist_step at_ h, hrest_step w h, List.map_cons, List.flatten_cons]
      have h2 := ih (n - htak (zs.drop at_)) (by omega) (at_ + htak (zs.drop at_)) (by rw [← List.drop_drop, List.length_drop, hl])
      rw [← List.drop_drop] at h2
      rw [h2]
      congr 1
      unfold hone
      split <;> rfl
/-- what a told run holds -/
theorem hlist_in {zs : List Int} : ∀ (n : Nat) (at_ : Nat), (zs.drop at_).length = n → ∀ x ∈ hlist at_ (zs.drop at_), x.1 ≤ zs.length ∧ 0 < x.2.2 ∧ x.2.1 + x.2.2 ≤ zs.length := by
  intro n
  induction n using Nat.strongRecOn with
  | ind n ih =>
    intro at_ hl x hx
    by_cases h : zs.drop at_ = []
    · rw [h, hlist_nil] at hx; simp at hx
    · have hp := htak_pos h
      have hle := htak_le (zs.drop at_)
      have hs := same_le (zs.drop at_)
      have hlz : 0 < (zs.drop at_).length := List.length_pos_iff.2 h
      have hld := List.length_drop (i := at_) (l := zs)
      rw [hlist_step at_ h] at hx
      rcases List.mem_cons.1 hx with rfl | hx
      · split
        · exact ⟨by show same _ ≤ _; omega, Nat.one_pos, by show at_ + 1 ≤ _; omega⟩
        · exact ⟨by show 0 ≤ _; omega, by show 0 < htak _; omega, by show at_ + htak _ ≤ _; omega⟩
      · refine ih (n - htak (zs.drop at_)) (by omega) (at_ + htak (zs.drop at_)) (by rw [← List.drop_drop, List.length_drop, hl]) x ?_
        rw [← List.drop_drop]; exact hx
/-- a block's form in runs -/
def hform (xs : List Int) : List Int := most (xs.map zig) :: hrest (most (xs.map zig)).toNat (xs.map zig)

/-- the next run of bytes, of which so many numbers lack -/
def hstep (w lack : Nat) (b : List Int) : List Int × Nat × Int :=
  if (vget 0 b).2.2 ≠ 0 then ([], 0, (vget 0 b).2.2)
  else if (vget 0 b).1.toNat ≤ 1 then ([], 0, 7)
  else if (vget 0 b).1.toNat % 2 = 0 then
    if lack < (vget 0 b).1.toNat / 2 then ([], 0, 7)
    else if (b.drop (vget 0 b).2.1.toNat).length < octets w then ([], 0, 1)
    else if 2 ^ w ≤ nums ((b.drop (vget 0 b).2.1.toNat).take (octets w)) then ([], 0, 4)
    else (List.replicate ((vget 0 b).1.toNat / 2) (zag (nums ((b.drop (vget 0 b).2.1.toNat).take (octets w)) : Nat)), (vget 0 b).2.1.toNat + octets w, 0)
  else
    if (lack + 7) / 8 < (vget 0 b).1.toNat / 2 then ([], 0, 7)
    else if (b.drop (vget 0 b).2.1.toNat).length < (vget 0 b).1.toNat / 2 * w then ([], 0, 1)
    else if ((unp w (8 * ((vget 0 b).1.toNat / 2)) (nums ((b.drop (vget 0 b).2.1.toNat).take ((vget 0 b).1.toNat / 2 * w)))).drop lack).any (· != 0) then ([], 0, 3)
    else (((unp w (8 * ((vget 0 b).1.toNat / 2)) (nums ((b.drop (vget 0 b).2.1.toNat).take ((vget 0 b).1.toNat / 2 * w)))).take lack).map zag, (vget 0 b).2.1.toNat + (vget 0 b).1.toNat / 2 * w, 0)
/-- the same, its head being read -/
def hbody (w lack h m : Nat) (b : List Int) : List Int × Nat × Int :=
  if h ≤ 1 then ([], 0, 7)
  else if h % 2 = 0 then
    if lack < h / 2 then ([], 0, 7)
    else if b.length < octets w then ([], 0, 1)
    else if 2 ^ w ≤ nums (b.take (octets w)) then ([], 0, 4)
    else (List.replicate (h / 2) (zag (nums (b.take (octets w)) : Nat)), m + octets w, 0)
  else
    if (lack + 7) / 8 < h / 2 then ([], 0, 7)
    else if b.length < h / 2 * w then ([], 0, 1)
    else if ((unp w (8 * (h / 2)) (nums (b.take (h / 2 * w)))).drop lack).any (· != 0) then ([], 0, 3)
    else (((unp w (8 * (h / 2)) (nums (b.take (h / 2 * w)))).take lack).map zag, m + h / 2 * w, 0)
theorem hstep_eq (w lack : Nat) (b : List Int) : hstep w lack b = if (vget 0 b).2.2 ≠ 0 then ([], 0, (vget 0 b).2.2) else hbody w lack (vget 0 b).1.toNat (vget 0 b).2.1.toNat (b.drop (vget 0 b).2.1.toNat) := rfl
theorem hstep_get (w lack : Nat) {b : List Int} {h m : Nat} (e : vget 0 b = ((h : Int), (m : Int), 0)) : hstep w lack b = hbody w lack h m (b.drop m) := by
  rw [hstep_eq, e, if_neg (by simp)]; simp

/-- all numbers of bytes -/
def hrun (n : Nat) (ys : List Int) : List Int × Nat × Int :=
  if ys = [] then ([], 0, 1) else if 64 < (ys[0]?.getD 0).toNat then ([], 0, 6) else dlift [] 1 (drun (hstep (ys[0]?.getD 0).toNat) n (ys.drop 1))
def hdec : List Int → Int → List Int × Int := decOf hrun

theorem pow_mono2 {a b : Nat} (h : a ≤ b) : 2 ^ a ≤ 2 ^ b := Nat.pow_le_pow_right (by decide) h
theorem Fitl.take {k : Nat} {l : List Int} (h : Fitl k l) (n : Nat) : Fitl k (l.take n) := fun u hu => h u (List.mem_of_mem_take hu)
theorem Fitl.drop {k : Nat} {l : List Int} (h : Fitl k l) (n : Nat) : Fitl k (l.drop n) := fun u hu => h u (List.mem_of_mem_drop hu)
theorem Fitl.pad {k : Nat} {l : List Int} (h : Fitl k l) : Fitl k (hpad l) := by
  intro u hu
  rcases List.mem_append.1 hu with hu | hu
  · exact h u hu
  · rw [List.eq_of_mem_replicate hu]; exact ⟨by omega, pow_pos2 k⟩
theorem Fitl.get {k : Nat} {l : List Int} (h : Fitl k l) (n : Nat) : 0 ≤ l[n]?.getD 0 ∧ (l[n]?.getD 0).toNat < 2 ^ k := by
  by_cases hn : n < l.length
  · rw [List.getElem?_eq_getElem hn]; exact h _ (List.getElem_mem _)
  · rw [List.getElem?_eq_none (by omega)]; exact ⟨by decide, pow_pos2 k⟩
theorem small_vput {h : Nat} (hh : h ≤ 4096) : h < 2 ^ (64 - 7 * 0) := Nat.lt_of_le_of_lt hh (by decide)
theorem nums_leb {v m : Nat} (h : v < 256 ^ m) : nums (leb v m) = v := by
  unfold nums; rw [num_leb, Int.toNat_natCast, Nat.mod_eq_of_lt h]
theorem packed_bytes (k : Nat) (l : List Int) : ∀ x ∈ packed k l, 0 ≤ x ∧ x ≤ 255 := leb_bytes _ _
theorem oct8 (g w : Nat) : octets (8 * g * w) = g * w := by unfold octets; rw [Nat.mul_assoc]; omega
theorem packr_in {w : Nat} {us : List Int} (h : us.length ≤ 1024) : packr w us = (packed w us, 0) := by unfold packr; rw [if_neg (by omega)]

/-- one run, there and back -/
theorem hstep_one {w : Nat} (hw : w ≤ 64) {l : List Int} (hf : Fitl w l) (hl : l ≠ []) (hn : l.length ≤ 1024) (r : List Int) : hstep w l.length (hone w l ++ r) = ((l.take (htak l)).map zag, (hone w l).length, 0) := by
  have hlen : 0 < l.length := List.length_pos_iff.2 hl
  unfold hone
  by_cases h8 : 8 ≤ same l
  · rw [if_pos h8]
    have hs := same_le l
    have ht : htak l = same l := by unfold htak; rw [if_pos h8]
    have ht2 : l.take (same l) = List.replicate (same l) (l[0]?.getD 0) := sameAs_take _ _
    have h0 : (l.take 1)[0]?.getD 0 = l[0]?.getD 0 := by cases l with
      | nil => exact absurd rfl hl
      | cons x r => simp
    have hv := hf.get 0
    rw [hput, if_pos (by omega), h0, ht, ht2]
    obtain ⟨n, hs'⟩ : ∃ n, same l = n := ⟨_, rfl⟩
    obtain ⟨v, hve⟩ := Int.eq_ofNat_of_zero_le hv.1
    rw [hs'] at h8 hs ⊢
    rw [hve] at hv ⊢
    rw [Int.toNat_natCast] at hv ⊢
    have hg := vget_put (2 * n) 0 (leb v (octets w) ++ r) (by omega) (small_vput (by omega)) (by omega)
    rw [List.append_assoc, hstep_get w l.length (h := 2 * n) (m := (vput (2 * n)).length) (by rw [hg]; simp), List.drop_left]
    have hlb := leb_len v (octets w)
    have hv2 : v < 256 ^ octets w := by
      rw [two8]; exact Nat.lt_of_lt_of_le hv.2 (pow_mono2 (by unfold octets; omega))
    rw [hbody, if_neg (by omega), if_pos (by omega), if_neg (by omega), if_neg (by rw [List.length_append]; omega), List.take_left' hlb, nums_leb hv2, if_neg (by omega), show 2 * n / 2 = n by omega, List.length_append, hlb, List.map_replicate]
  · rw [if_neg h8, hput, if_neg (by omega)]
    have ht : htak l = min (8 * hgr l.length l) l.length := by unfold htak; rw [if_neg h8]
    have hp := htak_pos hl
    have hle := htak_le l
    obtain ⟨t, ht'⟩ : ∃ t, htak l = t := ⟨_, rfl⟩
    rw [ht'] at ht hp hle ⊢
    have hus : (l.take t).length = t := by rw [List.length_take]; omega
    have hpl := hpad_len (l.take t)
    have hpf := (hf.take t).pad
    rw [hus] at hpl ⊢
    obtain ⟨g, hg'⟩ : ∃ g, (t + 7) / 8 = g := ⟨_, rfl⟩
    rw [hg'] at hpl ⊢
    have hg1 : 1 ≤ g := by omega
    have hgl : g ≤ (l.length + 7) / 8 := by omega
    rw [packr_in (us := hpad (l.take t)) (w := w) (by omega)]
    have hg := vget_put (2 * g + 1) 0 (packed w (hpad (l.take t)) ++ r) (by omega) (small_vput (by omega)) (by omega)
    have hpk := packed_len w (hpad (l.take t))
    rw [hpl, oct8] at hpk
    simp only
    rw [List.append_assoc, hstep_get w l.length (h := 2 * g + 1) (m := (vput (2 * g + 1)).length) (by rw [hg]; simp), List.drop_left]
    have hun : unp w (8 * g) (nums (packed w (hpad (l.take t)))) = hpad (l.take t) := by rw [nums_packed hpf, ← hpl]; exact unp_pk hpf
    have hdrop : (hpad (l.take t)).drop l.length = List.replicate (8 * g - l.length) 0 := by
      unfold hpad
      rw [List.drop_append, List.drop_of_length_le (by omega), List.nil_append, hus, hg', List.drop_replicate]
      congr 1
      omega
    have htake : (hpad (l.take t)).take l.length = l.take t := by
      unfold hpad
      rw [hus, hg']
      by_cases h1 : 8 * g ≤ l.length
      · rw [show 8 * g - t = 0 by omega, List.replicate_zero, List.append_nil]
        exact List.take_of_length_le (by rw [hus]; exact hle)
      · rw [List.take_append, hus, show l.length - t = 0 by omega, List.take_zero, List.append_nil]
        exact List.take_of_length_le (by rw [hus]; omega)
    rw [hbody, if_neg (by omega), if_neg (by omega), show (2 * g + 1) / 2 = g by omega, if_neg (by omega), if_neg (by rw [List.length_append]; omega), List.take_left' hpk, hun, hdrop, htake,
      if_neg (by simp), List.length_append, hpk]
theorem hone_pos (w : Nat) (l : List Int) : 0 < (hone w l).length := by
  unfold hone hput
  split
  · split
    · rw [List.length_append]; have := vput_pos (2 * same l); omega
    · rw [List.length_append]; have := vput_pos (2 * (((l.take 1).length + 7) / 8) + 1); omega
  · rw [if_neg (by omega), List.length_append]; have := vput_pos (2 * (((l.take (htak l)).length + 7) / 8) + 1); omega
theorem hrun_rest {w : Nat} (hw : w ≤ 64) (r : List Int) : ∀ (n : Nat) (l : List Int), l.length = n → Fitl w l → n ≤ 1024 → drun (hstep w) n (hrest w l ++ r) = (l.map zag, (hrest w l).length, 0) := by
  intro n
  induction n using Nat.strongRecOn with
  | ind n ih =>
    intro l hl hf hn
    by_cases h : l = []
    · subst h; simp at hl; subst hl; rw [hrest_nil, drun, if_pos rfl]; simp
    · have hp := htak_pos h
      have hle := htak_le l
      have h1 := hstep_one hw hf h (by omega) (hrest w (l.drop (htak l)) ++ r)
      rw [hl] at h1
      rw [drun_start, hrest_step w h, List.append_assoc]
      have hlt : ((l.take (htak l)).map zag).length = htak l := by simp; omega
      rw [drun_step [] 0 (by omega) (by rw [h1]) (by rw [h1]; simp only [hlt]; omega), h1]
      simp only [List.nil_append, Nat.zero_add, hlt, List.drop_left]
      rw [ih (n - htak l) (by omega) _ (by rw [List.length_drop]; omega) (hf.drop _) (by omega)]
      unfold dlift
      simp [← List.map_append]
/-- a byte less -/
theorem hstep_cut {w : Nat} (hw : w ≤ 64) {l : List Int} (hl : l ≠ []) (hn : l.length ≤ 1024) : (hstep w l.length ((hone w l).take ((hone w l).length - 1))).2.2 = 1 := by
  have hlen : 0 < l.length := List.length_pos_iff.2 hl
  have cut : ∀ (h : Nat) (pay : List Int), h ≤ 4096 → (pay = [] ∨ ∀ m, (hbody w l.length h m (pay.take (pay.length - 1))).2.2 = 1) → (hstep w l.length ((vput h ++ pay).take ((vput h ++ pay).length - 1))).2.2 = 1 := by
    intro h pay hh hp
    have hv := vput_pos h
    have hv2 := vput_len_u64 h (by omega)
    by_cases h0 : pay = []
    · subst h0
      rw [List.append_nil, hstep_eq, vget_cut h 0 _ (by omega) (by omega)]
      simp
    · have hpl : 0 < pay.length := List.length_pos_iff.2 h0
      have e : (vput h ++ pay).take ((vput h ++ pay).length - 1) = vput h ++ pay.take (pay.length - 1) := by
        rw [List.length_append, List.take_append, List.take_of_length_le (by omega)]; congr 2; omega
      have hg := vget_put h 0 (pay.take (pay.length - 1)) (by omega) (small_vput (by omega)) (by omega)
      rw [e, hstep_get w l.length (h := h) (m := (vput h).length) (by rw [hg]; simp), List.drop_left]
      rcases hp with hp | hp
      · exact absurd hp h0
      · exact hp _
  unfold hone
  by_cases h8 : 8 ≤ same l
  · rw [if_pos h8, hput, if_pos (by omega)]
    have hs := same_le l
    by_cases h0 : octets w = 0
    · exact cut _ _ (by omega) (.inl (List.eq_nil_of_length_eq_zero (by rw [leb_len]; exact h0)))
    · refine cut _ _ (by omega) (.inr fun m => ?_)
      rw [leb_len, hbody, if_neg (by omega), if_pos (by omega), if_neg (by omega), if_pos (by rw [List.length_take, leb_len]; omega)]
  · rw [if_neg h8, hput, if_neg (by omega)]
    have hp := htak_pos hl
    have hle := htak_le l
    obtain ⟨t, ht'⟩ : ∃ t, htak l = t := ⟨_, rfl⟩
    rw [ht'] at hp hle ⊢
    have hus : (l.take t).length = t := by rw [List.length_take]; omega
    have hpl := hpad_len (l.take t)
    rw [hus] at hpl ⊢
    obtain ⟨g, hg'⟩ : ∃ g, (t + 7) / 8 = g := ⟨_, rfl⟩
    rw [hg'] at hpl ⊢
    rw [packr_in (us := hpad (l.take t)) (w := w) (by omega)]
    have hpk := packed_len w (hpad (l.take t))
    rw [hpl, oct8] at hpk
    by_cases h0 : g * w = 0
    · exact cut _ _ (by omega) (.inl (List.eq_nil_of_length_eq_zero (by rw [hpk]; exact h0)))
    · refine cut _ _ (by omega) (.inr fun m => ?_)
      rw [hpk, hbody, if_neg (by omega), if_neg (by omega), show (2 * g + 1) / 2 = g by omega, if_neg (by omega), if_pos (by rw [List.length_take, hpk]; omega)]
theorem hrest_pos {w : Nat} {l : List Int} (h : l ≠ []) : 0 < (hrest w l).length := by rw [hrest_step w h, List.length_append]; have := hone_pos w l; omega
theorem hrun_less {w : Nat} (hw : w ≤ 64) : ∀ (n : Nat) (l : List Int), l.length = n → l ≠ [] → Fitl w l → n ≤ 1024 → (drun (hstep w) n ((hrest w l).take ((hrest w l).length - 1))).2.2 ≠ 0 := by
  intro n
  induction n using Nat.strongRecOn with
  | ind n ih =>
    intro l hl h hf hn
    have hp := htak_pos h
    have hle := htak_le l
    have hn0 : n ≠ 0 := by rw [← hl]; have := List.length_pos_iff.2 h; omega
    by_cases h2 : l.drop (htak l) = []
    · have hc := hstep_cut hw h (by omega)
      rw [hrest_step w h, h2, hrest_nil, List.append_nil]
      rw [hl] at hc
      rw [drun, if_neg hn0, if_pos (by rw [hc]; decide), hc]
      decide
    · have hr := hrest_pos (w := w) h2
      have e : (hrest w l).take ((hrest w l).length - 1) = hone w l ++ (hrest w (l.drop (htak l))).take ((hrest w (l.drop (htak l))).length - 1) := by
        rw [hrest_step w h, List.length_append, List.take_append, List.take_of_length_le (by omega)]; congr 2; omega
      have h1 := hstep_one hw hf h (by omega) ((hrest w (l.drop (htak l))).take ((hrest w (l.drop (htak l))).length - 1))
      rw [hl] at h1
      have hlt : ((l.take (htak l)).map zag).length = htak l := by simp; omega
      rw [e, drun_start, drun_step [] 0 hn0 (by rw [h1]) (by rw [h1]; simp only [hlt]; omega), h1]
      simp only [List.nil_append, Nat.zero_add, hlt, List.drop_left]
      have := ih (n - htak l) (by omega) _ (by rw [List.length_drop]; omega) h2 (hf.drop _) (by omega)
      unfold dlift
      rw [if_pos this]; exact this

theorem hput_bytes (w o : Nat) (us : List Int) : ∀ x ∈ hput w o us, 0 ≤ x ∧ x ≤ 255 := by
  intro x hx
  unfold hput at hx
  split at hx
  · rcases List.mem_append.1 hx with hx | hx
    · exact vput_bytes _ x hx
    · exact leb_bytes _ _ x hx
  · rcases List.mem_append.1 hx with hx | hx
    · exact vput_bytes _ x hx
    · unfold packr at hx
      split at hx
      · simp at hx
      · exact packed_bytes _ _ x hx
theorem hrest_bytes (w : Nat) : ∀ (n : Nat) (l : List Int), l.length = n → ∀ x ∈ hrest w l, 0 ≤ x ∧ x ≤ 255 := by
  intro n
  induction n using Nat.strongRecOn with
  | ind n ih =>
    intro l hl x hx
    by_cases h : l = []
    · subst h; rw [hrest_nil] at hx; simp at hx
    · have hp := htak_pos h
      have hle := htak_le l
      rw [hrest_step w h] at hx
      rcases List.mem_append.1 hx with hx | hx
      · unfold hone at hx
        split at hx <;> exact hput_bytes _ _ _ x hx
      · exact ih (n - htak l) (by have := List.length_pos_iff.2 h; omega) _ (by rw [List.length_drop]; omega) x hx
/-- how long a run is -/
theorem hput_len {w o : Nat} (hw : w ≤ 64) {us : List Int} (hu : us.length ≤ 1200) (ho : o ≤ 1200) : (hput w o us).length ≤ 8 * us.length + 66 := by
  unfold hput
  split
  · rw [List.length_append, leb_len]
    have := vput_len_u64 (2 * o) (by omega)
    have : octets w ≤ 8 := by unfold octets; omega
    omega
  · rw [List.length_append]
    have h1 := vput_len_u64 (2 * ((us.length + 7) / 8) + 1) (by omega)
    have h2 : ((packr w (hpad us)).1).length ≤ (us.length + 7) / 8 * w := by
      unfold packr
      split
      · simp
      · simp only [packed_len, hpad_len, oct8]; omega
    have h3 : (us.length + 7) / 8 * w ≤ (us.length + 7) / 8 * 64 := Nat.mul_le_mul_left _ hw
    omega
theorem hone_len {w : Nat} (hw : w ≤ 64) {l : List Int} (hn : l.length ≤ 1200) : (hone w l).length ≤ 8 * htak l + 66 := by
  have hs := same_le l
  have hle := htak_le l
  unfold hone
  split
  · rename_i h8
    have ht : htak l = same l := by unfold htak; rw [if_pos h8]
    have := hput_len (o := same l) hw (us := l.take 1) (by rw [List.length_take]; omega) (by omega)
    rw [List.length_take] at this
    omega
  · have := hput_len (o := 0) hw (us := l.take (htak l)) (by rw [List.length_take]; omega) (by omega)
    rw [List.length_take] at this
    omega
theorem htak_eight {l : List Int} (h : l.drop (htak l) ≠ []) : 8 ≤ htak l := by
  have hl : htak l < l.length := by have := List.length_pos_iff.2 h; rw [List.length_drop] at this; omega
  unfold htak at hl ⊢
  split
  · assumption
  · rename_i h8
    rw [if_neg h8] at hl
    have hne : l ≠ [] := fun e => by subst e; simp at hl
    have := htak_pos hne
    unfold htak at this
    rw [if_neg h8] at this
    omega
theorem hrest_len {w : Nat} (hw : w ≤ 64) : ∀ (n : Nat) (l : List Int), l.length = n → n ≤ 1200 → (hrest w l).length ≤ 17 * n + 66 := by
  intro n
  induction n using Nat.strongRecOn with
  | ind n ih =>
    intro l hl hn
    by_cases h : l = []
    · subst h; rw [hrest_nil]; simp
    · have hp := htak_pos h
      have hle := htak_le l
      have h1 := hone_len hw (l := l) (by omega)
      rw [hrest_step w h, List.length_append]
      by_cases h2 : l.drop (htak l) = []
      · rw [h2, hrest_nil]; simp; omega
      · have h3 := htak_eight h2
        have h4 := ih (n - htak l) (by omega) (l.drop (htak l)) (by rw [List.length_drop]; omega) (by omega)
        omega

theorem bw_nat (x : Int) (h : x ≤ 18446744073709551615) : bw x ≤ 64 ∧ 0 ≤ bw x := ⟨(bw_bound x h).2, (bw_bound x h).1⟩
theorem foldmost (l : List Int) : ∀ m : Int, 0 ≤ m → m ≤ l.foldl (fun m v => max m (bw v)) m ∧ (∀ u ∈ l, bw u ≤ l.foldl (fun m v => max m (bw v)) m) ∧ ((∀ u ∈ l, bw u ≤ 64) → m ≤ 64 → l.foldl (fun m v => max m (bw v)) m ≤ 64) := by
  induction l with
  | nil => intro m _; simp
  | cons x r ih =>
    intro m hm
    obtain ⟨h1, h2, h3⟩ := ih (max m (bw x)) (by omega)
    simp only [List.foldl_cons]
    refine ⟨by omega, fun u hu => ?_, fun h4 h5 => h3 (fun u hu => h4 u (by simp [hu])) (by have := h4 x (by simp); omega)⟩
    rcases List.mem_cons.1 hu with rfl | hu
    · omega
    · exact h2 u hu
theorem most_bd {l : List Int} (h : ∀ u ∈ l, 0 ≤ u ∧ u ≤ 18446744073709551615) : 0 ≤ most l ∧ most l ≤ 64 := by
  have h1 := foldmost l 0 (by omega)
  exact ⟨h1.1, h1.2.2 (fun u hu => (bw_nat u (h u hu).2).1) (by decide)⟩
theorem most_fit {l : List Int} (h : ∀ u ∈ l, 0 ≤ u) : Fitl (most l).toNat l := by
  intro u hu
  have h1 := foldmost l 0 (by omega)
  have h2 := h1.2.1 u hu
  refine ⟨h u hu, Nat.lt_of_lt_of_le (nbits_lt u.toNat) (pow_mono2 ?_)⟩
  unfold bw at h2
  unfold most bw
  omega
theorem zigs_fit (xs : List Int) : ∀ u ∈ xs.map zig, 0 ≤ u := by
  intro u hu; obtain ⟨x, _, rfl⟩ := List.mem_map.1 hu; exact zig_nonneg x
theorem zigs_u64 {xs : List Int} (h : ∀ x ∈ xs, I64 x) : ∀ u ∈ xs.map zig, 0 ≤ u ∧ u ≤ 18446744073709551615 := by
  intro u hu; obtain ⟨x, hx, rfl⟩ := List.mem_map.1 hu; exact ⟨zig_nonneg x, zig_max x (h x hx).1 (h x hx).2⟩
theorem zags_zigs (xs : List Int) : (xs.map zig).map zag = xs := by
  rw [List.map_map]
  conv => rhs; rw [← List.map_id xs]
  exact List.map_congr_left fun x _ => zig_zag x
theorem hybBacks (xs : List Int) (h : ∀ x ∈ xs, I64 x) (ht : tak tkAll xs = true) : Go.Proofs.Ytbfnaigefmdcdaa.Backs tkAll hform hdec xs := by
  have hb : blk xs.length = true := by rw [tak_all] at ht; exact ht
  have hN := of_decide_eq_true hb
  have hm := most_bd (zigs_u64 h)
  have hf := most_fit (zigs_fit xs)
  have hzl : (xs.map zig).length = xs.length := by simp
  have hne : xs.map zig ≠ [] := fun e => by rw [e] at hzl; simp at hzl; omega
  obtain ⟨z, hz⟩ : ∃ z, xs.map zig = z := ⟨_, rfl⟩
  have hzz := zags_zigs xs
  have hform_eq : hform xs = most z :: hrest (most z).toNat z := by rw [← hz]; rfl
  rw [hz] at hm hf hzl hne hzz
  obtain ⟨w, hw⟩ := Int.eq_ofNat_of_zero_le hm.1
  rw [hw] at hm hf hform_eq
  rw [Int.toNat_natCast] at hf hform_eq
  have hw64 : w ≤ 64 := by omega
  have hlen := hrest_len hw64 _ z rfl (by omega)
  refine backsOf ?_ ?_ hb ?_ ?_ ?_
  · rw [hform_eq]; intro x hx
    rcases List.mem_cons.1 hx with rfl | hx
    · omega
    · exact hrest_bytes w _ z rfl x hx
  · rw [hform_eq, List.length_cons]; omega
  · intro r
    rw [hform_eq]
    have h1 := hrun_rest hw64 r _ z rfl hf (by omega)
    unfold hrun
    rw [if_neg (by simp)]
    simp only [List.cons_append, List.getElem?_cons_zero, Option.getD_some, Int.toNat_natCast, List.drop_succ_cons, List.drop_zero]
    rw [if_neg (by omega), ← hzl, h1, hzz]
    simp [dlift]; omega
  · rw [hform_eq]
    have hp := hrest_pos (w := w) hne
    have h1 := hrun_less hw64 _ z rfl hne hf (by omega)
    have e : (((w : Int)) :: hrest w z).take ((((w : Int)) :: hrest w z).length - 1) = (w : Int) :: (hrest w z).take ((hrest w z).length - 1) := by
      rw [List.length_cons, show (hrest w z).length + 1 - 1 = ((hrest w z).length - 1) + 1 by omega, List.take_succ_cons]
    rw [e]
    unfold hrun
    rw [if_neg (by simp)]
    simp only [List.getElem?_cons_zero, Option.getD_some, Int.toNat_natCast, List.drop_succ_cons, List.drop_zero]
    rw [if_neg (by omega), ← hzl]
    unfold dlift
    rw [if_pos h1]; exact h1
  · rw [hform_eq]; simp
theorem hbody_ok {w lack h m : Nat} (hw : w ≤ 64) {b : List Int} (hl : lack ≠ 0) (he : (hbody w lack h m b).2.2 = 0) : (hbody w lack h m b).1.length ≤ lack ∧ (hbody w lack h m b).1.length ≠ 0 ∧ (∀ x ∈ (hbody w lack h m b).1, I64 x) ∧ (hbody w lack h m b).2.1 ≤ m + b.length := by
  unfold hbody at he ⊢
  have hp64 : 2 ^ w ≤ 2 ^ 64 := pow_mono2 hw
  split at he
  · simp at he
  · rename_i h1
    rw [if_neg h1]
    split at he
    · rename_i h2
      rw [if_pos h2]
      split at he
      · simp at he
      · rename_i h3
        rw [if_neg h3]
        split at he
        · simp at he
        · rename_i h4
          rw [if_neg h4]
          split at he
          · simp at he
          · rename_i h5
            rw [if_neg h5]
            refine ⟨by simp; omega, by simp; omega, fun x hx => ?_, by simp; omega⟩
            rw [List.eq_of_mem_replicate hx]
            exact zag_min _ (by omega) (by omega)
    · rename_i h2
      rw [if_neg h2]
      split at he
      · simp at he
      · rename_i h3
        rw [if_neg h3]
        split at he
        · simp at he
        · rename_i h4
          rw [if_neg h4]
          split at he
          · simp at he
          · rename_i h5
            rw [if_neg h5]
            refine ⟨by simp [unp_len]; omega, by simp [unp_len]; omega, fun x hx => ?_, by show _ + _ ≤ _; omega⟩
            obtain ⟨u, hu, rfl⟩ := List.mem_map.1 hx
            have hu2 := unp_fit _ _ _ u (List.mem_of_mem_take hu)
            exact zag_min _ hu2.1 (by omega)
theorem hstep_ok {w lack : Nat} (hw : w ≤ 64) {b : List Int} (hb : ∀ x ∈ b, 0 ≤ x ∧ x ≤ 255) (hl : lack ≠ 0) (he : (hstep w lack b).2.2 = 0) : (hstep w lack b).1.length ≤ lack ∧ (hstep w lack b).1.length ≠ 0 ∧ (∀ x ∈ (hstep w lack b).1, I64 x) ∧ (hstep w lack b).2.1 ≤ b.length := by
  rw [hstep_eq] at he ⊢
  by_cases h0 : (vget 0 b).2.2 = 0
  · rw [if_neg (by simp [h0])] at he ⊢
    have hg := zrun_get hb h0
    have := hbody_ok hw hl he
    rw [List.length_drop] at this
    exact ⟨this.1, this.2.1, this.2.2.1, by omega⟩
  · rw [if_pos h0] at he; exact absurd he h0
theorem hdec_ok (ys : List Int) (N : Nat) (hb : ∀ x ∈ ys, 0 ≤ x ∧ x ≤ 255) : ((hdec ys N).2 = 0 → (hdec ys N).1.length = N ∧ ∀ x ∈ (hdec ys N).1, I64 x) ∧ ((hdec ys N).2 ≠ 0 → (hdec ys N).1 = []) := by
  refine decOf_ok (fun n b hb h => ?_) ys N hb
  unfold hrun at h ⊢
  split at h
  · simp at h
  · rename_i h1
    rw [if_neg h1]
    split at h
    · simp at h
    · rename_i h2
      rw [if_neg h2]
      unfold dlift at h ⊢
      split at h
      · rename_i h3; exact absurd h h3
      · rename_i h3
        rw [if_neg h3]
        have := drun_ok (step := hstep (b[0]?.getD 0).toNat) (P := I64) (Q := fun b => ∀ x ∈ b, 0 ≤ x ∧ x ≤ 255) (fun b k hb x hx => hb x (List.mem_of_mem_drop hx)) (fun lack b hb hl he => by have := hstep_ok (by omega) hb hl he; exact ⟨this.1, this.2.2.1, this.2.2.2⟩) n (b.drop 1) (fun x hx => hb x (List.mem_of_mem_drop hx)) (by simpa using h3)
        simp only [List.nil_append]
        exact ⟨this.1, this.2.1⟩
end Go.Cor

namespace Go.Proofs.Ytbfnaigefmdcdaa
open Go.Cor
theorem wfin (B L : Nat) (hB : L ≤ 8) (l : B ≤ 56 := by decide) : (((B : Int) + (((L : Int) + 9223372036854775808) % 18446744073709551616 - 9223372036854775808) + 9223372036854775808) % 18446744073709551616 - 9223372036854775808) = ((B + L : Nat) : Int) := by omega

set_option maxHeartbeats 4000000 in
set_option maxRecDepth 100000 in
theorem len64_any (x : Int) (w : World) (h0 : 0 ≤ x) (h1 : x ≤ 18446744073709551615) :
    Calls Try.prog 97 #[.int .u64 x] w fun e w' => e = .returned (.int .i64 (bw x)) ∧ w = w' := by
  have hbw : bw x = (Lib.bitLen x.toNat : Int) := by unfold bw; rw [bitLen_nbits x.toNat (by omega)]
  rw [hbw]
  go_enter Try.func97, Try.ntmps97
  go_wp2
  all_goals (go_ret; refine ⟨congrArg Ending.returned (congrArg (Value.int IntKind.i64) ?_), rfl⟩)

  · have e0 : x / 4294967296 / 65536 / 256 % 256 = ((x.toNat / 72057594037927936 : Nat) : Int) := by omega
    have hb : x.toNat / 72057594037927936 < 256 := by omega
    have hp : 0 < x.toNat / 72057594037927936 := by omega
    have l := Lib.bitLen_le8' (((x.toNat / 72057594037927936 : Nat) : Int)) (by omega) (by omega)
    have s := Lib.bitLen_shift56 x.toNat (by omega) (by omega)
    rw [e0, Lib.len8_of _ (by omega) (by omega)]
    rw [Int.toNat_natCast] at l ⊢
    clear e0
    rw [s]
    generalize Lib.bitLen (x.toNat / 72057594037927936) = L at l ⊢
    first | exact wfin 56 L l | omega
  · have e0 : x / 4294967296 / 65536 % 256 = ((x.toNat / 281474976710656 : Nat) : Int) := by omega
    have hb : x.toNat / 281474976710656 < 256 := by omega
    have hp : 0 < x.toNat / 281474976710656 := by omega
    have l := Lib.bitLen_le8' (((x.toNat / 281474976710656 : Nat) : Int)) (by omega) (by omega)
    have s := Lib.bitLen_shift48 x.toNat (by omega) (by omega)
    rw [e0, Lib.len8_of _ (by omega) (by omega)]
    rw [Int.toNat_natCast] at l ⊢
    clear e0
    rw [s]
    generalize Lib.bitLen (x.toNat / 281474976710656) = L at l ⊢
    first | exact wfin 48 L l | omega
  · have e0 : x / 4294967296 / 256 % 256 = ((x.toNat / 1099511627776 : Nat) : Int) := by omega
    have hb : x.toNat / 1099511627776 < 256 := by omega
    have hp : 0 < x.toNat / 1099511627776 := by omega
    have l := Lib.bitLen_le8' (((x.toNat / 1099511627776 : Nat) : Int)) (by omega) (by omega)
    have s := Lib.bitLen_shift40 x.toNat (by omega) (by omega)
    rw [e0, Lib.len8_of _ (by omega) (by omega)]
    rw [Int.toNat_natCast] at l ⊢
    clear e0
    rw [s]
    generalize Lib.bitLen (x.toNat / 1099511627776) = L at l ⊢
    first | exact wfin 40 L l | omega
  · have e0 : x / 4294967296 % 256 = ((x.toNat / 4294967296 : Nat) : Int) := by omega
    have hb : x.toNat / 4294967296 < 256 := by omega
    have hp : 0 < x.toNat / 4294967296 := by omega
    have l := Lib.bitLen_le8' (((x.toNat / 4294967296 : Nat) : Int)) (by omega) (by omega)
    have s := Lib.bitLen_shift32 x.toNat (by omega) (by omega)
    rw [e0, Lib.len8_of _ (by omega) (by omega)]
    rw [Int.toNat_natCast] at l ⊢
    clear e0
    rw [s]
    generalize Lib.bitLen (x.toNat / 4294967296) = L at l ⊢
    first | exact wfin 32 L l | omega
  · have e0 : x / 65536 / 256 % 256 = ((x.toNat / 16777216 : Nat) : Int) := by omega
    have hb : x.toNat / 16777216 < 256 := by omega
    have hp : 0 < x.toNat / 16777216 := by omega
    have l := Lib.bitLen_le8' (((x.toNat / 16777216 : Nat) : Int)) (by omega) (by omega)
    have s := Lib.bitLen_shift24 x.toNat (by omega) (by omega)
    rw [e0, Lib.len8_of _ (by omega) (by omega)]
    rw [Int.toNat_natCast] at l ⊢
    clear e0
    rw [s]
    generalize Lib.bitLen (x.toNat / 16777216) = L at l ⊢
    first | exact wfin 24 L l | omega
  · have e0 : x / 65536 % 256 = ((x.toNat / 65536 : Nat) : Int) := by omega
    have hb : x.toNat / 65536 < 256 := by omega
    have hp : 0 < x.toNat / 65536 := by omega
    have l := Lib.bitLen_le8' (((x.toNat / 65536 : Nat) : Int)) (by omega) (by omega)
    have s := Lib.bitLen_shift16 x.toNat (by omega) (by omega)
    rw [e0, Lib.len8_of _ (by omega) (by omega)]
    rw [Int.toNat_natCast] at l ⊢
    clear e0
    rw [s]
    generalize Lib.bitLen (x.toNat / 65536) = L at l ⊢
    first | exact wfin 16 L l | omega
  · have e0 : x / 256 % 256 = ((x.toNat / 256 : Nat) : Int) := by omega
    have hb : x.toNat / 256 < 256 := by omega
    have hp : 0 < x.toNat / 256 := by omega
    have l := Lib.bitLen_le8' (((x.toNat / 256 : Nat) : Int)) (by omega) (by omega)
    have s := Lib.bitLen_shift8 x.toNat (by omega) (by omega)
    rw [e0, Lib.len8_of _ (by omega) (by omega)]
    rw [Int.toNat_natCast] at l ⊢
    clear e0
    rw [s]
    generalize Lib.bitLen (x.toNat / 256) = L at l ⊢
    first | exact wfin 8 L l | omega
  · have e0 : x % 256 = ((x.toNat : Nat) : Int) := by omega
    have l := Lib.bitLen_le8' ((x.toNat : Nat) : Int) (by omega) (by omega)
    rw [e0, Lib.len8_of _ (by omega) (by omega)]
    rw [Int.toNat_natCast] at l ⊢
    generalize Lib.bitLen x.toNat = L at l ⊢
    omega

end Go.Proofs.Ytbfnaigefmdcdaa

namespace Go.Proofs.Ytbfnaigefmdcdaa
open Go.RowKit Go.Cor Go.Free



theorem of_any (x : Int) (w : World) (h0 : 0 ≤ x) (h1 : x ≤ 18446744073709551615) :
    Calls Try.prog 85 #[.int .u64 x] w fun e w' => e = .returned (.int .i64 (bw x)) ∧ w = w' := by
  go_enter Try.func85, Try.ntmps85
  go_wp2_with (refine (len64_any x w h0 h1).mono ?_; rintro e w' ⟨rfl, rfl⟩)
  go_ret
  exact ⟨rfl, rfl⟩

set_option maxHeartbeats 400000 in
theorem refOf_any (x : Int) (w : World) (h0 : 0 ≤ x) (h1 : x ≤ 18446744073709551615) :
    Calls Try.prog 24 #[.int .u64 x] w fun e w' => e = .returned (.int .i64 (bw x)) ∧ w = w' := by
  obtain ⟨v, rfl⟩ := Int.eq_ofNat_of_zero_le h0
  have hbn : bw (v : Int) = (nbits v : Int) := by simp [bw]
  rw [hbn]
  have HN := Lib.hid (nbits_u64 v (by omega))
  go_enter Try.func24, Try.ntmps24
  go_wp2
  go_loop [0, 3, 4, 5, 6, 7, 8, 9] (fun v0 n3 _ _ _ _ _ _ => ∃ u n : Nat, v0 = .int .u64 u ∧ u ≤ v ∧ n3 = .int .i64 n ∧ Hid (nbits v = n + nbits u)) (fun v0 _ _ _ _ _ _ _ => (intOf v0).toNat)
  case atStart => exact ⟨v, 0, rfl, Nat.le_refl _, rfl, Lib.hid (by simp)⟩
  case round =>
    obtain ⟨u, n, rfl, hu, rfl, hI⟩ := hrel
    by_cases hlt : 0 < u
    · have hn : n ≤ 64 := by have := HN.out; have := hI.out; omega
      go_wp2
      go_round
      case rel => exact ⟨u / 2, n + 1, val_i (by omega), by omega, val_i (by omega), Lib.hid (by rw [hI.out, nbits_pos hlt]; omega)⟩
      case measure => simp [intOf] <;> omega
    · go_wp2
      go_ret
      obtain rfl : u = 0 := by omega
      exact ⟨ret_i (by rw [hI.out, nbits_zero]; omega), rfl⟩

end Go.Proofs.Ytbfnaigefmdcdaa

namespace Go.Proofs.Ytbfnaigefmdcdaa
open Go.RowKit Go.Cor Go.Free

theorem most1_any (a x : Int) (w : World) (h0 : 0 ≤ x) (h1 : x ≤ 18446744073709551615) :
    Calls Try.prog 95 #[.int .i64 a, .int .u64 x] w fun e w' => e = .returned (.int .i64 (max a (bw x))) ∧ w = w' := by
  go_enter Try.func95, Try.ntmps95
  go_wp2_with fail
  refine (of_any x w h0 h1).mono ?_
  rintro e w' ⟨rfl, rfl⟩
  go_wp2
  go_ret
  exact ⟨ret_i (by omega), rfl⟩
set_option maxHeartbeats 1000000 in
theorem foldMost_any (A : Option Addr) (n c : Nat) (xs : List Int) (w : World) (h : Rd w .u64 A n c xs) (hn : n ≤ 2000) (hf : ∀ x ∈ xs, 0 ≤ x ∧ x ≤ 18446744073709551615) :
    Calls Try.prog 94 #[.slice A n c, .int .i64 0, .func (.func 95) #[] #[]] w fun e w' => e = .returned (.int .i64 (most xs)) ∧ w = w' := by
  have H := Lib.hid h
  have HF := Lib.hid hf
  clear h hf
  go_enter Try.func94, Try.ntmps94
  go_wp2
  go_loop [1, 8, 11, 12, 13, 14, 15, 16, 17, 18, 19] (fun v1 _ v11 _ _ _ _ _ _ _ _ => ∃ i : Nat, v11 = .int .i64 i ∧ i ≤ n ∧ ∃ m, v1 = .int .i64 m ∧ Hid (m = most (xs.take i))) (fun _ _ v11 _ _ _ _ _ _ _ _ => n - (intOf v11).toNat)
  case atStart => exact ⟨0, rfl, by omega, 0, rfl, Lib.hid rfl⟩
  case round =>
    obtain ⟨i, rfl, hi, m, rfl, hI⟩ := hrel
    by_cases hlt : i < n
    · obtain ⟨b', o, rfl, hbl, hc⟩ := H.out.get (by omega)
      have hcell := hc i hlt
      rw [List.getD_eq_getElem?_getD] at hcell
      have hil : i < xs.length := by have := H.out.len; omega
      have e1 := most_snoc (l := xs) (k := i) hil
      rw [← hI.out] at e1
      have hx1 := HF.out (xs[i]?.getD 0) (by rw [List.getElem?_eq_getElem hil]; exact List.getElem_mem _)
      obtain ⟨x, hx⟩ : ∃ x, xs[i]?.getD 0 = x := ⟨_, rfl⟩
      rw [hx] at hcell e1 hx1
      have E1 := Lib.hid e1
      obtain ⟨hx0, hx2⟩ := hx1
      clear hc e1 hx hil
      go_wp2_with fail
      refine (most1_any m x w hx0 hx2).mono ?_
      rintro e w' ⟨rfl, rfl⟩
      go_wp2
      go_round
      case rel => exact ⟨i + 1, by go_num, by omega, _, rfl, Lib.hid E1.out.symm⟩
      case measure => simp [intOf] <;> omega
    · go_wp2
      go_ret
      obtain rfl : i = n := by omega
      have e := hI.out
      rw [List.take_of_length_le (by have := H.out.len; omega)] at e
      exact ⟨ret_i e, rfl⟩
theorem most_any (A : Option Addr) (n c : Nat) (xs : List Int) (w : World) (h : Rd w .u64 A n c xs) (hn : n ≤ 2000) (hf : ∀ x ∈ xs, 0 ≤ x ∧ x ≤ 18446744073709551615) :
    Calls Try.prog 74 #[.slice A n c] w fun e w' => e = .returned (.int .i64 (most xs)) ∧ w = w' := by
  have HM := Lib.hid (foldMost_any A n c xs w h hn hf)
  clear h hf
  go_enter Try.func74, Try.ntmps74
  go_wp2_with fail
  refine HM.out.mono ?_
  rintro e w' ⟨rfl, rfl⟩
  go_wp2
  go_ret
  exact ⟨rfl, rfl⟩
set_option maxHeartbeats 1000000 in
theorem refMost_any (A : Option Addr) (n c : Nat) (xs : List Int) (w : World) (h : Rd w .u64 A n c xs) (hn : n ≤ 2000) (hf : ∀ x ∈ xs, 0 ≤ x ∧ x ≤ 18446744073709551615) :
    Calls Try.prog 51 #[.slice A n c] w fun e w' => e = .returned (.int .i64 (most xs)) ∧ w = w' := by
  have H := Lib.hid h
  have HF := Lib.hid hf
  clear h hf
  go_enter Try.func51, Try.ntmps51
  go_wp2
  go_loop [3, 4, 5, 6, 7, 8, 9, 10, 11, 12, 13, 14, 15, 16, 17, 18, 19, 20, 21, 22] (fun v3 v4 _ _ _ _ _ _ _ _ _ _ _ _ _ _ _ _ _ _ => ∃ i : Nat, v4 = .int .i64 i ∧ i ≤ n ∧ ∃ m, v3 = .int .i64 m ∧ Hid (m = most (xs.take i))) (fun _ v4 _ _ _ _ _ _ _ _ _ _ _ _ _ _ _ _ _ _ => n - (intOf v4).toNat)
  case atStart => exact ⟨0, rfl, by omega, 0, rfl, Lib.hid rfl⟩
  case round =>
    obtain ⟨i, rfl, hi, m, rfl, hI⟩ := hrel
    by_cases hlt : i < n
    · obtain ⟨b', o, rfl, hbl, hc⟩ := H.out.get (by omega)
      have hcell := hc i hlt
      rw [List.getD_eq_getElem?_getD] at hcell
      have hil : i < xs.length := by have := H.out.len; omega
      have e1 := most_snoc (l := xs) (k := i) hil
      rw [← hI.out] at e1
      have hx1 := HF.out (xs[i]?.getD 0) (by rw [List.getElem?_eq_getElem hil]; exact List.getElem_mem _)
      obtain ⟨x, hx⟩ : ∃ x, xs[i]?.getD 0 = x := ⟨_, rfl⟩
      rw [hx] at hcell e1 hx1
      have E1 := Lib.hid e1
      obtain ⟨hx0, hx2⟩ := hx1
      clear hc e1 hx hil
      by_cases hxm : bw x ≤ m
      · go_wp2_with fail
        refine (refOf_any x w hx0 hx2).mono ?_
        rintro e w' ⟨rfl, rfl⟩
        go_wp2
        go_round
        case rel => exact ⟨i + 1, by go_num, by omega, _, rfl, Lib.hid (by rw [E1.out]; omega)⟩
        case measure => simp [intOf] <;> omega
      · go_wp2_with fail
        refine (refOf_any x w hx0 hx2).mono ?_
        rintro e w' ⟨rfl, rfl⟩
        go_wp2_with fail
        refine (refOf_any x w hx0 hx2).mono ?_
        rintro e w' ⟨rfl, rfl⟩
        go_wp2
        go_round
        case rel => exact ⟨i + 1, by go_num, by omega, _, rfl, Lib.hid (by rw [E1.out]; omega)⟩
        case measure => simp [intOf] <;> omega
    · go_wp2
      go_ret
      obtain rfl : i = n := by omega
      have e := hI.out
      rw [List.take_of_length_le (by have := H.out.len; omega)] at e
      exact ⟨ret_i e, rfl⟩
end Go.Proofs.Ytbfnaigefmdcdaa
