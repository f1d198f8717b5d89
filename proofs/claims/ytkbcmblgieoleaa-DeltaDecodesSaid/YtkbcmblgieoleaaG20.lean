/-
  Chapter 12, the plain part: blocks of deltas, there and back.
  Chapter 11, the plain part: blocks near to one number, there and back.
-/
import Derived.Test.YtkbcmblgieoleaaG19
namespace Go.Cor
open Go
/-- pieces of so many: where each begins, how many it has -/
def cks (m n : Nat) : List (Nat × Nat) := (List.range ((n + m - 1) / m)).map fun i => (m * i, min m (n - m * i))
/-- what pieces of a row give, one behind the other -/
def chunked {α : Type} (m : Nat) (f : List Int → List α) (l : List Int) : List α := ((cks m l.length).map fun c => f ((l.drop c.1).take c.2)).flatten
theorem cks_zero (m : Nat) (hm : 0 < m) : cks m 0 = [] := by unfold cks; rw [Nat.zero_add, Nat.div_eq_of_lt (by omega)]; rfl
theorem cks_step {m n : Nat} (hm : 0 < m) (hn : 0 < n) : cks m n = (0, min m n) :: (cks m (n - m)).map fun c => (c.1 + m, c.2) := by
  unfold cks
  have e : (n + m - 1) / m = (n - m + m - 1) / m + 1 := by
    by_cases h : n ≤ m
    · rw [show n - m + m - 1 = m - 1 by omega, Nat.div_eq_of_lt (show m - 1 < m by omega), show n + m - 1 = (n - 1) + m by omega, Nat.add_div_right _ hm, Nat.div_eq_of_lt (by omega)]
    · rw [show n - m + m - 1 = n - 1 by omega, show n + m - 1 = (n - 1) + m by omega, Nat.add_div_right _ hm]
  rw [e, List.range_succ_eq_map, List.map_cons, List.map_map, List.map_map]
  simp only [Nat.mul_zero, Nat.sub_zero]
  congr 1
  refine List.map_congr_left fun i _ => ?_
  simp only [Function.comp, Nat.succ_eq_add_one, Nat.mul_add, Nat.mul_one]
  congr 2
  omega
theorem chunked_nil {α : Type} {m : Nat} (hm : 0 < m) (f : List Int → List α) : chunked m f [] = [] := by unfold chunked; rw [List.length_nil, cks_zero m hm]; rfl
theorem chunked_step {α : Type} {m : Nat} (hm : 0 < m) (f : List Int → List α) {l : List Int} (h : l ≠ []) : chunked m f l = f (l.take m) ++ chunked m f (l.drop m) := by
  unfold chunked
  have hp : 0 < l.length := List.length_pos_iff.2 h
  rw [cks_step hm hp, List.map_cons, List.flatten_cons, List.map_map, List.drop_zero, List.length_drop]
  congr 1
  · congr 1
    by_cases h1 : m ≤ l.length
    · rw [Nat.min_eq_left h1]
    · rw [Nat.min_eq_right (by omega), List.take_of_length_le (Nat.le_refl _), List.take_of_length_le (by omega)]
  · congr 1
    refine List.map_congr_left fun c _ => ?_
    simp only [Function.comp, List.drop_drop]
    rw [Nat.add_comm m]

/-- a part's form -/
def dheads (o : List Int) : List Int := chunked 32 (fun x => [most x]) o
def dpacks (o : List Int) : List Int := chunked 32 (fun x => packed (most x).toNat x) o
def dpart (p : List Int) : List Int := vput (zig (least p)).toNat ++ (dheads (offsets (least p) p) ++ dpacks (offsets (least p) p))
def drest (l : List Int) : List Int := chunked 128 dpart l
def dform (xs : List Int) : List Int := if xs = [] then [] else vput (zig (xs[0]?.getD 0)).toNat ++ drest (deltas xs)

/-- so many widths of bytes: the error -/
def dwid : Nat → List Int → Int
  | 0, _ => 0
  | q + 1, b => if b = [] then 1 else if 64 < (b[0]?.getD 0).toNat then 6 else dwid q (b.drop 1)
/-- the pieces of bytes, by their widths -/
def dpcs : List Int → Nat → List Int → List Int × Nat × Int
  | [], _, _ => ([], 0, 0)
  | v :: ws, m, b => if b.length < octets (min 32 m * v.toNat) then ([], 0, 1)
    else if nums (b.take (octets (min 32 m * v.toNat))) / 2 ^ (v.toNat * min 32 m) ≠ 0 then ([], 0, 3)
    else dlift (unp v.toNat (min 32 m) (nums (b.take (octets (min 32 m * v.toNat))))) (octets (min 32 m * v.toNat)) (dpcs ws (m - 32) (b.drop (octets (min 32 m * v.toNat))))
/-- a part of bytes, its least delta being read -/
def dbody (f : Int) (m m1 : Nat) (b : List Int) : List Int × Nat × Int :=
  if dwid ((m + 31) / 32) b ≠ 0 then ([], 0, dwid ((m + 31) / 32) b)
  else if (dpcs (b.take ((m + 31) / 32)) m (b.drop ((m + 31) / 32))).2.2 ≠ 0 then ([], 0, (dpcs (b.take ((m + 31) / 32)) m (b.drop ((m + 31) / 32))).2.2)
  else (backs f (dpcs (b.take ((m + 31) / 32)) m (b.drop ((m + 31) / 32))).1, m1 + ((m + 31) / 32 + (dpcs (b.take ((m + 31) / 32)) m (b.drop ((m + 31) / 32))).2.1), 0)
def dstep (lack : Nat) (b : List Int) : List Int × Nat × Int :=
  if (vget 0 b).2.2 ≠ 0 then ([], 0, (vget 0 b).2.2)
  else dbody (zag (vget 0 b).1) (min 128 lack) (vget 0 b).2.1.toNat (b.drop (vget 0 b).2.1.toNat)
theorem dstep_get (lack : Nat) {b : List Int} {h m : Nat} (e : vget 0 b = ((h : Int), (m : Int), 0)) : dstep lack b = dbody (zag h) (min 128 lack) m (b.drop m) := by
  unfold dstep; rw [e]; simp
/-- all numbers of bytes -/
def dall (n : Nat) (ys : List Int) : List Int × Nat × Int :=
  if n = 0 then ([], 0, 7) else if (vget 0 ys).2.2 ≠ 0 then ([], 0, (vget 0 ys).2.2)
  else if (drun dstep (n - 1) (ys.drop (vget 0 ys).2.1.toNat)).2.2 ≠ 0 then ([], 0, (drun dstep (n - 1) (ys.drop (vget 0 ys).2.1.toNat)).2.2)
  else (sums (zag (vget 0 ys).1) (drun dstep (n - 1) (ys.drop (vget 0 ys).2.1.toNat)).1, (vget 0 ys).2.1.toNat + (drun dstep (n - 1) (ys.drop (vget 0 ys).2.1.toNat)).2.1, 0)
theorem dall_get {n : Nat} (hn : 0 < n) {b : List Int} {h m : Nat} (e : vget 0 b = ((h : Int), (m : Int), 0)) : dall n b =
    if (drun dstep (n - 1) (b.drop m)).2.2 ≠ 0 then ([], 0, (drun dstep (n - 1) (b.drop m)).2.2) else (sums (zag h) (drun dstep (n - 1) (b.drop m)).1, m + (drun dstep (n - 1) (b.drop m)).2.1, 0) := by
  unfold dall; rw [if_neg (by omega), e]; simp
def ddec : List Int → Int → List Int × Int := decOf dall

theorem dheads_step {o : List Int} (h : o ≠ []) : dheads o = most (o.take 32) :: dheads (o.drop 32) := by
  unfold dheads; rw [chunked_step (by decide) _ h]; rfl
theorem dpacks_step {o : List Int} (h : o ≠ []) : dpacks o = packed (most (o.take 32)).toNat (o.take 32) ++ dpacks (o.drop 32) := by
  unfold dpacks; rw [chunked_step (by decide) _ h]
theorem dheads_nil : dheads [] = [] := chunked_nil (by decide) _
theorem dpacks_nil : dpacks [] = [] := chunked_nil (by decide) _
def U64l (o : List Int) : Prop := ∀ u ∈ o, 0 ≤ u ∧ u ≤ 18446744073709551615
theorem U64l.take {o : List Int} (h : U64l o) (k : Nat) : U64l (o.take k) := fun u hu => h u (List.mem_of_mem_take hu)
theorem U64l.drop {o : List Int} (h : U64l o) (k : Nat) : U64l (o.drop k) := fun u hu => h u (List.mem_of_mem_drop hu)
theorem dheads_len : ∀ (n : Nat) (o : List Int), o.length = n → (dheads o).length = (n + 31) / 32 := by
  intro n
  induction n using Nat.strongRecOn with
  | ind n ih =>
    intro o ho
    by_cases h : o = []
    · subst h; rw [dheads_nil]; simp at ho; subst ho; rfl
    · have hp : 0 < o.length := List.length_pos_iff.2 h
      rw [dheads_step h, List.length_cons, ih (n - 32) (by omega) _ (by rw [List.length_drop]; omega)]
      omega
theorem dwid_heads : ∀ (n : Nat) (o : List Int), o.length = n → U64l o → ∀ r, dwid ((n + 31) / 32) (dheads o ++ r) = 0 := by
  intro n
  induction n using Nat.strongRecOn with
  | ind n ih =>
    intro o ho hu r
    by_cases h : o = []
    · subst h; simp at ho; subst ho; rfl
    · have hp : 0 < o.length := List.length_pos_iff.2 h
      have hm := most_bd (hu.take 32)
      rw [dheads_step h, show (n + 31) / 32 = (n - 32 + 31) / 32 + 1 by omega, dwid, if_neg (by simp)]
      simp only [List.cons_append, List.getElem?_cons_zero, Option.getD_some, List.drop_succ_cons, List.drop_zero]
      rw [if_neg (by omega)]
      exact ih (n - 32) (by omega) _ (by rw [List.length_drop]; omega) (hu.drop 32) r
theorem dpcs_packs : ∀ (n : Nat) (o : List Int), o.length = n → U64l o → ∀ r, dpcs (dheads o) n (dpacks o ++ r) = (o, (dpacks o).length, 0) := by
  intro n
  induction n using Nat.strongRecOn with
  | ind n ih =>
    intro o ho hu r
    by_cases h : o = []
    · subst h; rw [dheads_nil, dpacks_nil]; simp [dpcs]
    · have hp : 0 < o.length := List.length_pos_iff.2 h
      have hm := most_bd (hu.take 32)
      have hf := most_fit (l := o.take 32) (fun u hu' => (hu.take 32 u hu').1)
      rw [dheads_step h, dpacks_step h, dpcs]
      obtain ⟨v, hv⟩ : ∃ v, (most (o.take 32)).toNat = v := ⟨_, rfl⟩
      obtain ⟨x, hx⟩ : ∃ x, o.take 32 = x := ⟨_, rfl⟩
      rw [hv] at hf ⊢
      rw [hx] at hf ⊢
      have hxl : x.length = min 32 n := by rw [← hx, List.length_take, ho]
      have hpl := packed_len v x
      rw [hxl] at hpl
      rw [List.append_assoc, if_neg (by rw [List.length_append]; omega), List.take_left' hpl, nums_packed hf, ← hxl, Nat.div_eq_of_lt (pk_lt hf), if_neg (by simp), unp_pk hf, hxl, List.drop_left' hpl,
        ih (n - 32) (by omega) _ (by rw [List.length_drop]; omega) (hu.drop 32) r]
      unfold dlift
      simp only [ne_eq, not_true_eq_false, if_false, List.length_append, hpl]
      rw [← hx, List.take_append_drop]
theorem dpcs_cut : ∀ (n : Nat) (o : List Int), o.length = n → U64l o → 0 < (dpacks o).length → (dpcs (dheads o) n ((dpacks o).take ((dpacks o).length - 1))).2.2 ≠ 0 := by
  intro n
  induction n using Nat.strongRecOn with
  | ind n ih =>
    intro o ho hu h0
    by_cases h : o = []
    · subst h; rw [dpacks_nil] at h0; simp at h0
    · have hp : 0 < o.length := List.length_pos_iff.2 h
      have hm := most_bd (hu.take 32)
      have hf := most_fit (l := o.take 32) (fun u hu' => (hu.take 32 u hu').1)
      rw [dpacks_step h] at h0
      rw [dheads_step h, dpacks_step h, dpcs]
      obtain ⟨v, hv⟩ : ∃ v, (most (o.take 32)).toNat = v := ⟨_, rfl⟩
      obtain ⟨x, hx⟩ : ∃ x, o.take 32 = x := ⟨_, rfl⟩
      rw [hv] at hf h0 ⊢
      rw [hx] at hf h0 ⊢
      have hxl : x.length = min 32 n := by rw [← hx, List.length_take, ho]
      have hpl := packed_len v x
      rw [hxl] at hpl
      by_cases h1 : 0 < (dpacks (o.drop 32)).length
      · have e : (packed v x ++ dpacks (o.drop 32)).take ((packed v x ++ dpacks (o.drop 32)).length - 1) = packed v x ++ (dpacks (o.drop 32)).take ((dpacks (o.drop 32)).length - 1) := by
          rw [List.length_append, List.take_append, List.take_of_length_le (by omega)]; congr 2; omega
        rw [e, if_neg (by rw [List.length_append]; omega), List.take_left' hpl, nums_packed hf, ← hxl, Nat.div_eq_of_lt (pk_lt hf), if_neg (by simp), hxl, List.drop_left' hpl]
        have := ih (n - 32) (by omega) _ (by rw [List.length_drop]; omega) (hu.drop 32) h1
        unfold dlift
        rw [if_pos this]; exact this
      · have e0 : dpacks (o.drop 32) = [] := List.eq_nil_of_length_eq_zero (by omega)
        rw [e0, List.append_nil] at h0 ⊢
        rw [if_pos (by rw [List.length_take]; omega)]
        decide
theorem dwid_cut : ∀ (n : Nat) (o : List Int), o.length = n → U64l o → 0 < n → dwid ((n + 31) / 32) ((dheads o).take ((dheads o).length - 1)) ≠ 0 := by
  intro n
  induction n using Nat.strongRecOn with
  | ind n ih =>
    intro o ho hu h0
    have h : o ≠ [] := fun e => by rw [e] at ho; simp at ho; omega
    have hm := most_bd (hu.take 32)
    have hl := dheads_len n o ho
    rw [dheads_step h] at hl ⊢
    rw [show (n + 31) / 32 = (n - 32 + 31) / 32 + 1 by omega, dwid]
    by_cases h1 : n ≤ 32
    · have e0 : o.drop 32 = [] := List.drop_of_length_le (by omega)
      rw [e0, dheads_nil, if_pos (by simp)]; decide
    · have hl2 := dheads_len (n - 32) (o.drop 32) (by rw [List.length_drop]; omega)
      rw [List.length_cons, show (dheads (o.drop 32)).length + 1 - 1 = ((dheads (o.drop 32)).length - 1) + 1 by omega, List.take_succ_cons, if_neg (by simp)]
      simp only [List.getElem?_cons_zero, Option.getD_some, List.drop_succ_cons, List.drop_zero]
      rw [if_neg (by omega)]
      exact ih (n - 32) (by omega) _ (by rw [List.length_drop]; omega) (hu.drop 32) (by omega)
theorem offsets_u64 (f : Int) (p : List Int) : U64l (offsets f p) := by
  intro u hu
  obtain ⟨x, _, rfl⟩ := List.mem_map.1 hu
  exact wu64_bd _
theorem least_i64 {p : List Int} (h : ∀ x ∈ p, I64 x) : I64 (least p) := by
  by_cases h0 : p = []
  · subst h0; exact ⟨by decide, by decide⟩
  · exact h _ (least_mem h0)
/-- a part, there and back -/
theorem dstep_one {p : List Int} (h : ∀ x ∈ p, I64 x) (_h0 : p ≠ []) (_hp : p.length ≤ 128) {lack : Nat} (hl : min 128 lack = p.length) (r : List Int) : dstep lack (dpart p ++ r) = (p, (dpart p).length, 0) := by
  have hz := zig_u64 (least_i64 h)
  have hzz : ((zig (least p)).toNat : Int) = zig (least p) := Int.toNat_of_nonneg (zig_nonneg _)
  have ho := offsets_u64 (least p) p
  have hol : (offsets (least p) p).length = p.length := by simp [offsets]
  have hb := backs_offsets (least p) p h
  unfold dpart
  obtain ⟨o, hoe⟩ : ∃ o, offsets (least p) p = o := ⟨_, rfl⟩
  rw [hoe] at ho hol hb ⊢
  have hg := vget_put (zig (least p)).toNat 0 (dheads o ++ dpacks o ++ r) (by omega) hz (by omega)
  have hhl := dheads_len _ o hol
  rw [List.append_assoc, dstep_get lack (h := (zig (least p)).toNat) (m := (vput (zig (least p)).toNat).length) (by rw [hg]; simp), List.drop_left, hzz, zig_zag, hl, List.append_assoc]
  unfold dbody
  rw [dwid_heads _ o hol ho, List.take_left' hhl, List.drop_left' hhl, dpcs_packs _ o hol ho, if_neg (by simp), if_neg (by simp), hb]
  simp only [List.length_append, hhl]
theorem drest_nil : drest [] = [] := chunked_nil (by decide) _
theorem drest_step {l : List Int} (h : l ≠ []) : drest l = dpart (l.take 128) ++ drest (l.drop 128) := chunked_step (by decide) _ h
theorem dpart_pos (p : List Int) : 0 < (dpart p).length := by unfold dpart; rw [List.length_append]; have := vput_pos (zig (least p)).toNat; omega
theorem drun_rest (r : List Int) : ∀ (n : Nat) (l : List Int), l.length = n → (∀ x ∈ l, I64 x) → drun dstep n (drest l ++ r) = (l, (drest l).length, 0) := by
  intro n
  induction n using Nat.strongRecOn with
  | ind n ih =>
    intro l hl hi
    by_cases h : l = []
    · subst h; simp at hl; subst hl; rw [drest_nil, drun, if_pos rfl]; simp
    · have hp : 0 < l.length := List.length_pos_iff.2 h
      have htl : (l.take 128).length = min 128 n := by rw [List.length_take, hl]
      have htn : l.take 128 ≠ [] := fun e => by rw [e] at htl; simp at htl; omega
      have h1 := dstep_one (p := l.take 128) (fun x hx => hi x (List.mem_of_mem_take hx)) htn (by omega) (lack := n) htl.symm (drest (l.drop 128) ++ r)
      rw [drun_start, drest_step h, List.append_assoc, drun_step [] 0 (by omega) (by rw [h1]) (by rw [h1]; simp only [htl]; omega), h1]
      simp only [List.nil_append, Nat.zero_add, htl, List.drop_left]
      rw [show n - min 128 n = n - 128 by omega, ih (n - 128) (by omega) _ (by rw [List.length_drop]; omega) (fun x hx => hi x (List.mem_of_mem_drop hx))]
      unfold dlift
      simp
/-- a byte less -/
theorem dstep_cut {p : List Int} (h : ∀ x ∈ p, I64 x) (h0 : p ≠ []) (hp : p.length ≤ 128) {lack : Nat} (hl : min 128 lack = p.length) : (dstep lack ((dpart p).take ((dpart p).length - 1))).2.2 ≠ 0 := by
  have hz := zig_u64 (least_i64 h)
  have ho := offsets_u64 (least p) p
  have hol : (offsets (least p) p).length = p.length := by simp [offsets]
  have hpp : 0 < p.length := List.length_pos_iff.2 h0
  unfold dpart
  obtain ⟨o, hoe⟩ : ∃ o, offsets (least p) p = o := ⟨_, rfl⟩
  rw [hoe] at ho hol ⊢
  have hhl := dheads_len _ o hol
  have e : ∀ b : List Int, 0 < b.length → (vput (zig (least p)).toNat ++ b).take ((vput (zig (least p)).toNat ++ b).length - 1) = vput (zig (least p)).toNat ++ b.take (b.length - 1) := by
    intro b hb; rw [List.length_append, List.take_append, List.take_of_length_le (by omega)]; congr 2; omega
  rw [e _ (by rw [List.length_append]; omega)]
  obtain ⟨T, hT⟩ : ∃ T, (dheads o ++ dpacks o).take ((dheads o ++ dpacks o).length - 1) = T := ⟨_, rfl⟩
  rw [hT]
  have hg := vget_put (zig (least p)).toNat 0 T (by omega) hz (by omega)
  rw [dstep_get lack (h := (zig (least p)).toNat) (m := (vput (zig (least p)).toNat).length) (by rw [hg]; simp), List.drop_left, hl]
  unfold dbody
  by_cases h1 : 0 < (dpacks o).length
  · have eT : T = dheads o ++ (dpacks o).take ((dpacks o).length - 1) := by
      rw [← hT, List.length_append, List.take_append, List.take_of_length_le (by omega)]; congr 2; omega
    rw [eT, dwid_heads _ o hol ho, List.take_left' hhl, List.drop_left' hhl, if_neg (by simp)]
    have := dpcs_cut _ o hol ho h1
    rw [if_pos this]; exact this
  · have e0 : dpacks o = [] := List.eq_nil_of_length_eq_zero (by omega)
    rw [e0, List.append_nil] at hT
    have := dwid_cut _ o hol ho hpp
    rw [hT] at this
    rw [if_pos this]; exact this
theorem drun_less : ∀ (n : Nat) (l : List Int), l.length = n → l ≠ [] → (∀ x ∈ l, I64 x) → (drun dstep n ((drest l).take ((drest l).length - 1))).2.2 ≠ 0 := by
  intro n
  induction n using Nat.strongRecOn with
  | ind n ih =>
    intro l hl h hi
    have hp : 0 < l.length := List.length_pos_iff.2 h
    have htl : (l.take 128).length = min 128 n := by rw [List.length_take, hl]
    have htn : l.take 128 ≠ [] := fun e => by rw [e] at htl; simp at htl; omega
    by_cases h2 : l.drop 128 = []
    · have hc := dstep_cut (p := l.take 128) (fun x hx => hi x (List.mem_of_mem_take hx)) htn (by omega) (lack := n) htl.symm
      rw [drest_step h, h2, drest_nil, List.append_nil, drun, if_neg (by omega), if_pos hc]
      exact hc
    · have hr : 0 < (drest (l.drop 128)).length := by rw [drest_step h2, List.length_append]; have := dpart_pos ((l.drop 128).take 128); omega
      have e : (drest l).take ((drest l).length - 1) = dpart (l.take 128) ++ (drest (l.drop 128)).take ((drest (l.drop 128)).length - 1) := by
        rw [drest_step h, List.length_append, List.take_append, List.take_of_length_le (by omega)]; congr 2; omega
      have h1 := dstep_one (p := l.take 128) (fun x hx => hi x (List.mem_of_mem_take hx)) htn (by omega) (lack := n) htl.symm ((drest (l.drop 128)).take ((drest (l.drop 128)).length - 1))
      rw [e, drun_start, drun_step [] 0 (by omega) (by rw [h1]) (by rw [h1]; simp only [htl]; omega), h1]
      simp only [List.nil_append, Nat.zero_add, htl, List.drop_left]
      have := ih (n - 128) (by omega) _ (by rw [List.length_drop]; omega) h2 (fun x hx => hi x (List.mem_of_mem_drop hx))
      rw [show n - min 128 n = n - 128 by omega]
      unfold dlift
      rw [if_pos this]; exact this
theorem dpacks_len : ∀ (n : Nat) (o : List Int), o.length = n → U64l o → (dpacks o).length ≤ 8 * n := by
  intro n
  induction n using Nat.strongRecOn with
  | ind n ih =>
    intro o ho hu
    by_cases h : o = []
    · subst h; rw [dpacks_nil]; simp
    · have hp : 0 < o.length := List.length_pos_iff.2 h
      have hm := most_bd (hu.take 32)
      have h1 := ih (n - 32) (by omega) (o.drop 32) (by rw [List.length_drop]; omega) (hu.drop 32)
      rw [dpacks_step h, List.length_append, packed_len, List.length_take, ho]
      obtain ⟨v, hv⟩ : ∃ v, (most (o.take 32)).toNat = v := ⟨_, rfl⟩
      rw [hv]
      have h2 : octets (min 32 n * v) ≤ 8 * min 32 n := by
        have : min 32 n * v ≤ min 32 n * 64 := Nat.mul_le_mul_left _ (by omega)
        unfold octets; omega
      omega
theorem drest_len : ∀ (n : Nat) (l : List Int), l.length = n → (∀ x ∈ l, I64 x) → (drest l).length ≤ 19 * n := by
  intro n
  induction n using Nat.strongRecOn with
  | ind n ih =>
    intro l hl hi
    by_cases h : l = []
    · subst h; rw [drest_nil]; simp
    · have hp : 0 < l.length := List.length_pos_iff.2 h
      have h1 := ih (n - 128) (by omega) (l.drop 128) (by rw [List.length_drop]; omega) (fun x hx => hi x (List.mem_of_mem_drop hx))
      have hz := vput_len_u64 _ (zig_u64 (least_i64 (p := l.take 128) (fun x hx => hi x (List.mem_of_mem_take hx))))
      have htl : (l.take 128).length = min 128 n := by rw [List.length_take, hl]
      rw [drest_step h, List.length_append]
      unfold dpart
      have ho := offsets_u64 (least (l.take 128)) (l.take 128)
      have hol : (offsets (least (l.take 128)) (l.take 128)).length = min 128 n := by simp only [offsets, List.length_map, htl]
      have h2 := dheads_len _ _ hol
      have h3 := dpacks_len _ _ hol ho
      rw [List.length_append, List.length_append]
      omega
theorem deltas_i64 (xs : List Int) : ∀ x ∈ deltas xs, I64 x := by
  intro x hx
  obtain ⟨i, _, rfl⟩ := List.mem_map.1 hx
  exact w64_bd _
theorem dform_eq {xs : List Int} (h : xs ≠ []) : dform xs = vput (zig (xs[0]?.getD 0)).toNat ++ drest (deltas xs) := by unfold dform; rw [if_neg h]
theorem drest_bytes : ∀ (n : Nat) (l : List Int), l.length = n → ∀ x ∈ drest l, 0 ≤ x ∧ x ≤ 255 := by
  intro n
  induction n using Nat.strongRecOn with
  | ind n ih =>
    intro l hl x hx
    by_cases h : l = []
    · subst h; rw [drest_nil] at hx; simp at hx
    · have hp : 0 < l.length := List.length_pos_iff.2 h
      rw [drest_step h] at hx
      rcases List.mem_append.1 hx with hx | hx
      · unfold dpart at hx
        rcases List.mem_append.1 hx with hx | hx
        · exact vput_bytes _ x hx
        have ho := offsets_u64 (least (l.take 128)) (l.take 128)
        rcases List.mem_append.1 hx with hx | hx
        · unfold dheads chunked at hx
          rw [List.mem_flatten] at hx
          obtain ⟨y, hy, hx⟩ := hx
          obtain ⟨z, _, rfl⟩ := List.mem_map.1 hy
          simp only [List.mem_singleton] at hx
          have := most_bd ((ho.drop z.1).take z.2)
          omega
        · unfold dpacks chunked at hx
          rw [List.mem_flatten] at hx
          obtain ⟨y, hy, hx⟩ := hx
          obtain ⟨z, _, rfl⟩ := List.mem_map.1 hy
          exact packed_bytes _ _ x hx
      · exact ih (n - 128) (by omega) _ (by rw [List.length_drop]; omega) x hx
theorem deltaBacks (xs : List Int) (h : ∀ x ∈ xs, I64 x) (ht : tak tkAll xs = true) : Go.Proofs.Ytkbcmblgieoleaa.Backs tkAll dform ddec xs := by
  have hb : blk xs.length = true := by rw [tak_all] at ht; exact ht
  have hN := of_decide_eq_true hb
  have hne : xs ≠ [] := fun e => by rw [e] at hN; simp at hN
  have hdl : (deltas xs).length = xs.length - 1 := by simp [deltas]
  have hx0 : I64 (xs[0]?.getD 0) := by rw [List.getElem?_eq_getElem (by omega)]; exact h _ (List.getElem_mem _)
  have hz := zig_u64 hx0
  have hzz : ((zig (xs[0]?.getD 0)).toNat : Int) = zig (xs[0]?.getD 0) := Int.toNat_of_nonneg (zig_nonneg _)
  have hv := vput_len_u64 _ hz
  have hvp := vput_pos (zig (xs[0]?.getD 0)).toNat
  have hlen := drest_len _ (deltas xs) hdl (deltas_i64 xs)
  refine backsOf ?_ ?_ hb ?_ ?_ ?_
  · rw [dform_eq hne]; intro x hx
    rcases List.mem_append.1 hx with hx | hx
    · exact vput_bytes _ x hx
    · exact drest_bytes _ _ rfl x hx
  · rw [dform_eq hne, List.length_append]; omega
  · intro r
    have hg := vget_put (zig (xs[0]?.getD 0)).toNat 0 (drest (deltas xs) ++ r) (by omega) hz (by omega)
    rw [dform_eq hne, List.append_assoc, dall_get (by omega) (h := (zig (xs[0]?.getD 0)).toNat) (m := (vput (zig (xs[0]?.getD 0)).toNat).length) (by rw [hg]; simp), List.drop_left,
      drun_rest r _ _ hdl (deltas_i64 xs), if_neg (by simp), hzz, zig_zag, sums_deltas xs h hne, List.length_append]
  · rw [dform_eq hne]
    by_cases h1 : deltas xs = []
    · rw [h1, drest_nil, List.append_nil]
      unfold dall
      rw [if_neg (by omega), vget_cut _ 0 _ (by omega) (by omega)]
      simp
    · have hr : 0 < (drest (deltas xs)).length := by rw [drest_step h1, List.length_append]; have := dpart_pos ((deltas xs).take 128); omega
      have e : (vput (zig (xs[0]?.getD 0)).toNat ++ drest (deltas xs)).take ((vput (zig (xs[0]?.getD 0)).toNat ++ drest (deltas xs)).length - 1) = vput (zig (xs[0]?.getD 0)).toNat ++ (drest (deltas xs)).take ((drest (deltas xs)).length - 1) := by
        rw [List.length_append, List.take_append, List.take_of_length_le (by omega)]; congr 2; omega
      have hg := vget_put (zig (xs[0]?.getD 0)).toNat 0 ((drest (deltas xs)).take ((drest (deltas xs)).length - 1)) (by omega) hz (by omega)
      have hl := drun_less _ _ hdl h1 (deltas_i64 xs)
      rw [e, dall_get (by omega) (h := (zig (xs[0]?.getD 0)).toNat) (m := (vput (zig (xs[0]?.getD 0)).toNat).length) (by rw [hg]; simp), List.drop_left, if_pos hl]
      exact hl
  · rw [dform_eq hne, List.length_append]; omega
theorem dpcs_ok : ∀ (ws : List Int) (m : Nat) (b : List Int), m ≤ 32 * ws.length → (dpcs ws m b).2.2 = 0 → (dpcs ws m b).1.length = m ∧ (dpcs ws m b).2.1 ≤ b.length
  | [], m, b, hm, h => by simp at hm; subst hm; simp [dpcs]
  | v :: ws, m, b, hm, h => by
    rw [dpcs] at h ⊢
    by_cases h1 : b.length < octets (min 32 m * v.toNat)
    · rw [if_pos h1] at h; simp at h
    rw [if_neg h1] at h ⊢
    by_cases h2 : nums (b.take (octets (min 32 m * v.toNat))) / 2 ^ (v.toNat * min 32 m) ≠ 0
    · rw [if_pos h2] at h; simp at h
    rw [if_neg h2] at h ⊢
    unfold dlift at h ⊢
    split at h
    · rename_i h3; exact absurd h h3
    · rename_i h3
      rw [if_neg h3]
      simp only [List.length_cons] at hm
      have := dpcs_ok ws (m - 32) (b.drop (octets (min 32 m * v.toNat))) (by omega) (by simpa using h3)
      rw [List.length_drop] at this
      simp only [List.length_append, unp_len, this.1]
      omega
theorem dwid_ok : ∀ (q : Nat) (b : List Int), dwid q b = 0 → q ≤ b.length
  | 0, b, h => Nat.zero_le _
  | q + 1, b, h => by
    rw [dwid] at h
    split at h
    · simp at h
    · rename_i h1
      split at h
      · simp at h
      · have := dwid_ok q _ h
        have := List.length_pos_iff.2 h1
        rw [List.length_drop] at *
        omega
theorem dstep_ok {lack : Nat} {b : List Int} (hb : ∀ x ∈ b, 0 ≤ x ∧ x ≤ 255) (_hl : lack ≠ 0) (he : (dstep lack b).2.2 = 0) : (dstep lack b).1.length = min 128 lack ∧ (∀ x ∈ (dstep lack b).1, I64 x) ∧ (dstep lack b).2.1 ≤ b.length := by
  unfold dstep at he ⊢
  by_cases h0 : (vget 0 b).2.2 = 0
  · rw [if_neg (by simp [h0])] at he ⊢
    have hg := zrun_get hb h0
    unfold dbody at he ⊢
    split at he
    · rename_i h1; exact absurd he h1
    · rename_i h1
      rw [if_neg h1]
      split at he
      · rename_i h2; exact absurd he h2
      · rename_i h2
        rw [if_neg h2]
        have h3 := dwid_ok _ _ (by simpa using h1)
        rw [List.length_drop] at h3
        have h5 : (dpcs ((b.drop (vget 0 b).2.1.toNat).take ((min 128 lack + 31) / 32)) (min 128 lack) ((b.drop (vget 0 b).2.1.toNat).drop ((min 128 lack + 31) / 32))).2.2 = 0 := by simpa using h2
        have h4 := dpcs_ok _ _ _ (by rw [List.length_take, List.length_drop]; omega) h5
        rw [List.length_drop, List.length_drop] at h4
        refine ⟨by simp only [backs, List.length_map]; exact h4.1, fun x hx => ?_, by simp only; omega⟩
        obtain ⟨y, _, rfl⟩ := List.mem_map.1 hx
        exact w64_bd _
  · rw [if_pos h0] at he; exact absurd he h0
theorem ddec_ok (ys : List Int) (N : Nat) (hb : ∀ x ∈ ys, 0 ≤ x ∧ x ≤ 255) : ((ddec ys N).2 = 0 → (ddec ys N).1.length = N ∧ ∀ x ∈ (ddec ys N).1, I64 x) ∧ ((ddec ys N).2 ≠ 0 → (ddec ys N).1 = []) := by
  refine decOf_ok (fun n b hb h => ?_) ys N hb
  unfold dall at h ⊢
  by_cases h1 : n = 0
  · rw [if_pos h1] at h; simp at h
  rw [if_neg h1] at h ⊢
  by_cases h2 : (vget 0 b).2.2 ≠ 0
  · rw [if_pos h2] at h; exact absurd h h2
  rw [if_neg h2] at h ⊢
  split at h
  · rename_i h3; exact absurd h h3
  · rename_i h3
    rw [if_neg h3]
    have := drun_ok (step := dstep) (P := I64) (Q := fun b => ∀ x ∈ b, 0 ≤ x ∧ x ≤ 255) (fun b k hb x hx => hb x (List.mem_of_mem_drop hx)) (fun lack b hb hl he => by have := dstep_ok hb hl he; exact ⟨by omega, this.2.1, this.2.2⟩) (n - 1) (b.drop (vget 0 b).2.1.toNat) (fun x hx => hb x (List.mem_of_mem_drop hx)) (by simpa using h3)
    refine ⟨by simp only [sums_len, this.1]; omega, fun x hx => ?_⟩
    unfold sums at hx
    obtain ⟨i, _, rfl⟩ := List.mem_map.1 hx
    exact w64_bd _
end Go.Cor

namespace Go.Cor
open Go
/-- a number's high part, its low part, by a width -/
def fhi (k : Nat) (u : Int) : Nat := u.toNat / 2 ^ k
def flo (k : Nat) (u : Int) : Nat := u.toNat % 2 ^ k
/-- the exceptions: how many numbers stand ahead (g of them already), the high part -/
def exc (k : Nat) : Nat → List Int → List (Nat × Nat)
  | _, [] => []
  | g, u :: r => if fhi k u = 0 then exc k (g + 1) r else (g, fhi k u) :: exc k 0 r
/-- the exceptions' bytes -/
def marks (e : List (Nat × Nat)) : List Int := (e.map fun x => vput x.1 ++ vput x.2).flatten
def lows (k : Nat) (us : List Int) : List Int := us.map fun u => ((flo k u : Nat) : Int)
def fbod (k : Nat) (us : List Int) : List Int := vput (exc k 0 us).length ++ (marks (exc k 0 us) ++ packed k (lows k us))
/-- the form by a width -/
def fcut (f k : Nat) (us : List Int) : List Int := leb f 8 ++ (k : Int) :: fbod k us
def flen (us : List Int) (k : Nat) : Nat := 9 + octets (us.length * k) + (marks (exc k 0 us)).length + (vput (exc k 0 us).length).length
theorem lows_len (k : Nat) (us : List Int) : (lows k us).length = us.length := by simp [lows]
theorem fcut_len (f k : Nat) (us : List Int) : (fcut f k us).length = flen us k := by
  unfold fcut fbod flen
  simp only [List.length_append, List.length_cons, leb_len, packed_len, lows_len]
  omega
theorem marks_cons (g h : Nat) (e : List (Nat × Nat)) : marks ((g, h) :: e) = vput g ++ (vput h ++ marks e) := by simp [marks]
theorem marks_snoc (e : List (Nat × Nat)) (x : Nat × Nat) : marks (e ++ [x]) = marks e ++ (vput x.1 ++ vput x.2) := by simp [marks]

/-- the first of the least -/
def Best (f : Nat → Nat) (a b k : Nat) : Prop := a ≤ k ∧ k ≤ b ∧ ∀ j, a ≤ j → j ≤ b → f k ≤ f j ∧ (j < k → f k < f j)
def bestTo (f : Nat → Nat) : Nat → Nat
  | 0 => 0
  | n + 1 => if f (n + 1) < f (bestTo f n) then n + 1 else bestTo f n
theorem best_one (f : Nat → Nat) (a : Nat) : Best f a a a := ⟨Nat.le_refl _, Nat.le_refl _, fun j h1 h2 => ⟨by rw [show j = a by omega]; exact Nat.le_refl _, fun h => by omega⟩⟩
theorem best_up {f : Nat → Nat} {b k : Nat} (h : Best f 0 b k) : Best f 0 (b + 1) (if f (b + 1) < f k then b + 1 else k) := by
  obtain ⟨_, h1, h2⟩ := h
  split
  · refine ⟨by omega, by omega, fun j _ hj => ?_⟩
    by_cases e : j = b + 1
    · subst e; exact ⟨Nat.le_refl _, fun h => by omega⟩
    · have := h2 j (by omega) (by omega); omega
  · refine ⟨by omega, by omega, fun j _ hj => ?_⟩
    by_cases e : j = b + 1
    · subst e; exact ⟨by omega, fun h => by omega⟩
    · exact h2 j (by omega) (by omega)
theorem best_down {f : Nat → Nat} {a b k : Nat} (h : Best f (a + 1) b k) : Best f a b (if f a ≤ f k then a else k) := by
  obtain ⟨h0, h1, h2⟩ := h
  split
  · refine ⟨by omega, by omega, fun j h3 hj => ?_⟩
    by_cases e : j = a
    · subst e; exact ⟨Nat.le_refl _, fun h => by omega⟩
    · have := h2 j (by omega) (by omega); exact ⟨by omega, fun h => by omega⟩
  · refine ⟨by omega, by omega, fun j h3 hj => ?_⟩
    by_cases e : j = a
    · subst e; exact ⟨by omega, fun h => by omega⟩
    · exact h2 j (by omega) (by omega)
theorem best_eq {f : Nat → Nat} {a b k k' : Nat} (h : Best f a b k) (h' : Best f a b k') : k = k' := by
  have h1 := h.2.2 k' h'.1 h'.2.1
  have h2 := h'.2.2 k h.1 h.2.1
  rcases Nat.lt_trichotomy k k' with h3 | h3 | h3
  · have := h2.2 h3; omega
  · exact h3
  · have := h1.2 h3; omega
theorem bestTo_best (f : Nat → Nat) : ∀ n, Best f 0 n (bestTo f n)
  | 0 => best_one f 0
  | n + 1 => best_up (bestTo_best f n)
/-- the width by which the form is the shortest -/
def fbest (us : List Int) : Nat := bestTo (flen us) 64
theorem fbest_best (us : List Int) : Best (flen us) 0 64 (fbest us) := bestTo_best _ _
def fform (xs : List Int) : List Int := if 1024 < xs.length then [] else fcut (wu64 (least xs)).toNat (fbest (offsets (least xs) xs)) (offsets (least xs) xs)

/-- the exceptions of bytes: the high parts in their places, how many bytes; the error -/
def fexc (n k : Nat) : Nat → Nat → List Int → List Int → List Int × Nat × Int
  | 0, _, H, _ => (H, 0, 0)
  | e + 1, a, H, b =>
    if (vget 0 b).2.2 ≠ 0 then ([], 0, (vget 0 b).2.2)
    else if n - a ≤ (vget 0 b).1.toNat then ([], 0, 4)
    else if (vget 0 (b.drop (vget 0 b).2.1.toNat)).2.2 ≠ 0 then ([], 0, (vget 0 (b.drop (vget 0 b).2.1.toNat)).2.2)
    else if (vget 0 (b.drop (vget 0 b).2.1.toNat)).1.toNat = 0 ∨ 64 < nbits (vget 0 (b.drop (vget 0 b).2.1.toNat)).1.toNat + k then ([], 0, 4)
    else dlift [] ((vget 0 b).2.1.toNat + (vget 0 (b.drop (vget 0 b).2.1.toNat)).2.1.toNat)
      (fexc n k e (a + (vget 0 b).1.toNat + 1) (H.set (a + (vget 0 b).1.toNat) (((vget 0 (b.drop (vget 0 b).2.1.toNat)).1.toNat : Nat) : Int)) (b.drop ((vget 0 b).2.1.toNat + (vget 0 (b.drop (vget 0 b).2.1.toNat)).2.1.toNat)))
section
variable {n k e a : Nat} {H b : List Int}
theorem fexc_bad1 (h : (vget 0 b).2.2 ≠ 0) : fexc n k (e + 1) a H b = ([], 0, (vget 0 b).2.2) := by rw [fexc, if_pos h]
theorem fexc_bad2 {g m : Nat} (h : vget 0 b = ((g : Int), (m : Int), 0)) (h2 : n - a ≤ g) : fexc n k (e + 1) a H b = ([], 0, 4) := by
  rw [fexc, h]; simp only [Int.toNat_natCast]; rw [if_neg (by simp), if_pos h2]
theorem fexc_bad3 {g m : Nat} (h : vget 0 b = ((g : Int), (m : Int), 0)) (h2 : g < n - a) (h3 : (vget 0 (b.drop m)).2.2 ≠ 0) : fexc n k (e + 1) a H b = ([], 0, (vget 0 (b.drop m)).2.2) := by
  rw [fexc, h]; simp only [Int.toNat_natCast]; rw [if_neg (by simp), if_neg (by omega), if_pos h3]
theorem fexc_bad4 {g m x m2 : Nat} (h : vget 0 b = ((g : Int), (m : Int), 0)) (h2 : g < n - a) (h3 : vget 0 (b.drop m) = ((x : Int), (m2 : Int), 0)) (h4 : x = 0 ∨ 64 < nbits x + k) : fexc n k (e + 1) a H b = ([], 0, 4) := by
  rw [fexc, h]; simp only [Int.toNat_natCast, h3]; rw [if_neg (by simp), if_neg (by omega), if_neg (by simp), if_pos h4]
theorem fexc_step {g m x m2 : Nat} (h : vget 0 b = ((g : Int), (m : Int), 0)) (h2 : g < n - a) (h3 : vget 0 (b.drop m) = ((x : Int), (m2 : Int), 0)) (h4 : 0 < x) (h5 : nbits x + k ≤ 64) :
    fexc n k (e + 1) a H b = dlift [] (m + m2) (fexc n k e (a + g + 1) (H.set (a + g) (x : Int)) (b.drop (m + m2))) := by
  rw [fexc, h]; simp only [Int.toNat_natCast, h3]; rw [if_neg (by simp), if_neg (by omega), if_neg (by simp), if_neg (by omega)]
end
theorem fexc_err (n k : Nat) : ∀ (e a : Nat) (H b : List Int), (fexc n k e a H b).2.2 ≠ 0 → fexc n k e a H b = ([], 0, (fexc n k e a H b).2.2)
  | 0, a, H, b, h => by simp [fexc] at h
  | e + 1, a, H, b, h => by
    rw [fexc] at h ⊢
    by_cases h1 : (vget 0 b).2.2 ≠ 0
    · rw [if_pos h1]
    rw [if_neg h1] at h ⊢
    by_cases h2 : n - a ≤ (vget 0 b).1.toNat
    · rw [if_pos h2]
    rw [if_neg h2] at h ⊢
    by_cases h3 : (vget 0 (b.drop (vget 0 b).2.1.toNat)).2.2 ≠ 0
    · rw [if_pos h3]
    rw [if_neg h3] at h ⊢
    by_cases h4 : (vget 0 (b.drop (vget 0 b).2.1.toNat)).1.toNat = 0 ∨ 64 < nbits (vget 0 (b.drop (vget 0 b).2.1.toNat)).1.toNat + k
    · rw [if_pos h4]
    rw [if_neg h4] at h ⊢
    exact dlift_err h
theorem fexc_len (n k : Nat) : ∀ (e a : Nat) (H b : List Int), (fexc n k e a H b).2.2 = 0 → (fexc n k e a H b).1.length = H.length
  | 0, a, H, b, h => by simp [fexc]
  | e + 1, a, H, b, h => by
    rw [fexc] at h ⊢
    by_cases h1 : (vget 0 b).2.2 ≠ 0
    · rw [if_pos h1] at h; exact absurd h h1
    rw [if_neg h1] at h ⊢
    by_cases h2 : n - a ≤ (vget 0 b).1.toNat
    · rw [if_pos h2] at h; simp at h
    rw [if_neg h2] at h ⊢
    by_cases h3 : (vget 0 (b.drop (vget 0 b).2.1.toNat)).2.2 ≠ 0
    · rw [if_pos h3] at h; exact absurd h h3
    rw [if_neg h3] at h ⊢
    by_cases h4 : (vget 0 (b.drop (vget 0 b).2.1.toNat)).1.toNat = 0 ∨ 64 < nbits (vget 0 (b.drop (vget 0 b).2.1.toNat)).1.toNat + k
    · rw [if_pos h4] at h; simp at h
    rw [if_neg h4] at h ⊢
    unfold dlift at h ⊢
    split at h
    · rename_i h5; exact absurd h h5
    · rename_i h5
      rw [if_neg h5]
      have := fexc_len n k e _ _ _ (by simpa using h5)
      simpa using this
/-- the high parts of bytes -/
def fhighs (n k : Nat) (b : List Int) : List Int × Nat × Int :=
  if (vget 0 b).2.2 ≠ 0 then ([], 0, (vget 0 b).2.2) else if n < (vget 0 b).1.toNat then ([], 0, 7)
  else dlift [] (vget 0 b).2.1.toNat (fexc n k (vget 0 b).1.toNat 0 (List.replicate n 0) (b.drop (vget 0 b).2.1.toNat))
theorem fhighs_get (n k : Nat) {b : List Int} {g m : Nat} (h : vget 0 b = ((g : Int), (m : Int), 0)) :
    fhighs n k b = if n < g then ([], 0, 7) else dlift [] m (fexc n k g 0 (List.replicate n 0) (b.drop m)) := by
  unfold fhighs; rw [h]; simp only [Int.toNat_natCast]; rw [if_neg (by simp)]
/-- high parts and low ones -/
def fjoin (k : Nat) (H L : List Int) : List Int := (List.range L.length).map fun i => H[i]?.getD 0 * 2 ^ k + L[i]?.getD 0
def frun (n : Nat) (ys : List Int) : List Int × Nat × Int :=
  if ys.length < 9 then ([], 0, 1) else if 64 < (ys[8]?.getD 0).toNat then ([], 0, 6)
  else if (fhighs n (ys[8]?.getD 0).toNat (ys.drop 9)).2.2 ≠ 0 then ([], 0, (fhighs n (ys[8]?.getD 0).toNat (ys.drop 9)).2.2)
  else if (unpk (ys[8]?.getD 0).toNat n (ys.drop (9 + (fhighs n (ys[8]?.getD 0).toNat (ys.drop 9)).2.1))).2 ≠ 0 then ([], 0, (unpk (ys[8]?.getD 0).toNat n (ys.drop (9 + (fhighs n (ys[8]?.getD 0).toNat (ys.drop 9)).2.1))).2)
  else (backs (num (ys.take 8)) (fjoin (ys[8]?.getD 0).toNat (fhighs n (ys[8]?.getD 0).toNat (ys.drop 9)).1 (unpk (ys[8]?.getD 0).toNat n (ys.drop (9 + (fhighs n (ys[8]?.getD 0).toNat (ys.drop 9)).2.1))).1), ys.length, 0)
def fdec : List Int → Int → List Int × Int := decOf frun

theorem unpk_packed {k : Nat} {l : List Int} (h : Fitl k l) : unpk k l.length (packed k l) = (l, 0) := by
  have h1 := packed_len k l
  have h2 := nums_packed h
  unfold unpk
  rw [h1, h2, if_neg (by omega), if_neg (by omega), Nat.div_eq_of_lt (pk_lt h), if_neg (by simp), unp_pk h]
theorem unpk_long {k n : Nat} {b : List Int} (h : octets (n * k) < b.length) : unpk k n b = ([], 2) := by
  unfold unpk; rw [if_neg (by omega), if_pos h]
theorem unpk_short {k n : Nat} {b : List Int} (h : b.length < octets (n * k)) : unpk k n b = ([], 1) := by
  unfold unpk; rw [if_pos h]
theorem lows_fit (k : Nat) (us : List Int) : Fitl k (lows k us) := by
  intro u hu
  obtain ⟨x, _, rfl⟩ := List.mem_map.1 hu
  exact ⟨by omega, by rw [Int.toNat_natCast]; exact Nat.mod_lt _ (pow_pos2 k)⟩
theorem fhi_lt {k : Nat} (hk : k ≤ 64) {u : Int} (hu : u.toNat < 2 ^ 64) : fhi k u < 2 ^ (64 - k) := by
  unfold fhi
  rw [Nat.div_lt_iff_lt_mul (pow_pos2 k), ← Nat.pow_add, show 64 - k + k = 64 by omega]; exact hu
theorem exc_top (us : List Int) (h : Fitl 64 us) : ∀ g, exc 64 g us = [] := by
  induction us with
  | nil => intro g; rfl
  | cons u r ih =>
    intro g
    have h1 := (h u (by simp)).2
    rw [exc, if_pos (by unfold fhi; exact Nat.div_eq_of_lt h1)]
    exact ih (fun x hx => h x (by simp [hx])) _
theorem exc_len_le (k : Nat) (us : List Int) : ∀ g, (exc k g us).length ≤ us.length := by
  induction us with
  | nil => intro g; simp [exc]
  | cons u r ih =>
    intro g; rw [exc]
    split
    · have := ih (g + 1); simp; omega
    · have := ih 0; simp; omega
/-- what the exceptions' bytes give -/
theorem fexc_form {k : Nat} (hk : k ≤ 64) {n : Nat} (hn : n ≤ 1024) (r : List Int) : ∀ (us : List Int), Fitl 64 us → ∀ (g a : Nat) (H : List Int), a + g + us.length = n → H.length = n → H.drop (a + g) = List.replicate us.length 0 →
    fexc n k (exc k g us).length a H (marks (exc k g us) ++ r) = (H.take (a + g) ++ us.map (fun u => ((fhi k u : Nat) : Int)), (marks (exc k g us)).length, 0)
  | [], _, g, a, H, h1, h2, h3 => by
    rw [exc]
    simp only [List.length_nil, fexc, marks, List.map_nil, List.flatten_nil, List.append_nil]
    rw [List.take_of_length_le (by simp at h1; omega)]
  | u :: t, hf, g, a, H, h1, h2, h3 => by
    have hft : Fitl 64 t := fun x hx => hf x (by simp [hx])
    have hu := (hf u (by simp)).2
    have hd : H.drop (a + g) = 0 :: List.replicate t.length 0 := by rw [h3]; rfl
    have hlt : a + g < H.length := by rw [h2]; simp at h1; omega
    have hd2 : H.drop (a + g + 1) = List.replicate t.length 0 := by
      have := congrArg (List.drop 1) hd
      rw [List.drop_drop] at this; simpa using this
    have h0 : H[a + g]? = some 0 := by
      have := congrArg (fun l => l[0]?) hd
      simpa using this
    simp only [List.length_cons] at h1
    by_cases hh : fhi k u = 0
    · have e := fexc_form hk hn r t hft (g + 1) a H (by omega) h2 (by rw [← Nat.add_assoc]; exact hd2)
      rw [exc, if_pos hh, e]
      congr 1
      rw [← Nat.add_assoc, List.take_add_one, h0, List.map_cons, hh]; simp
    · have hx := fhi_lt hk hu
      have hxn := nbits_le _ _ hx
      have hx64 : fhi k u < 2 ^ (64 - 7 * 0) := Nat.lt_of_lt_of_le hx (pow_mono2 (by omega))
      obtain ⟨x, hxe⟩ : ∃ x, fhi k u = x := ⟨_, rfl⟩
      rw [exc, if_neg hh, hxe, marks_cons, List.length_cons]
      rw [hxe] at hh hxn hx64
      have hg1 := vget_put g 0 (vput x ++ (marks (exc k 0 t) ++ r)) (by omega) (small_vput (by omega)) (by omega)
      have hg2 := vget_put x 0 (marks (exc k 0 t) ++ r) (by omega) hx64 (by omega)
      have e := fexc_form hk hn r t hft 0 (a + g + 1) (H.set (a + g) (x : Int)) (by omega) (by simpa using h2) (by rw [List.drop_set, if_pos (by omega)]; exact hd2)
      rw [List.append_assoc, List.append_assoc]
      rw [fexc_step (g := g) (m := (vput g).length) (x := x) (m2 := (vput x).length) (by rw [hg1]; simp) (by omega) (by rw [List.drop_left, hg2]; simp) (by omega) (by omega),
        ← List.drop_drop, List.drop_left, List.drop_left, e]
      unfold dlift
      simp only [ne_eq, not_true_eq_false, if_false, List.nil_append, List.length_append, Nat.add_zero, List.map_cons, hxe]
      rw [List.take_add_one, List.getElem?_set_self hlt]
      simp only [List.take_set_of_le (Nat.le_refl _), Option.toList_some, List.append_assoc, List.singleton_append]
      congr 2
      omega
theorem marks_pos {e : List (Nat × Nat)} (h : e ≠ []) : 0 < (marks e).length := by
  cases e with
  | nil => exact absurd rfl h
  | cons x r => obtain ⟨g, h⟩ := x; rw [marks_cons, List.length_append]; have := vput_pos g; omega
theorem take_pred_app {a b : List Int} (h : 0 < b.length) : (a ++ b).take ((a ++ b).length - 1) = a ++ b.take (b.length - 1) := by
  rw [List.length_append, List.take_append, List.take_of_length_le (by omega)]; congr 2; omega
theorem fexc_cut {k : Nat} (hk : k ≤ 64) {n : Nat} (hn : n ≤ 1024) : ∀ (us : List Int), Fitl 64 us → ∀ (g a : Nat) (H : List Int), a + g + us.length = n → exc k g us ≠ [] →
    (fexc n k (exc k g us).length a H ((marks (exc k g us)).take ((marks (exc k g us)).length - 1))).2.2 ≠ 0
  | [], _, g, a, H, h1, h2 => absurd rfl h2
  | u :: t, hf, g, a, H, h1, h2 => by
    have hft : Fitl 64 t := fun x hx => hf x (by simp [hx])
    have hu := (hf u (by simp)).2
    simp only [List.length_cons] at h1
    by_cases hh : fhi k u = 0
    · rw [exc, if_pos hh] at h2 ⊢
      exact fexc_cut hk hn t hft (g + 1) a H (by omega) h2
    · have hx := fhi_lt hk hu
      have hxn := nbits_le _ _ hx
      have hx64 : fhi k u < 2 ^ (64 - 7 * 0) := Nat.lt_of_lt_of_le hx (pow_mono2 (by omega))
      have hx10 := vput_len_u64 (fhi k u) (Nat.lt_of_lt_of_le hx64 (by decide))
      obtain ⟨x, hxe⟩ : ∃ x, fhi k u = x := ⟨_, rfl⟩
      rw [exc, if_neg hh, hxe, marks_cons, List.length_cons]
      rw [hxe] at hh hxn hx64 hx10
      have hvx := vput_pos x
      rw [take_pred_app (by rw [List.length_append]; omega)]
      have hg1 := vget_put g 0 ((vput x ++ marks (exc k 0 t)).take ((vput x ++ marks (exc k 0 t)).length - 1)) (by omega) (small_vput (by omega)) (by omega)
      by_cases he : exc k 0 t = []
      · rw [he]
        have e0 : marks [] = [] := rfl
        rw [he, e0, List.append_nil] at hg1
        rw [e0, List.append_nil]
        have hc := vget_cut x 0 ((vput x).length - 1) (by omega) (by omega)
        rw [fexc_bad3 (g := g) (m := (vput g).length) (by rw [hg1]; simp) (by omega) (by rw [List.drop_left, hc]; decide), List.drop_left, hc]
        decide
      · have hp := marks_pos he
        rw [take_pred_app hp] at hg1 ⊢
        have hg2 := vget_put x 0 ((marks (exc k 0 t)).take ((marks (exc k 0 t)).length - 1)) (by omega) hx64 (by omega)
        rw [fexc_step (g := g) (m := (vput g).length) (x := x) (m2 := (vput x).length) (by rw [hg1]; simp) (by omega) (by rw [List.drop_left, hg2]; simp) (by omega) (by omega),
          ← List.drop_drop, List.drop_left, List.drop_left]
        have := fexc_cut hk hn t hft 0 (a + g + 1) (H.set (a + g) (x : Int)) (by omega) he
        unfold dlift
        rw [if_pos this]; exact this
theorem fhighs_form {k : Nat} (hk : k ≤ 64) {us : List Int} (hn : us.length ≤ 1024) (hf : Fitl 64 us) (r : List Int) :
    fhighs us.length k (vput (exc k 0 us).length ++ (marks (exc k 0 us) ++ r)) = (us.map (fun u => ((fhi k u : Nat) : Int)), (vput (exc k 0 us).length).length + (marks (exc k 0 us)).length, 0) := by
  have hl := exc_len_le k us 0
  have hg := vget_put (exc k 0 us).length 0 (marks (exc k 0 us) ++ r) (by omega) (small_vput (by omega)) (by omega)
  rw [fhighs_get (g := (exc k 0 us).length) (m := (vput (exc k 0 us).length).length) _ _ (by rw [hg]; simp), if_neg (by omega), List.drop_left,
    fexc_form hk hn r us hf 0 0 _ (by omega) (by simp) (by simp)]
  unfold dlift
  simp
theorem fhighs_cut {k : Nat} (hk : k ≤ 64) {us : List Int} (hn : us.length ≤ 1024) (hf : Fitl 64 us) :
    (fhighs us.length k ((vput (exc k 0 us).length ++ marks (exc k 0 us)).take ((vput (exc k 0 us).length ++ marks (exc k 0 us)).length - 1))).2.2 ≠ 0 := by
  have hl := exc_len_le k us 0
  by_cases he : exc k 0 us = []
  · rw [he]
    have : (vput ([] : List (Nat × Nat)).length ++ marks []) = [0] := by decide +kernel
    rw [this]
    simp [fhighs, vget]
  · rw [take_pred_app (marks_pos he)]
    have hg := vget_put (exc k 0 us).length 0 ((marks (exc k 0 us)).take ((marks (exc k 0 us)).length - 1)) (by omega) (small_vput (by omega)) (by omega)
    rw [fhighs_get (g := (exc k 0 us).length) (m := (vput (exc k 0 us).length).length) _ _ (by rw [hg]; simp), if_neg (by omega), List.drop_left]
    have := fexc_cut hk hn us hf 0 0 (List.replicate us.length 0) (by omega) he
    unfold dlift
    rw [if_pos this]; exact this
theorem fjoin_parts (k : Nat) {us : List Int} (h : ∀ u ∈ us, 0 ≤ u) : fjoin k (us.map (fun u => ((fhi k u : Nat) : Int))) (lows k us) = us := by
  unfold fjoin
  rw [lows_len]
  apply List.ext_getElem (by simp)
  intro i h1 h2
  have h3 := h us[i] (List.getElem_mem h2)
  simp only [List.getElem_map, List.getElem_range, lows, List.getElem?_map, List.getElem?_eq_getElem h2, Option.map_some, Option.getD_some]
  unfold fhi flo
  have h4 := Nat.div_add_mod us[i].toNat (2 ^ k)
  have h5 : ((2 ^ k : Nat) : Int) = (2 : Int) ^ k := Int.natCast_pow 2 k
  rw [← h5, ← Int.natCast_mul, Nat.mul_comm]
  omega
/-- bytes with a head -/
theorem frun_head (n f k : Nat) (hf : f < 18446744073709551616) (hk : k ≤ 64) (T : List Int) : frun n (leb f 8 ++ (k : Int) :: T) =
    if (fhighs n k T).2.2 ≠ 0 then ([], 0, (fhighs n k T).2.2)
    else if (unpk k n (T.drop (fhighs n k T).2.1)).2 ≠ 0 then ([], 0, (unpk k n (T.drop (fhighs n k T).2.1)).2)
    else (backs f (fjoin k (fhighs n k T).1 (unpk k n (T.drop (fhighs n k T).2.1)).1), 9 + T.length, 0) := by
  have h8 := leb_len f 8
  have e1 : (leb f 8 ++ (k : Int) :: T).length = 9 + T.length := by simp [h8]; omega
  have e2 : (leb f 8 ++ (k : Int) :: T)[8]?.getD 0 = (k : Int) := by rw [List.getElem?_append_right (by omega), h8]; rfl
  have e4 : ∀ j, (leb f 8 ++ (k : Int) :: T).drop (9 + j) = T.drop j := by
    intro j; rw [List.drop_append, List.drop_of_length_le (by omega), List.nil_append, h8, show 9 + j - 8 = j + 1 by omega, List.drop_succ_cons]
  have e3 := e4 0
  rw [Nat.add_zero, List.drop_zero] at e3
  have e5 : (leb f 8 ++ (k : Int) :: T).take 8 = leb f 8 := List.take_left' h8
  have e6 : num (leb f 8) = (f : Int) := by rw [num_leb, Nat.mod_eq_of_lt (Nat.lt_of_lt_of_le hf (by decide))]
  unfold frun
  rw [e1, e2, e3, e5, e6, if_neg (by omega), Int.toNat_natCast, if_neg (by omega), e4]
theorem offsets_fit (f : Int) (xs : List Int) : Fitl 64 (offsets f xs) := by
  intro u hu
  obtain ⟨x, _, rfl⟩ := List.mem_map.1 hu
  have := wu64_bd (x - f)
  exact ⟨this.1, by have : (2 : Nat) ^ 64 = 18446744073709551616 := by decide
                    omega⟩
theorem fbest_le (us : List Int) (h : Fitl 64 us) : fbest us ≤ 64 ∧ flen us (fbest us) ≤ 10 + 8 * us.length := by
  have h1 := fbest_best us
  have h2 := (h1.2.2 64 (by omega) (by omega)).1
  refine ⟨h1.2.1, Nat.le_trans h2 ?_⟩
  unfold flen
  rw [exc_top us h]
  have : (vput ([] : List (Nat × Nat)).length).length = 1 := by decide +kernel
  rw [this]
  simp only [marks, List.map_nil, List.flatten_nil, List.length_nil]
  unfold octets; omega
theorem flen_ge (us : List Int) (k : Nat) : 10 ≤ flen us k := by unfold flen; have := vput_pos (exc k 0 us).length; omega
theorem fform_eq {xs : List Int} (h : xs.length ≤ 1024) : fform xs = fcut (wu64 (least xs)).toNat (fbest (offsets (least xs) xs)) (offsets (least xs) xs) := by unfold fform; rw [if_neg (by omega)]
theorem backs_wu (f : Int) (us : List Int) : backs (wu64 f) us = backs f us := by
  unfold backs; refine List.map_congr_left fun x _ => ?_
  unfold w64 wu64; omega
theorem pforBacks (xs : List Int) (h : ∀ x ∈ xs, I64 x) (ht : tak tkAll xs = true) : Go.Proofs.Ytkbcmblgieoleaa.Backs tkAll fform fdec xs := by
  have hb : blk xs.length = true := by rw [tak_all] at ht; exact ht
  have hN := of_decide_eq_true hb
  have hfit := offsets_fit (least xs) xs
  have hul : (offsets (least xs) xs).length = xs.length := by simp [offsets]
  have hbb := backs_offsets (least xs) xs h
  have hbw := backs_wu (least xs)
  have hu0 : ∀ u ∈ offsets (least xs) xs, 0 ≤ u := fun u hu => (hfit u hu).1
  have hwf := wu64_bd (least xs)
  have hE : fform xs = fcut (wu64 (least xs)).toNat (fbest (offsets (least xs) xs)) (offsets (least xs) xs) := fform_eq (by omega)
  obtain ⟨us, hus⟩ : ∃ us, offsets (least xs) xs = us := ⟨_, rfl⟩
  rw [hus] at hfit hul hbb hu0 hE
  obtain ⟨hk, hlen⟩ := fbest_le us hfit
  obtain ⟨k, hke⟩ : ∃ k, fbest us = k := ⟨_, rfl⟩
  rw [hke] at hk hlen hE
  obtain ⟨f, hf⟩ := Int.eq_ofNat_of_zero_le hwf.1
  rw [hf, Int.toNat_natCast] at hE
  have hf64 : f < 18446744073709551616 := by omega
  have hbk : backs (f : Int) us = xs := by rw [← hf, hbw, hbb]
  have hge := flen_ge us k
  have hcl := fcut_len f k us
  rw [← hE] at hcl
  have key : ∀ ys : List Int, fdec ys xs.length = (rlist xs.length ys.length (frun xs.length ys).2.1 (frun xs.length ys).2.2 (frun xs.length ys).1, rerr xs.length ys.length (frun xs.length ys).2.1 (frun xs.length ys).2.2) := fun ys => rfl
  have hpl := packed_len k (lows k us)
  rw [lows_len] at hpl
  have bad : ∀ ys : List Int, (frun xs.length ys).2.2 ≠ 0 → (fdec ys xs.length).2 ≠ 0 ∧ (fdec ys xs.length).1 = [] := by
    intro ys h1
    rw [key, (rerr_err hb h1).1, (rerr_err (l := []) hb h1).2]; exact ⟨h1, rfl⟩
  have hbod : fcut f k us = leb f 8 ++ (k : Int) :: fbod k us := rfl
  have hh := fun r => fhighs_form hk (us := us) (by omega) hfit (r := r)
  rw [hul] at hh
  refine ⟨?_, by omega, ?_, by omega, ?_, ?_⟩
  · rw [hE, hbod]
    intro x hx
    rcases List.mem_append.1 hx with hx | hx
    · exact leb_bytes _ _ x hx
    rcases List.mem_cons.1 hx with rfl | hx
    · omega
    unfold fbod at hx
    rcases List.mem_append.1 hx with hx | hx
    · exact vput_bytes _ x hx
    rcases List.mem_append.1 hx with hx | hx
    · unfold marks at hx
      rw [List.mem_flatten] at hx
      obtain ⟨y, hy, hx⟩ := hx
      obtain ⟨z, _, rfl⟩ := List.mem_map.1 hy
      rcases List.mem_append.1 hx with hx | hx <;> exact vput_bytes _ x hx
    · exact packed_bytes _ _ x hx
  · have e := frun_head xs.length f k hf64 hk (fbod k us)
    rw [← hbod, ← hE] at e
    have e2 := hh (packed k (lows k us))
    rw [show vput (exc k 0 us).length ++ (marks (exc k 0 us) ++ packed k (lows k us)) = fbod k us from rfl] at e2
    have e3 : (fbod k us).drop ((vput (exc k 0 us).length).length + (marks (exc k 0 us)).length) = packed k (lows k us) := by
      unfold fbod; rw [← List.drop_drop, List.drop_left, List.drop_left]
    have e4 := unpk_packed (lows_fit k us)
    rw [lows_len, hul] at e4
    rw [e2] at e
    simp only [e3, e4] at e
    rw [if_neg (by simp), if_neg (by simp), fjoin_parts k hu0, hbk] at e
    have e5 : 9 + (fbod k us).length = (fform xs).length := by rw [hE, hbod]; simp [leb_len]; omega
    rw [key, e, e5, (rerr_ok hb rfl (by simp)).1, (rerr_ok (l := []) hb rfl (by simp)).2]
  · apply bad
    have hT : (fform xs).take ((fform xs).length - 1) = leb f 8 ++ (k : Int) :: (fbod k us).take ((fbod k us).length - 1) := by
      have hp : 0 < (fbod k us).length := by unfold fbod; rw [List.length_append]; have := vput_pos (exc k 0 us).length; omega
      rw [hE, hbod, take_pred_app (by simp), List.length_cons, show (fbod k us).length + 1 - 1 = ((fbod k us).length - 1) + 1 by omega, List.take_succ_cons]
    rw [hT, frun_head _ _ _ hf64 hk]
    by_cases h0 : octets (us.length * k) = 0
    · have e0 : packed k (lows k us) = [] := List.eq_nil_of_length_eq_zero (by omega)
      have e1 : fbod k us = vput (exc k 0 us).length ++ marks (exc k 0 us) := by unfold fbod; rw [e0, List.append_nil]
      have e2 := fhighs_cut hk (us := us) (by omega) hfit
      rw [hul, ← e1] at e2
      rw [if_pos e2]; exact e2
    · have e1 : (fbod k us).take ((fbod k us).length - 1) = vput (exc k 0 us).length ++ (marks (exc k 0 us) ++ (packed k (lows k us)).take (octets (us.length * k) - 1)) := by
        unfold fbod
        rw [take_pred_app (by rw [List.length_append]; omega), take_pred_app (by omega), hpl]
      have e2 := hh ((packed k (lows k us)).take (octets (us.length * k) - 1))
      have e3 : unpk k xs.length ((packed k (lows k us)).take (octets (us.length * k) - 1)) = ([], 1) := unpk_short (by rw [List.length_take, hpl, ← hul]; omega)
      rw [e1, e2]
      simp only
      rw [← List.drop_drop, List.drop_left, List.drop_left, e3, if_neg (by simp), if_pos (by decide)]
      decide
  · apply bad
    have hT : fform xs ++ [0] = leb f 8 ++ (k : Int) :: (vput (exc k 0 us).length ++ (marks (exc k 0 us) ++ (packed k (lows k us) ++ [0]))) := by rw [hE, hbod]; simp [fbod]
    have e2 := hh (packed k (lows k us) ++ [0])
    have e3 : unpk k xs.length (packed k (lows k us) ++ [0]) = ([], 2) := unpk_long (by rw [List.length_append, hpl, ← hul]; simp)
    rw [hT, frun_head _ _ _ hf64 hk, e2]
    simp only
    rw [← List.drop_drop, List.drop_left, List.drop_left, e3, if_neg (by simp), if_pos (by decide)]
    decide
theorem fdec_ok (ys : List Int) (N : Nat) (hb : ∀ x ∈ ys, 0 ≤ x ∧ x ≤ 255) : ((fdec ys N).2 = 0 → (fdec ys N).1.length = N ∧ ∀ x ∈ (fdec ys N).1, I64 x) ∧ ((fdec ys N).2 ≠ 0 → (fdec ys N).1 = []) := by
  refine decOf_ok (fun n b hb h => ?_) ys N hb
  unfold frun at h ⊢
  by_cases h1 : b.length < 9
  · rw [if_pos h1] at h; simp at h
  rw [if_neg h1] at h ⊢
  by_cases h2 : 64 < (b[8]?.getD 0).toNat
  · rw [if_pos h2] at h; simp at h
  rw [if_neg h2] at h ⊢
  obtain ⟨k, hk⟩ : ∃ k, (b[8]?.getD 0).toNat = k := ⟨_, rfl⟩
  rw [hk] at h ⊢
  obtain ⟨r, hr⟩ : ∃ r, fhighs n k (b.drop 9) = r := ⟨_, rfl⟩
  rw [hr] at h ⊢
  by_cases h3 : r.2.2 ≠ 0
  · rw [if_pos h3] at h; exact absurd h h3
  rw [if_neg h3] at h ⊢
  obtain ⟨u, hu⟩ : ∃ u, unpk k n (b.drop (9 + r.2.1)) = u := ⟨_, rfl⟩
  rw [hu] at h ⊢
  by_cases h4 : u.2 ≠ 0
  · rw [if_pos h4] at h; exact absurd h h4
  rw [if_neg h4]
  have hul : u.1.length = n := by
    unfold unpk at hu
    repeat' split at hu
    all_goals (subst hu; first | (simp at h4; done) | simp [unp_len])
  refine ⟨by simp [backs, fjoin, hul], fun x hx => ?_⟩
  obtain ⟨y, _, rfl⟩ := List.mem_map.1 hx
  exact w64_bd _
end Go.Cor
