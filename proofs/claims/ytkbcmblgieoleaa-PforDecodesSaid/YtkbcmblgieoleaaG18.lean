/-
  Chapter 11, the plain part: blocks near to one number, there and back.
  Chapter 1, the reference: Need, Unpack.
-/
import Derived.Test.YtkbcmblgieoleaaG16
import Derived.Test.YtkbcmblgieoleaaG17
namespace Go.Cor
open Go
/-- a number's high part, its low part, by a width -/
def fhi (k : Nat) (u : Int) : Nat := u.toNat / 2 ^ k
def flo (k : Nat) (u : Int) : Nat := u.toNat % 2 ^ k
/-- the exceptions: how many numbers stand ahead (g of them already), the high part -/
def exc (k : Nat) : Nat → List Int → List (Nat × Nat)
  | _, [] => []
  | g, u :: r => if fhi k u = 0 then exc k (g + 1) r else (g, fhi k u) :: exc k 0 r
/-- the exceptions' bytes -/
def marks (e : List (Nat × Nat)) : List Int := (e.map fun x => vput x.1 ++ vput x.2).flatten
def lows (k : Nat) (us : List Int) : List Int := us.map fun u => ((flo k u : Nat) : Int)
def fbod (k : Nat) (us : List Int) : List Int := vput (exc k 0 us).length ++ (marks (exc k 0 us) ++ packed k (lows k us))
/-- the form by a width -/
def fcut (f k : Nat) (us : List Int) : List Int := leb f 8 ++ (k : Int) :: fbod k us
def flen (us : List Int) (k : Nat) : Nat := 9 + octets (us.length * k) + (marks (exc k 0 us)).length + (vput (exc k 0 us).length).length
theorem lows_len (k : Nat) (us : List Int) : (lows k us).length = us.length := by simp [lows]
theorem fcut_len (f k : Nat) (us : List Int) : (fcut f k us).length = flen us k := by
  unfold fcut fbod flen
  simp only [List.length_append, List.length_cons, leb_len, packed_len, lows_len]
  omega
theorem marks_cons (g h : Nat) (e : List (Nat × Nat)) : marks ((g, h) :: e) = vput g ++ (vput h ++ marks e) := by simp [marks]
theorem marks_snoc (e : List (Nat × Nat)) (x : Nat × Nat) : marks (e ++ [x]) = marks e ++ (vput x.1 ++ vput x.2) := by simp [marks]

/-- the first of the least -/
def Best (f : Nat → Nat) (a b k : Nat) : Prop := a ≤ k ∧ k ≤ b ∧ ∀ j, a ≤ j → j ≤ b → f k ≤ f j ∧ (j < k → f k < f j)
def bestTo (f : Nat → Nat) : Nat → Nat
  | 0 => 0
  | n + 1 => if f (n + 1) < f (bestTo f n) then n + 1 else bestTo f n
theorem best_one (f : Nat → Nat) (a : Nat) : Best f a a a := ⟨Nat.le_refl _, Nat.le_refl _, fun j h1 h2 => ⟨by rw [show j = a by omega]; exact Nat.le_refl _, fun h => by omega⟩⟩
theorem best_up {f : Nat → Nat} {b k : Nat} (h : Best f 0 b k) : Best f 0 (b + 1) (if f (b + 1) < f k then b + 1 else k) := by
  obtain ⟨_, h1, h2⟩ := h
  split
  · refine ⟨by omega, by omega, fun j _ hj => ?_⟩
    by_cases e : j = b + 1
    · subst e; exact ⟨Nat.le_refl _, fun h => by omega⟩
    · have := h2 j (by omega) (by omega); omega
  · refine ⟨by omega, by omega, fun j _ hj => ?_⟩
    by_cases e : j = b + 1
    · subst e; exact ⟨by omega, fun h => by omega⟩
    · exact h2 j (by omega) (by omega)
theorem best_down {f : Nat → Nat} {a b k : Nat} (h : Best f (a + 1) b k) : Best f a b (if f a ≤ f k then a else k) := by
  obtain ⟨h0, h1, h2⟩ := h
  split
  · refine ⟨by omega, by omega, fun j h3 hj => ?_⟩
    by_cases e : j = a
    · subst e; exact ⟨Nat.le_refl _, fun h => by omega⟩
    · have := h2 j (by omega) (by omega); exact ⟨by omega, fun h => by omega⟩
  · refine ⟨by omega, by omega, fun j h3 hj => ?_⟩
    by_cases e : j = a
    · subst e; exact ⟨by omega, fun h => by omega⟩
    · exact h2 j (by omega) (by omega)
theorem best_eq {f : Nat → Nat} {a b k k' : Nat} (h : Best f a b k) (h' : Best f a b k') : k = k' := by
  have h1 := h.2.2 k' h'.1 h'.2.1
  have h2 := h'.2.2 k h.1 h.2.1
  rcases Nat.lt_trichotomy k k' with h3 | h3 | h3
  · have := h2.2 h3; omega
  · exact h3
  · have := h1.2 h3; omega
theorem bestTo_best (f : Nat → Nat) : ∀ n, Best f 0 n (bestTo f n)
  | 0 => best_one f 0
  | n + 1 => best_up (bestTo_best f n)
/-- the width by which the form is the shortest -/
def fbest (us : List Int) : Nat := bestTo (flen us) 64
theorem fbest_best (us : List Int) : Best (flen us) 0 64 (fbest us) := bestTo_best _ _
def fform (xs : List Int) : List Int := if 1024 < xs.length then [] else fcut (wu64 (least xs)).toNat (fbest (offsets (least xs) xs)) (offsets (least xs) xs)

/-- the exceptions of bytes: the high parts in their places, how many bytes; the error -/
def fexc (n k : Nat) : Nat → Nat → List Int → List Int → List Int × Nat × Int
  | 0, _, H, _ => (H, 0, 0)
  | e + 1, a, H, b =>
    if (vget 0 b).2.2 ≠ 0 then ([], 0, (vget 0 b).2.2)
    else if n - a ≤ (vget 0 b).1.toNat then ([], 0, 4)
    else if (vget 0 (b.drop (vget 0 b).2.1.toNat)).2.2 ≠ 0 then ([], 0, (vget 0 (b.drop (vget 0 b).2.1.toNat)).2.2)
    else if (vget 0 (b.drop (vget 0 b).2.1.toNat)).1.toNat = 0 ∨ 64 < nbits (vget 0 (b.drop (vget 0 b).2.1.toNat)).1.toNat + k then ([], 0, 4)
    else dlift [] ((vget 0 b).2.1.toNat + (vget 0 (b.drop (vget 0 b).2.1.toNat)).2.1.toNat)
      (fexc n k e (a + (vget 0 b).1.toNat + 1) (H.set (a + (vget 0 b).1.toNat) (((vget 0 (b.drop (vget 0 b).2.1.toNat)).1.toNat : Nat) : Int)) (b.drop ((vget 0 b).2.1.toNat + (vget 0 (b.drop (vget 0 b).2.1.toNat)).2.1.toNat)))
section
variable {n k e a : Nat} {H b : List Int}
theorem fexc_bad1 (h : (vget 0 b).2.2 ≠ 0) : fexc n k (e + 1) a H b = ([], 0, (vget 0 b).2.2) := by rw [fexc, if_pos h]
theorem fexc_bad2 {g m : Nat} (h : vget 0 b = ((g : Int), (m : Int), 0)) (h2 : n - a ≤ g) : fexc n k (e + 1) a H b = ([], 0, 4) := by
  rw [fexc, h]; simp only [Int.toNat_natCast]; rw [if_neg (by simp), if_pos h2]
theorem fexc_bad3 {g m : Nat} (h : vget 0 b = ((g : Int), (m : Int), 0)) (h2 : g < n - a) (h3 : (vget 0 (b.drop m)).2.2 ≠ 0) : fexc n k (e + 1) a H b = ([], 0, (vget 0 (b.drop m)).2.2) := by
  rw [fexc, h]; simp only [Int.toNat_natCast]; rw [if_neg (by simp), if_neg (by omega), if_pos h3]
theorem fexc_bad4 {g m x m2 : Nat} (h : vget 0 b = ((g : Int), (m : Int), 0)) (h2 : g < n - a) (h3 : vget 0 (b.drop m) = ((x : Int), (m2 : Int), 0)) (h4 : x = 0 ∨ 64 < nbits x + k) : fexc n k (e + 1) a H b = ([], 0, 4) := by
  rw [fexc, h]; simp only [Int.toNat_natCast, h3]; rw [if_neg (by simp), if_neg (by omega), if_neg (by simp), if_pos h4]
theorem fexc_step {g m x m2 : Nat} (h : vget 0 b = ((g : Int), (m : Int), 0)) (h2 : g < n - a) (h3 : vget 0 (b.drop m) = ((x : Int), (m2 : Int), 0)) (h4 : 0 < x) (h5 : nbits x + k ≤ 64) :
    fexc n k (e + 1) a H b = dlift [] (m + m2) (fexc n k e (a + g + 1) (H.set (a + g) (x : Int)) (b.drop (m + m2))) := by
  rw [fexc, h]; simp only [Int.toNat_natCast, h3]; rw [if_neg (by simp), if_neg (by omega), if_neg (by simp), if_neg (by omega)]
end
theorem fexc_err (n k : Nat) : ∀ (e a : Nat) (H b : List Int), (fexc n k e a H b).2.2 ≠ 0 → fexc n k e a H b = ([], 0, (fexc n k e a H b).2.2)
  | 0, a, H, b, h => by simp [fexc] at h
  | e + 1, a, H, b, h => by
    rw [fexc] at h ⊢
    by_cases h1 : (vget 0 b).2.2 ≠ 0
    · rw [if_pos h1]
    rw [if_neg h1] at h ⊢
    by_cases h2 : n - a ≤ (vget 0 b).1.toNat
    · rw [if_pos h2]
    rw [if_neg h2] at h ⊢
    by_cases h3 : (vget 0 (b.drop (vget 0 b).2.1.toNat)).2.2 ≠ 0
    · rw [if_pos h3]
    rw [if_neg h3] at h ⊢
    by_cases h4 : (vget 0 (b.drop (vget 0 b).2.1.toNat)).1.toNat = 0 ∨ 64 < nbits (vget 0 (b.drop (vget 0 b).2.1.toNat)).1.toNat + k
    · rw [if_pos h4]
    rw [if_neg h4] at h ⊢
    exact dlift_err h
theorem fexc_len (n k : Nat) : ∀ (e a : Nat) (H b : List Int), (fexc n k e a H b).2.2 = 0 → (fexc n k e a H b).1.length = H.length
  | 0, a, H, b, h => by simp [fexc]
  | e + 1, a, H, b, h => by
    rw [fexc] at h ⊢
    by_cases h1 : (vget 0 b).2.2 ≠ 0
    · rw [if_pos h1] at h; exact absurd h h1
    rw [if_neg h1] at h ⊢
    by_cases h2 : n - a ≤ (vget 0 b).1.toNat
    · rw [if_pos h2] at h; simp at h
    rw [if_neg h2] at h ⊢
    by_cases h3 : (vget 0 (b.drop (vget 0 b).2.1.toNat)).2.2 ≠ 0
    · rw [if_pos h3] at h; exact absurd h h3
    rw [if_neg h3] at h ⊢
    by_cases h4 : (vget 0 (b.drop (vget 0 b).2.1.toNat)).1.toNat = 0 ∨ 64 < nbits (vget 0 (b.drop (vget 0 b).2.1.toNat)).1.toNat + k
    · rw [if_pos h4] at h; simp at h
    rw [if_neg h4] at h ⊢
    unfold dlift at h ⊢
    split at h
    · rename_i h5; exact absurd h h5
    · rename_i h5
      rw [if_neg h5]
      have := fexc_len n k e _ _ _ (by simpa using h5)
      simpa using this
/-- the high parts of bytes -/
def fhighs (n k : Nat) (b : List Int) : List Int × Nat × Int :=
  if (vget 0 b).2.2 ≠ 0 then ([], 0, (vget 0 b).2.2) else if n < (vget 0 b).1.toNat then ([], 0, 7)
  else dlift [] (vget 0 b).2.1.toNat (fexc n k (vget 0 b).1.toNat 0 (List.replicate n 0) (b.drop (vget 0 b).2.1.toNat))
theorem fhighs_get (n k : Nat) {b : List Int} {g m : Nat} (h : vget 0 b = ((g : Int), (m : Int), 0)) :
    fhighs n k b = if n < g then ([], 0, 7) else dlift [] m (fexc n k g 0 (List.replicate n 0) (b.drop m)) := by
  unfold fhighs; rw [h]; simp only [Int.toNat_natCast]; rw [if_neg (by simp)]
/-- high parts and low ones -/
def fjoin (k : Nat) (H L : List Int) : List Int := (List.range L.length).map fun i => H[i]?.getD 0 * 2 ^ k + L[i]?.getD 0
def frun (n : Nat) (ys : List Int) : List Int × Nat × Int :=
  if ys.length < 9 then ([], 0, 1) else if 64 < (ys[8]?.getD 0).toNat then ([], 0, 6)
  else if (fhighs n (ys[8]?.getD 0).toNat (ys.drop 9)).2.2 ≠ 0 then ([], 0, (fhighs n (ys[8]?.getD 0).toNat (ys.drop 9)).2.2)
  else if (unpk (ys[8]?.getD 0).toNat n (ys.drop (9 + (fhighs n (ys[8]?.getD 0).toNat (ys.drop 9)).2.1))).2 ≠ 0 then ([], 0, (unpk (ys[8]?.getD 0).toNat n (ys.drop (9 + (fhighs n (ys[8]?.getD 0).toNat (ys.drop 9)).2.1))).2)
  else (backs (num (ys.take 8)) (fjoin (ys[8]?.getD 0).toNat (fhighs n (ys[8]?.getD 0).toNat (ys.drop 9)).1 (unpk (ys[8]?.getD 0).toNat n (ys.drop (9 + (fhighs n (ys[8]?.getD 0).toNat (ys.drop 9)).2.1))).1), ys.length, 0)
def fdec : List Int → Int → List Int × Int := decOf frun

theorem unpk_packed {k : Nat} {l : List Int} (h : Fitl k l) : unpk k l.length (packed k l) = (l, 0) := by
  have h1 := packed_len k l
  have h2 := nums_packed h
  unfold unpk
  rw [h1, h2, if_neg (by omega), if_neg (by omega), Nat.div_eq_of_lt (pk_lt h), if_neg (by simp), unp_pk h]
theorem unpk_long {k n : Nat} {b : List Int} (h : octets (n * k) < b.length) : unpk k n b = ([], 2) := by
  unfold unpk; rw [if_neg (by omega), if_pos h]
theorem unpk_short {k n : Nat} {b : List Int} (h : b.length < octets (n * k)) : unpk k n b = ([], 1) := by
  unfold unpk; rw [if_pos h]
theorem lows_fit (k : Nat) (us : List Int) : Fitl k (lows k us) := by
  intro u hu
  obtain ⟨x, _, rfl⟩ := List.mem_map.1 hu
  exact ⟨by omega, by rw [Int.toNat_natCast]; exact Nat.mod_lt _ (pow_pos2 k)⟩
theorem fhi_lt {k : Nat} (hk : k ≤ 64) {u : Int} (hu : u.toNat < 2 ^ 64) : fhi k u < 2 ^ (64 - k) := by
  unfold fhi
  rw [Nat.div_lt_iff_lt_mul (pow_pos2 k), ← Nat.pow_add, show 64 - k + k = 64 by omega]; exact hu
theorem exc_top (us : List Int) (h : Fitl 64 us) : ∀ g, exc 64 g us = [] := by
  induction us with
  | nil => intro g; rfl
  | cons u r ih =>
    intro g
    have h1 := (h u (by simp)).2
    rw [exc, if_pos (by unfold fhi; exact Nat.div_eq_of_lt h1)]
    exact ih (fun x hx => h x (by simp [hx])) _
theorem exc_len_le (k : Nat) (us : List Int) : ∀ g, (exc k g us).length ≤ us.length := by
  induction us with
  | nil => intro g; simp [exc]
  | cons u r ih =>
    intro g; rw [exc]
    split
    · have := ih (g + 1); simp; omega
    · have := ih 0; simp; omega
/-- what the exceptions' bytes give -/
theorem fexc_form {k : Nat} (hk : k ≤ 64) {n : Nat} (hn : n ≤ 1024) (r : List Int) : ∀ (us : List Int), Fitl 64 us → ∀ (g a : Nat) (H : List Int), a + g + us.length = n → H.length = n → H.drop (a + g) = List.replicate us.length 0 →
    fexc n k (exc k g us).length a H (marks (exc k g us) ++ r) = (H.take (a + g) ++ us.map (fun u => ((fhi k u : Nat) : Int)), (marks (exc k g us)).length, 0)
  | [], _, g, a, H, h1, h2, h3 => by
    rw [exc]
    simp only [List.length_nil, fexc, marks, List.map_nil, List.flatten_nil, List.append_nil]
    rw [List.take_of_length_le (by simp at h1; omega)]
  | u :: t, hf, g, a, H, h1, h2, h3 => by
    have hft : Fitl 64 t := fun x hx => hf x (by simp [hx])
    have hu := (hf u (by simp)).2
    have hd : H.drop (a + g) = 0 :: List.replicate t.length 0 := by rw [h3]; rfl
    have hlt : a + g < H.length := by rw [h2]; simp at h1; omega
    have hd2 : H.drop (a + g + 1) = List.replicate t.length 0 := by
      have := congrArg (List.drop 1) hd
      rw [List.drop_drop] at this; simpa using this
    have h0 : H[a + g]? = some 0 := by
      have := congrArg (fun l => l[0]?) hd
      simpa using this
    simp only [List.length_cons] at h1
    by_cases hh : fhi k u = 0
    · have e := fexc_form hk hn r t hft (g + 1) a H (by omega) h2 (by rw [← Nat.add_assoc]; exact hd2)
      rw [exc, if_pos hh, e]
      congr 1
      rw [← Nat.add_assoc, List.take_add_one, h0, List.map_cons, hh]; simp
    · have hx := fhi_lt hk hu
      have hxn := nbits_le _ _ hx
      have hx64 : fhi k u < 2 ^ (64 - 7 * 0) := Nat.lt_of_lt_of_le hx (pow_mono2 (by omega))
      obtain ⟨x, hxe⟩ : ∃ x, fhi k u = x := ⟨_, rfl⟩
      rw [exc, if_neg hh, hxe, marks_cons, List.length_cons]
      rw [hxe] at hh hxn hx64
      have hg1 := vget_put g 0 (vput x ++ (marks (exc k 0 t) ++ r)) (by omega) (small_vput (by omega)) (by omega)
      have hg2 := vget_put x 0 (marks (exc k 0 t) ++ r) (by omega) hx64 (by omega)
      have e := fexc_form hk hn r t hft 0 (a + g + 1) (H.set (a + g) (x : Int)) (by omega) (by simpa using h2) (by rw [List.drop_set, if_pos (by omega)]; exact hd2)
      rw [List.append_assoc, List.append_assoc]
      rw [fexc_step (g := g) (m := (vput g).length) (x := x) (m2 := (vput x).length) (by rw [hg1]; simp) (by omega) (by rw [List.drop_left, hg2]; simp) (by omega) (by omega),
        ← List.drop_drop, List.drop_left, List.drop_left, e]
      unfold dlift
      simp only [ne_eq, not_true_eq_false, if_false, List.nil_append, List.length_append, Nat.add_zero, List.map_cons, hxe]
      rw [List.take_add_one, List.getElem?_set_self hlt]
      simp only [List.take_set_of_le (Nat.le_refl _), Option.toList_some, List.append_assoc, List.singleton_append]
      congr 2
      omega
theorem marks_pos {e : List (Nat × Nat)} (h : e ≠ []) : 0 < (marks e).length := by
  cases e with
  | nil => exact absurd rfl h
  | cons x r => obtain ⟨g, h⟩ := x; rw [marks_cons, List.length_append]; have := vput_pos g; omega
theorem take_pred_app {a b : List Int} (h : 0 < b.length) : (a ++ b).take ((a ++ b).length - 1) = a ++ b.take (b.length - 1) := by
  rw [List.length_append, List.take_append, List.take_of_length_le (by omega)]; congr 2; omega
theorem fexc_cut {k : Nat} (hk : k ≤ 64) {n : Nat} (hn : n ≤ 1024) : ∀ (us : List Int), Fitl 64 us → ∀ (g a : Nat) (H : List Int), a + g + us.length = n → exc k g us ≠ [] →
    (fexc n k (exc k g us).length a H ((marks (exc k g us)).take ((marks (exc k g us)).length - 1))).2.2 ≠ 0
  | [], _, g, a, H, h1, h2 => absurd rfl h2
  | u :: t, hf, g, a, H, h1, h2 => by
    have hft : Fitl 64 t := fun x hx => hf x (by simp [hx])
    have hu := (hf u (by simp)).2
    simp only [List.length_cons] at h1
    by_cases hh : fhi k u = 0
    · rw [exc, if_pos hh] at h2 ⊢
      exact fexc_cut hk hn t hft (g + 1) a H (by omega) h2
    · have hx := fhi_lt hk hu
      have hxn := nbits_le _ _ hx
      have hx64 : fhi k u < 2 ^ (64 - 7 * 0) := Nat.lt_of_lt_of_le hx (pow_mono2 (by omega))
      have hx10 := vput_len_u64 (fhi k u) (Nat.lt_of_lt_of_le hx64 (by decide))
      obtain ⟨x, hxe⟩ : ∃ x, fhi k u = x := ⟨_, rfl⟩
      rw [exc, if_neg hh, hxe, marks_cons, List.length_cons]
      rw [hxe] at hh hxn hx64 hx10
      have hvx := vput_pos x
      rw [take_pred_app (by rw [List.length_append]; omega)]
      have hg1 := vget_put g 0 ((vput x ++ marks (exc k 0 t)).take ((vput x ++ marks (exc k 0 t)).length - 1)) (by omega) (small_vput (by omega)) (by omega)
      by_cases he : exc k 0 t = []
      · rw [he]
        have e0 : marks [] = [] := rfl
        rw [he, e0, List.append_nil] at hg1
        rw [e0, List.append_nil]
        have hc := vget_cut x 0 ((vput x).length - 1) (by omega) (by omega)
        rw [fexc_bad3 (g := g) (m := (vput g).length) (by rw [hg1]; simp) (by omega) (by rw [List.drop_left, hc]; decide), List.drop_left, hc]
        decide
      · have hp := marks_pos he
        rw [take_pred_app hp] at hg1 ⊢
        have hg2 := vget_put x 0 ((marks (exc k 0 t)).take ((marks (exc k 0 t)).length - 1)) (by omega) hx64 (by omega)
        rw [fexc_step (g := g) (m := (vput g).length) (x := x) (m2 := (vput x).length) (by rw [hg1]; simp) (by omega) (by rw [List.drop_left, hg2]; simp) (by omega) (by omega),
          ← List.drop_drop, List.drop_left, List.drop_left]
        have := fexc_cut hk hn t hft 0 (a + g + 1) (H.set (a + g) (x : Int)) (by omega) he
        unfold dlift
        rw [if_pos this]; exact this
theorem fhighs_form {k : Nat} (hk : k ≤ 64) {us : List Int} (hn : us.length ≤ 1024) (hf : Fitl 64 us) (r : List Int) :
    fhighs us.length k (vput (exc k 0 us).length ++ (marks (exc k 0 us) ++ r)) = (us.map (fun u => ((fhi k u : Nat) : Int)), (vput (exc k 0 us).length).length + (marks (exc k 0 us)).length, 0) := by
  have hl := exc_len_le k us 0
  have hg := vget_put (exc k 0 us).length 0 (marks (exc k 0 us) ++ r) (by omega) (small_vput (by omega)) (by omega)
  rw [fhighs_get (g := (exc k 0 us).length) (m := (vput (exc k 0 us).length).length) _ _ (by rw [hg]; simp), if_neg (by omega), List.drop_left,
    fexc_form hk hn r us hf 0 0 _ (by omega) (by simp) (by simp)]
  unfold dlift
  simp
theorem fhighs_cut {k : Nat} (hk : k ≤ 64) {us : List Int} (hn : us.length ≤ 1024) (hf : Fitl 64 us) :
    (fhighs us.length k ((vput (exc k 0 us).length ++ marks (exc k 0 us)).take ((vput (exc k 0 us).length ++ marks (exc k 0 us)).length - 1))).2.2 ≠ 0 := by
  have hl := exc_len_le k us 0
  by_cases he : exc k 0 us = []
  · rw [he]
    have : (vput ([] : List (Nat × Nat)).length ++ marks []) = [0] := by decide +kernel
    rw [this]
    simp [fhighs, vget]
  · rw [take_pred_app (marks_pos he)]
    have hg := vget_put (exc k 0 us).length 0 ((marks (exc k 0 us)).take ((marks (exc k 0 us)).length - 1)) (by omega) (small_vput (by omega)) (by omega)
    rw [fhighs_get (g := (exc k 0 us).length) (m := (vput (exc k 0 us).length).length) _ _ (by rw [hg]; simp), if_neg (by omega), List.drop_left]
    have := fexc_cut hk hn us hf 0 0 (List.replicate us.length 0) (by omega) he
    unfold dlift
    rw [if_pos this]; exact this
theorem fjoin_parts (k : Nat) {us : List Int} (h : ∀ u ∈ us, 0 ≤ u) : fjoin k (us.map (fun u => ((fhi k u : Nat) : Int))) (lows k us) = us := by
  unfold fjoin
  rw [lows_len]
  apply List.ext_getElem (by simp)
  intro i h1 h2
  have h3 := h us[i] (List.getElem_mem h2)
  simp only [List.getElem_map, List.getElem_range, lows, List.getElem?_map, List.getElem?_eq_getElem h2, Option.map_some, Option.getD_some]
  unfold fhi flo
  have h4 := Nat.div_add_mod us[i].toNat (2 ^ k)
  have h5 : ((2 ^ k : Nat) : Int) = (2 : Int) ^ k := Int.natCast_pow 2 k
  rw [← h5, ← Int.natCast_mul, Nat.mul_comm]
  omega
/-- bytes with a head -/
theorem frun_head (n f k : Nat) (hf : f < 18446744073709551616) (hk : k ≤ 64) (T : List Int) : frun n (leb f 8 ++ (k : Int) :: T) =
    if (fhighs n k T).2.2 ≠ 0 then ([], 0, (fhighs n k T).2.2)
    else if (unpk k n (T.drop (fhighs n k T).2.1)).2 ≠ 0 then ([], 0, (unpk k n (T.drop (fhighs n k T).2.1)).2)
    else (backs f (fjoin k (fhighs n k T).1 (unpk k n (T.drop (fhighs n k T).2.1)).1), 9 + T.length, 0) := by
  have h8 := leb_len f 8
  have e1 : (leb f 8 ++ (k : Int) :: T).length = 9 + T.length := by simp [h8]; omega
  have e2 : (leb f 8 ++ (k : Int) :: T)[8]?.getD 0 = (k : Int) := by rw [List.getElem?_append_right (by omega), h8]; rfl
  have e4 : ∀ j, (leb f 8 ++ (k : Int) :: T).drop (9 + j) = T.drop j := by
    intro j; rw [List.drop_append, List.drop_of_length_le (by omega), List.nil_append, h8, show 9 + j - 8 = j + 1 by omega, List.drop_succ_cons]
  have e3 := e4 0
  rw [Nat.add_zero, List.drop_zero] at e3
  have e5 : (leb f 8 ++ (k : Int) :: T).take 8 = leb f 8 := List.take_left' h8
  have e6 : num (leb f 8) = (f : Int) := by rw [num_leb, Nat.mod_eq_of_lt (Nat.lt_of_lt_of_le hf (by decide))]
  unfold frun
  rw [e1, e2, e3, e5, e6, if_neg (by omega), Int.toNat_natCast, if_neg (by omega), e4]
theorem offsets_fit (f : Int) (xs : List Int) : Fitl 64 (offsets f xs) := by
  intro u hu
  obtain ⟨x, _, rfl⟩ := List.mem_map.1 hu
  have := wu64_bd (x - f)
  exact ⟨this.1, by have : (2 : Nat) ^ 64 = 18446744073709551616 := by decide
                    omega⟩
theorem fbest_le (us : List Int) (h : Fitl 64 us) : fbest us ≤ 64 ∧ flen us (fbest us) ≤ 10 + 8 * us.length := by
  have h1 := fbest_best us
  have h2 := (h1.2.2 64 (by omega) (by omega)).1
  refine ⟨h1.2.1, Nat.le_trans h2 ?_⟩
  unfold flen
  rw [exc_top us h]
  have : (vput ([] : List (Nat × Nat)).length).length = 1 := by decide +kernel
  rw [this]
  simp only [marks, List.map_nil, List.flatten_nil, List.length_nil]
  unfold octets; omega
theorem flen_ge (us : List Int) (k : Nat) : 10 ≤ flen us k := by unfold flen; have := vput_pos (exc k 0 us).length; omega
theorem fform_eq {xs : List Int} (h : xs.length ≤ 1024) : fform xs = fcut (wu64 (least xs)).toNat (fbest (offsets (least xs) xs)) (offsets (least xs) xs) := by unfold fform; rw [if_neg (by omega)]
theorem backs_wu (f : Int) (us : List Int) : backs (wu64 f) us = backs f us := by
  unfold backs; refine List.map_congr_left fun x _ => ?_
  unfold w64 wu64; omega
theorem pforBacks (xs : List Int) (h : ∀ x ∈ xs, I64 x) (ht : tak tkAll xs = true) : Go.Proofs.Ytkbcmblgieoleaa.Backs tkAll fform fdec xs := by
  have hb : blk xs.length = true := by rw [tak_all] at ht; exact ht
  have hN := of_decide_eq_true hb
  have hfit := offsets_fit (least xs) xs
  have hul : (offsets (least xs) xs).length = xs.length := by simp [offsets]
  have hbb := backs_offsets (least xs) xs h
  have hbw := backs_wu (least xs)
  have hu0 : ∀ u ∈ offsets (least xs) xs, 0 ≤ u := fun u hu => (hfit u hu).1
  have hwf := wu64_bd (least xs)
  have hE : fform xs = fcut (wu64 (least xs)).toNat (fbest (offsets (least xs) xs)) (offsets (least xs) xs) := fform_eq (by omega)
  obtain ⟨us, hus⟩ : ∃ us, offsets (least xs) xs = us := ⟨_, rfl⟩
  rw [hus] at hfit hul hbb hu0 hE
  obtain ⟨hk, hlen⟩ := fbest_le us hfit
  obtain ⟨k, hke⟩ : ∃ k, fbest us = k := ⟨_, rfl⟩
  rw [hke] at hk hlen hE
  obtain ⟨f, hf⟩ := Int.eq_ofNat_of_zero_le hwf.1
  rw [hf, Int.toNat_natCast] at hE
  have hf64 : f < 18446744073709551616 := by omega
  have hbk : backs (f : Int) us = xs := by rw [← hf, hbw, hbb]
  have hge := flen_ge us k
  have hcl := fcut_len f k us
  rw [← hE] at hcl
  have key : ∀ ys : List Int, fdec ys xs.length = (rlist xs.length ys.length (frun xs.length ys).2.1 (frun xs.length ys).2.2 (frun xs.length ys).1, rerr xs.length ys.length (frun xs.length ys).2.1 (frun xs.length ys).2.2) := fun ys => rfl
  have hpl := packed_len k (lows k us)
  rw [lows_len] at hpl
  have bad : ∀ ys : List Int, (frun xs.length ys).2.2 ≠ 0 → (fdec ys xs.length).2 ≠ 0 ∧ (fdec ys xs.length).1 = [] := by
    intro ys h1
    rw [key, (rerr_err hb h1).1, (rerr_err (l := []) hb h1).2]; exact ⟨h1, rfl⟩
  have hbod : fcut f k us = leb f 8 ++ (k : Int) :: fbod k us := rfl
  have hh := fun r => fhighs_form hk (us := us) (by omega) hfit (r := r)
  rw [hul] at hh
  refine ⟨?_, by omega, ?_, by omega, ?_, ?_⟩
  · rw [hE, hbod]
    intro x hx
    rcases List.mem_append.1 hx with hx | hx
    · exact leb_bytes _ _ x hx
    rcases List.mem_cons.1 hx with rfl | hx
    · omega
    unfold fbod at hx
    rcases List.mem_append.1 hx with hx | hx
    · exact vput_bytes _ x hx
    rcases List.mem_append.1 hx with hx | hx
    · unfold marks at hx
      rw [List.mem_flatten] at hx
      obtain ⟨y, hy, hx⟩ := hx
      obtain ⟨z, _, rfl⟩ := List.mem_map.1 hy
      rcases List.mem_append.1 hx with hx | hx <;> exact vput_bytes _ x hx
    · exact packed_bytes _ _ x hx
  · have e := frun_head xs.length f k hf64 hk (fbod k us)
    rw [← hbod, ← hE] at e
    have e2 := hh (packed k (lows k us))
    rw [show vput (exc k 0 us).length ++ (marks (exc k 0 us) ++ packed k (lows k us)) = fbod k us from rfl] at e2
    have e3 : (fbod k us).drop ((vput (exc k 0 us).length).length + (marks (exc k 0 us)).length) = packed k (lows k us) := by
      unfold fbod; rw [← List.drop_drop, List.drop_left, List.drop_left]
    have e4 := unpk_packed (lows_fit k us)
    rw [lows_len, hul] at e4
    rw [e2] at e
    simp only [e3, e4] at e
    rw [if_neg (by simp), if_neg (by simp), fjoin_parts k hu0, hbk] at e
    have e5 : 9 + (fbod k us).length = (fform xs).length := by rw [hE, hbod]; simp [leb_len]; omega
    rw [key, e, e5, (rerr_ok hb rfl (by simp)).1, (rerr_ok (l := []) hb rfl (by simp)).2]
  · apply bad
    have hT : (fform xs).take ((fform xs).length - 1) = leb f 8 ++ (k : Int) :: (fbod k us).take ((fbod k us).length - 1) := by
      have hp : 0 < (fbod k us).length := by unfold fbod; rw [List.length_append]; have := vput_pos (exc k 0 us).length; omega
      rw [hE, hbod, take_pred_app (by simp), List.length_cons, show (fbod k us).length + 1 - 1 = ((fbod k us).length - 1) + 1 by omega, List.take_succ_cons]
    rw [hT, frun_head _ _ _ hf64 hk]
    by_cases h0 : octets (us.length * k) = 0
    · have e0 : packed k (lows k us) = [] := List.eq_nil_of_length_eq_zero (by omega)
      have e1 : fbod k us = vput (exc k 0 us).length ++ marks (exc k 0 us) := by unfold fbod; rw [e0, List.append_nil]
      have e2 := fhighs_cut hk (us := us) (by omega) hfit
      rw [hul, ← e1] at e2
      rw [if_pos e2]; exact e2
    · have e1 : (fbod k us).take ((fbod k us).length - 1) = vput (exc k 0 us).length ++ (marks (exc k 0 us) ++ (packed k (lows k us)).take (octets (us.length * k) - 1)) := by
        unfold fbod
        rw [take_pred_app (by rw [List.length_append]; omega), take_pred_app (by omega), hpl]
      have e2 := hh ((packed k (lows k us)).take (octets (us.length * k) - 1))
      have e3 : unpk k xs.length ((packed k (lows k us)).take (octets (us.length * k) - 1)) = ([], 1) := unpk_short (by rw [List.length_take, hpl, ← hul]; omega)
      rw [e1, e2]
      simp only
      rw [← List.drop_drop, List.drop_left, List.drop_left, e3, if_neg (by simp), if_pos (by decide)]
      decide
  · apply bad
    have hT : fform xs ++ [0] = leb f 8 ++ (k : Int) :: (vput (exc k 0 us).length ++ (marks (exc k 0 us) ++ (packed k (lows k us) ++ [0]))) := by rw [hE, hbod]; simp [fbod]
    have e2 := hh (packed k (lows k us) ++ [0])
    have e3 : unpk k xs.length (packed k (lows k us) ++ [0]) = ([], 2) := unpk_long (by rw [List.length_append, hpl, ← hul]; simp)
    rw [hT, frun_head _ _ _ hf64 hk, e2]
    simp only
    rw [← List.drop_drop, List.drop_left, List.drop_left, e3, if_neg (by simp), if_pos (by decide)]
    decide
theorem fdec_ok (ys : List Int) (N : Nat) (hb : ∀ x ∈ ys, 0 ≤ x ∧ x ≤ 255) : ((fdec ys N).2 = 0 → (fdec ys N).1.length = N ∧ ∀ x ∈ (fdec ys N).1, I64 x) ∧ ((fdec ys N).2 ≠ 0 → (fdec ys N).1 = []) := by
  refine decOf_ok (fun n b hb h => ?_) ys N hb
  unfold frun at h ⊢
  by_cases h1 : b.length < 9
  · rw [if_pos h1] at h; simp at h
  rw [if_neg h1] at h ⊢
  by_cases h2 : 64 < (b[8]?.getD 0).toNat
  · rw [if_pos h2] at h; simp at h
  rw [if_neg h2] at h ⊢
  obtain ⟨k, hk⟩ : ∃ k, (b[8]?.getD 0).toNat = k := ⟨_, rfl⟩
  rw [hk] at h ⊢
  obtain ⟨r, hr⟩ : ∃ r, fhighs n k (b.drop 9) = r := ⟨_, rfl⟩
  rw [hr] at h ⊢
  by_cases h3 : r.2.2 ≠ 0
  · rw [if_pos h3] at h; exact absurd h h3
  rw [if_neg h3] at h ⊢
  obtain ⟨u, hu⟩ : ∃ u, unpk k n (b.drop (9 + r.2.1)) = u := ⟨_, rfl⟩
  rw [hu] at h ⊢
  by_cases h4 : u.2 ≠ 0
  · rw [if_pos h4] at h; exact absurd h h4
  rw [if_neg h4]
  have hul : u.1.length = n := by
    unfold unpk at hu
    repeat' split at hu
    all_goals (subst hu; first | (simp at h4; done) | simp [unp_len])
  refine ⟨by simp [backs, fjoin, hul], fun x hx => ?_⟩
  obtain ⟨y, _, rfl⟩ := List.mem_map.1 hx
  exact w64_bd _
end Go.Cor

namespace Go.Cor
theorem wrap_mul {a b m B : Nat} (h : a * b = m) (hb : m ≤ B) (hB : B ≤ 1000000000) : IntKind.i64.wrap ((a : Int) * (b : Int)) = (m : Int) := by
  rw [show (a : Int) * (b : Int) = ((a * b : Nat) : Int) by simp, h]
  exact wrapi64_in _ (by omega) (by omega)
theorem tail_step {V s j : Nat} (h : V / 2 ^ s % 2 ^ j = 0) (h2 : ¬ V / 2 ^ (s + j) % 2 = 1) : V / 2 ^ s % 2 ^ (j + 1) = 0 := by
  rw [Nat.pow_succ, Nat.mod_mul, h, Nat.div_div_eq_div_mul, ← Nat.pow_add]
  have : V / 2 ^ (s + j) % 2 = 0 := by omega
  rw [this]; simp
theorem tail_set {V s j : Nat} (h : V / 2 ^ (s + j) % 2 = 1) : V / 2 ^ s ≠ 0 := by
  intro e
  rw [Nat.pow_add, ← Nat.div_div_eq_div_mul, e] at h
  simp at h
end Go.Cor
namespace Go.Proofs.Ytkbcmblgieoleaa
open Go.RowKit Go.Cor Go.Free

theorem rneed_any (n k : Nat) (hn : n ≤ 1024) (hk : k ≤ 64) (w : World) : Calls Try.prog 54 #[.int .i64 n, .int .i64 k] w fun e w' => e = .returned (.int .i64 (octets (n * k) : Nat)) ∧ w = w' := by
  have hw := fun w => rwide_any (k : Int) w
  rw [show decide (0 ≤ (k : Int) ∧ (k : Int) ≤ 64) = true by simp; omega] at hw
  have HW := Lib.hid hw
  have hq : n * k ≤ 1024 * 64 := Nat.mul_le_mul hn hk
  obtain ⟨q, hqe⟩ : ∃ q, n * k = q := ⟨_, rfl⟩
  have hm := wrap_mul hqe (B := 65536) (by omega) (by omega)
  rw [hqe] at hq
  rw [hqe]
  clear hw hqe
  go_enter Try.func54, Try.ntmps54
  go_wp2_with fail
  refine (HW.out _).mono ?_
  rintro e w' ⟨rfl, rfl⟩
  go_wp2
  go_ret
  exact ⟨ret_i (by unfold octets; omega), rfl⟩

set_option maxRecDepth 100000 in
set_option maxHeartbeats 4000000 in
theorem refUnpack_any (A : Option Addr) (m c : Nat) (xs : List Int) (k n : Nat) (w : World) (h : Rd w .u8 A m c xs) (hb : By xs) (hm : m ≤ 100000) (hn : n ≤ 1024) (hk : k ≤ 64) :
    Calls Try.prog 55 #[.slice A m c, .int .i64 k, .int .i64 n] w (RetPair w.heap.size 32 .u64 w (unpk k n xs)) := by
  have hw := fun w => rwide_any (k : Int) w
  rw [show decide (0 ≤ (k : Int) ∧ (k : Int) ≤ 64) = true by simp; omega] at hw
  have hnd := fun w => rneed_any n k hn hk w
  have hlen := h.len
  have hU : unpk k n xs = if m < octets (n * k) then ([], 1) else if octets (n * k) < m then ([], 2) else if nums xs / 2 ^ (k * n) ≠ 0 then ([], 3) else (unp k n (nums xs), 0) := by unfold unpk; rw [hlen]
  have hN : octets (n * k) * 8 < n * k + 8 ∧ n * k ≤ octets (n * k) * 8 := by unfold octets; omega
  have hnk : n * k ≤ 1024 * 64 := Nat.mul_le_mul hn hk
  obtain ⟨q, hq⟩ : ∃ q, octets (n * k) = q := ⟨_, rfl⟩
  rw [hq] at hnd hU hN
  have HW := Lib.hid hw
  have HND := Lib.hid hnd
  have H := Lib.hid h
  have HB := Lib.hid hb
  have HU := Lib.hid hU
  have HN := Lib.hid hN
  have HNK := Lib.hid hnk
  clear h hw hb hnd hlen hU hq hN hnk
  by_cases h1 : m < q
  · go_enter Try.func55, Try.ntmps55
    go_wp2_with fail
    refine (HW.out _).mono ?_
    rintro e w' ⟨rfl, rfl⟩
    go_wp2_with fail
    refine (HND.out _).mono ?_
    rintro e w' ⟨rfl, rfl⟩
    go_wp2
    go_ret2
    exact ⟨none, 0, 0, by rw [HU.out, if_pos h1]; rfl, by rw [HU.out, if_pos h1]; exact owns_nil _ _ _ _, Below.refl _ _⟩
  by_cases h2 : q < m
  · go_enter Try.func55, Try.ntmps55
    go_wp2_with fail
    refine (HW.out _).mono ?_
    rintro e w' ⟨rfl, rfl⟩
    go_wp2_with fail
    refine (HND.out _).mono ?_
    rintro e w' ⟨rfl, rfl⟩
    go_wp2_with fail
    refine (HND.out _).mono ?_
    rintro e w' ⟨rfl, rfl⟩
    go_wp2
    go_ret2
    exact ⟨none, 0, 0, by rw [HU.out, if_neg h1, if_pos h2]; rfl, by rw [HU.out, if_neg h1, if_pos h2]; exact owns_nil _ _ _ _, Below.refl _ _⟩
  obtain rfl : q = m := by omega
  obtain ⟨s, hs⟩ : ∃ s, n * k = s := ⟨_, rfl⟩
  have hsN := HN.out
  have hsK := HNK.out
  rw [hs] at hsN hsK
  have hms := wrap_mul hs (B := 65536) (by omega) (by omega)
  have HS := Lib.hid hs
  have HUU := Lib.hid (show unpk k n xs = if nums xs / 2 ^ s ≠ 0 then ([], 3) else (unp k n (nums xs), 0) by rw [HU.out, if_neg h1, if_neg h2, Nat.mul_comm k n, hs])
  clear HU HN HNK h1 h2 hs
  go_enter Try.func55, Try.ntmps55
  go_wp2_with fail
  refine (HW.out _).mono ?_
  rintro e w' ⟨rfl, rfl⟩
  go_wp2_with fail
  refine (HND.out _).mono ?_
  rintro e w' ⟨rfl, rfl⟩
  go_wp2_with fail
  refine (HND.out _).mono ?_
  rintro e w' ⟨rfl, rfl⟩
  go_wp2_with fail
  go_loopg [8, 9] n (fun g v8 v9 wr => ∃ i : Nat, v9 = .int .i64 i ∧ g = n - i ∧ i ≤ n ∧ ∃ A' c', v8 = .slice A' i c' ∧ Hid (Owns wr w.heap.size 32 .u64 A' i c' (unp k i (nums xs)) ∧ Below w.heap.size w wr))
  case atStart => exact ⟨0, rfl, by omega, by omega, none, 0, rfl, Lib.hid ⟨owns_nil _ _ _ _, Below.refl _ _⟩⟩
  case round =>
    obtain ⟨i, rfl, rfl, hi, A', c', rfl, hI⟩ := hrel
    by_cases hlt : i < n
    · have hik : i * k + k ≤ s := by have h3 : (i + 1) * k ≤ n * k := Nat.mul_le_mul_right _ (by omega); rw [HS.out, Nat.add_mul, Nat.one_mul] at h3; exact h3
      have hnum := fun wr (hb : Below w.heap.size w wr) => refNum01_any A q c xs (i * k) k wr (H.out.below hb) HB.out (by omega) hk hm
      obtain ⟨t, ht⟩ : ∃ t, i * k = t := ⟨_, rfl⟩
      have hmt := wrap_mul ht (B := 65536) (by omega) (by omega)
      rw [ht] at hnum hik
      have hsn := unp_snoc k i (nums xs)
      rw [Nat.mul_comm k i, ht] at hsn
      obtain ⟨v, hv⟩ : ∃ v, nums xs / 2 ^ t % 2 ^ k = v := ⟨_, rfl⟩
      rw [hv] at hsn hnum
      have HSN := Lib.hid hsn
      have HNU := Lib.hid hnum
      clear hnum hsn hv ht
      go_wp2_with fail
      refine (HNU.out _ hI.out.2).mono ?_
      rintro e w' ⟨rfl, rfl⟩
      go_wp2_with (at_builtin; refine wpList_append_r rfl rfl elemU64 (hI.out.1.alloc _) rfl (RdV.one (Box.new _ _ _)) rfl one_one (by omega) (by omega) (by have := hI.out.2.size; simp; omega) ?_; intro A2 c2 w2 hown hg _)
      go_roundg (n - (i + 1))
      case measure => omega
      case rel => exact ⟨i + 1, by go_num, rfl, by omega, A2, c2, rfl, Lib.hid ⟨by rw [← HSN.out]; exact owns_snoc hown, below_grown (hI.out.2.alloc hI.out.2.size _) (hI.out.1.alloc _) hg (by have := hI.out.2.size; simp; omega)⟩⟩
    · obtain rfl : i = n := by omega
      have HO := Lib.hid hI.out.1
      have HBW := Lib.hid hI.out.2
      clear hI
      obtain ⟨wo, rfl⟩ : ∃ wo, wo = wr := ⟨_, rfl⟩
      have H2 := Lib.hid (H.out.below HBW.out)
      have hn8 := nums_lt HB.out
      rw [H.out.len, two8] at hn8
      have HN8 := Lib.hid hn8
      clear hn8
      go_wp2_with fail
      go_loopg [10] (8 * q - s) (fun g v10 wr => ∃ j : Nat, v10 = .int .i64 ((s + j : Nat) : Int) ∧ s + j ≤ 8 * q ∧ g = 8 * q - (s + j) ∧ wo = wr ∧ Hid (nums xs / 2 ^ s % 2 ^ j = 0))
      case atStart => exact ⟨0, rfl, by omega, by omega, rfl, Lib.hid (by simp [Nat.mod_one])⟩
      case round =>
        obtain ⟨j, rfl, hj, rfl, rfl, hJ⟩ := hrel
        by_cases hlt2 : s + j < 8 * q
        · have HH := Lib.hid (refHas_any A q c xs (s + j) wo H2.out HB.out (by omega) hm)
          obtain ⟨p, hp⟩ : ∃ p, s + j = p := ⟨_, rfl⟩
          rw [hp] at HH hj hlt2
          by_cases hbit : nums xs / 2 ^ p % 2 = 1
          · rw [decide_eq_true hbit] at HH
            have HE := Lib.hid (show unpk k i xs = ([], 3) by rw [HUU.out, if_pos (tail_set (j := j) (by rw [hp]; exact hbit))])
            rw [hp]
            clear hp hbit
            go_wp2_with fail
            refine HH.out.mono ?_
            rintro e w' ⟨rfl, rfl⟩
            go_wp2
            go_ret2
            exact ⟨none, 0, 0, by rw [HE.out]; rfl, by rw [HE.out]; exact owns_nil _ _ _ _, HBW.out⟩
          · rw [decide_eq_false hbit] at HH
            have HT := Lib.hid (And.intro (tail_step hJ.out (by rw [hp]; exact hbit)) hp)
            rw [hp]
            clear hp hbit
            go_wp2_with fail
            refine HH.out.mono ?_
            rintro e w' ⟨rfl, rfl⟩
            go_wp2_with fail
            go_roundg (8 * q - (s + (j + 1)))
            case measure => have := HT.out.2; omega
            case rel => exact ⟨j + 1, by have := HT.out.2; go_num, by have := HT.out.2; omega, rfl, rfl, Lib.hid HT.out.1⟩
        · have he : s + j = 8 * q := by omega
          have hz := hJ.out
          rw [Nat.mod_eq_of_lt (Nat.div_lt_of_lt_mul (by rw [← Nat.pow_add, he]; exact HN8.out))] at hz
          have HE := Lib.hid (show unpk k i xs = (unp k i (nums xs), 0) by rw [HUU.out, if_neg (by simp [hz])])
          rw [he]
          clear hz he
          go_wp2
          go_ret2
          exact ⟨A', i, c', by rw [HE.out]; rfl, by rw [HE.out]; exact HO.out, HBW.out⟩
end Go.Proofs.Ytkbcmblgieoleaa
