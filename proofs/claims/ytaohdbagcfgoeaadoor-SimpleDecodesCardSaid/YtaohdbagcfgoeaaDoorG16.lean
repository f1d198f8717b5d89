/-
  Chapter 1, the reference: bits, bytes of bits, a bit, the number of some bits.
  Chapter 1, the reference: Pack, of numbers that fit.
  Chapter 10, the plain part: blocks in runs, there and back.
  Chapter 9, the plain part: blocks of words, there and back.
-/
import Derived.Deep.OwnRows
import Derived.Test.YtaohdbagcfgoeaaDoorG11
import Derived.Test.YtaohdbagcfgoeaaDoorG12
import Derived.Test.YtaohdbagcfgoeaaDoorG13
import Derived.Test.YtaohdbagcfgoeaaDoorG15
namespace Go.Cor
open Go Go.RowKit
/-- a fresh row of cells -/
def RetV (B : Nat) (E : TypeId) (w : World) (vs : List Value) (e : Ending) (w' : World) : Prop :=
  ∃ A n c, e = .returned (.slice A n c) ∧ w'.ownsRow B E 1 (.slice A n c) n vs ∧ Below B w w'
theorem made_list (z : Value) (n : Nat) : (madeCells #[z] n).toList = List.replicate n z := by
  apply List.ext_getElem (by simp [size_madeCells])
  intro i h1 h2
  simp [madeCells, Nat.mod_one]
theorem leb_zero (m : Nat) : leb 0 m = List.replicate m 0 := by
  apply List.ext_getElem (by simp [leb_len])
  intro i h1 h2
  simp [leb]
/-- a new row of noughts -/
theorem owns_made {w : World} {B : Nat} {E : TypeId} {k : IntKind} {n : Nat} (hB : B ≤ w.heap.size) (hn : n ≤ maxLen) : Owns (w.alloc (.cells (madeCells #[.int k 0] n) E)) B E k (some ⟨w.heap.size, 0, none⟩) n n (List.replicate n 0) := by
  have h := World.ownsRow_lit (size := 1) (base := B) (e := E) w (cs := madeCells #[Value.int k 0] n) n hB hn (by simp [size_madeCells])
  rw [made_list] at h
  show World.ownsRow _ _ _ _ _ _ ((List.replicate n (0 : Int)).map (.int k))
  rw [List.map_replicate]
  exact h
theorem bool_one (bs : List Bool) : ∀ u ∈ bs.map Value.bool, u.oneCell' = true := by
  intro u hu
  obtain ⟨b, _, rfl⟩ := List.mem_map.1 hu
  rfl
theorem bool_one1 {x : Bool} : ∀ u ∈ [Value.bool x], u.oneCell' = true := by intro u hu; simp at hu; subst hu; rfl
theorem bit_nat (u : Nat) : (((u : Int) % 2) == 1) = decide (u % 2 = 1) := by
  rw [Bool.eq_iff_iff]; simp only [beq_iff_eq, decide_eq_true_eq]; omega
end Go.Cor
namespace Go.Proofs.YtaohdbagcfgoeaaDoor
open Go.RowKit Go.Cor Go.Free

theorem elemBool : ElemT Tryd.prog 55 4 (.bool false) 1 1 := ⟨Tryd.underlying55, by kernel_rfl, rfl, by decide⟩
set_option maxRecDepth 100000 in
set_option maxHeartbeats 1000000 in
theorem refBits_any (v k : Nat) (hk : k ≤ 64) (hv : (v : Int) ≤ 18446744073709551615) (w : World) :
    Calls Tryd.prog 27 #[.int .u64 v, .int .i64 k] w (RetV w.heap.size 4 w ((bitsOf v k).map .bool)) := by
  go_enter Tryd.func27, Tryd.ntmps27
  go_wp2
  go_loopg [0, 5, 6] k (fun g v0 v5 v6 wr => ∃ i u : Nat, v6 = .int .i64 i ∧ i ≤ k ∧ g = k - i ∧ v0 = .int .u64 u ∧ ∃ A' c', v5 = .slice A' i c' ∧ Hid (u = v / 2 ^ i ∧ wr.ownsRow w.heap.size 4 1 (.slice A' i c') i ((bitsOf v i).map .bool) ∧ Below w.heap.size w wr))
  case atStart => exact ⟨0, v, rfl, by omega, by omega, rfl, none, 0, rfl, Lib.hid ⟨by simp, ⟨rfl, .inl ⟨rfl, rfl⟩⟩, Below.refl _ _⟩⟩
  case round =>
    obtain ⟨i, u, rfl, hi, rfl, rfl, A', c', rfl, hI⟩ := hrel
    by_cases hlt : i < k
    · have hu2 : u ≤ v := by rw [hI.out.1]; exact Nat.div_le_self _ _
      have e1 : IntKind.u64.wrap ((u : Int).tdiv 2) = (u : Int) / 2 := by rw [Int.tdiv_eq_ediv_of_nonneg (by omega), wrapu64_in _ (by omega) (by omega)]
      have e2 : IntKind.u64.wrap ((u : Int).tmod 2) = (u : Int) % 2 := by rw [Int.tmod_eq_emod_of_nonneg (by omega), wrapu64_in _ (by omega) (by omega)]
      go_wp2_with (at_builtin; refine wpList_append_r rfl rfl elemBool (hI.out.2.1.alloc _) rfl (RdV.one (Box.new _ _ _)) rfl bool_one1 (by omega) (by omega) (by have := hI.out.2.2.size; simp; omega) ?_; intro A2 c2 w3 hown hg _)
      have HG := Lib.hid (below_grown (hI.out.2.2.alloc hI.out.2.2.size _) (hI.out.2.1.alloc _) hg (by have := hI.out.2.2.size; simp; omega))
      rw [bit_nat, hI.out.1] at hown
      have HO := Lib.hid hown
      clear hown hg
      go_roundg (k - (i + 1))
      case measure => omega
      case rel =>
        refine ⟨i + 1, u / 2, by go_num, by omega, rfl, by first | rfl | (refine val_i ?_; omega), A2, c2, rfl, Lib.hid ⟨by rw [hI.out.1, Nat.pow_succ, Nat.div_div_eq_div_mul], ?_, HG.out⟩⟩
        rw [← bitsOf_snoc, List.map_append]; exact HO.out
    · obtain rfl : i = k := by omega
      go_wp2
      go_ret
      exact ⟨A', i, c', rfl, hI.out.2.1, hI.out.2.2⟩
set_option maxRecDepth 100000 in
set_option maxHeartbeats 2000000 in
theorem refBytes_any (A : Option Addr) (n c : Nat) (bs : List Bool) (w : World) (h : RdV w 1 A n c (bs.map .bool)) (hn : n ≤ 100000) :
    Calls Tryd.prog 29 #[.slice A n c] w (RetRow w.heap.size 5 .u8 w (leb (nbs bs) (octets n))) := by
  have hlen : bs.length = n := by have := h.len; simpa using this
  have hoc : octets n ≤ 100000 := by unfold octets; omega
  have e1 : IntKind.i64.wrap ((n : Int) + 7) = (n : Int) + 7 := wrapi64_in _ (by omega) (by omega)
  have e2 : IntKind.i64.wrap (((n : Int) + 7).tdiv 8) = ((octets n : Nat) : Int) := by
    unfold octets; rw [Int.tdiv_eq_ediv_of_nonneg (by omega), wrapi64_in _ (by omega) (by omega)]; omega
  have hdef : ∀ i : Nat, i < n → i / 8 < octets n := fun i hi => by unfold octets; omega
  have HD := Lib.hid hdef
  have hmk := run_make_row' (P := Tryd.prog) 30 5 (.int .u8 0) 1 Tryd.underlying30 (by kernel_rfl) rfl .i64 .i64 (octets n) (by omega) (by omega)
  obtain ⟨M, hM⟩ : ∃ M, octets n = M := ⟨_, rfl⟩
  rw [hM] at hoc e2 hmk HD ⊢
  have H := Lib.hid h
  have HL := Lib.hid hlen
  have hst : Owns (w.alloc (.cells (madeCells #[.int .u8 0] M) 5)) w.heap.size 5 .u8 (some ⟨w.heap.size, 0, none⟩) M M (leb 0 M) := by
    rw [leb_zero]; exact owns_made (Nat.le_refl _) (by simp [maxLen]; omega)
  have HST := Lib.hid hst
  clear h hlen hdef hM hst
  go_enter Tryd.func29, Tryd.ntmps29
  go_wp2
  obtain ⟨g, hg⟩ : ∃ g, w.heap.size = g := ⟨_, rfl⟩
  have HB0 := Lib.hid (Below.alloc (Below.refl w.heap.size w) (Nat.le_refl _) (.cells (madeCells #[.int .u8 0] M) 5))
  go_loopg [4] n (fun gg v4 wr => ∃ i : Nat, v4 = .int .i64 i ∧ i ≤ n ∧ gg = n - i ∧ Hid (Owns wr w.heap.size 5 .u8 (some ⟨w.heap.size, 0, none⟩) M M (leb (nbs (bs.take i)) M) ∧ Below w.heap.size w wr))
  case atStart => exact ⟨0, rfl, by omega, by omega, Lib.hid ⟨HST.out, HB0.out⟩⟩
  case round =>
    obtain ⟨i, rfl, hi, rfl, hI⟩ := hrel
    by_cases hlt : i < n
    · obtain ⟨b', o, rfl, hbl, hc⟩ := H.out.get (by omega)
      have hbx : (bs.map Value.bool)[i]? = some (.bool (bs[i]?.getD false)) := by rw [List.getElem?_map, List.getElem?_eq_getElem (by have := HL.out; omega)]; rfl
      have hcell := hc i _ hbx
      have hcell' : wr.cell? ⟨b', o + i, none⟩ = some (.bool (bs[i]?.getD false)) := by rw [World.cell?_of_block (w := w) (w' := wr) (hI.out.2.block b' hbl)]; exact hcell
      have hnt := nbs_take (l := bs) (i := i) (by have := HL.out; omega)
      have hlt8 : nbs (bs.take i) < 2 ^ i := by have := nbs_lt (bs.take i); rwa [List.length_take, Nat.min_eq_left (by have := HL.out; omega)] at this
      have hlb := leb_bit (u := 1) hlt8 (by decide) (HD.out i hlt)
      have e3 : IntKind.i64.wrap ((i : Int).tdiv 8) = ((i / 8 : Nat) : Int) := by rw [Int.tdiv_eq_ediv_of_nonneg (by omega), wrapi64_in _ (by omega) (by omega)]; omega
      have e4 : IntKind.i64.wrap ((i : Int).tmod 8) = ((i % 8 : Nat) : Int) := by rw [Int.tmod_eq_emod_of_nonneg (by omega), wrapi64_in _ (by omega) (by omega)]; omega
      obtain ⟨x, hx⟩ : ∃ x, bs[i]?.getD false = x := ⟨_, rfl⟩
      rw [hx] at hcell' hnt
      obtain ⟨g', c4, hv4, hBg, hgl, hcl, hfr, hset⟩ := owns_put (i := i / 8) (y := ((nbs (bs.take i) / 256 ^ (i / 8) % 256 + 1 * 2 ^ (i % 8) : Nat) : Int)) hI.out.1 (HD.out i hlt)
      injection hv4 with hA hk4 hc4
      injection hA with hA
      injection hA with hA
      subst hA hc4
      rw [leb_at (HD.out i hlt)] at hcl
      have hi8 := HD.out i hlt
      obtain ⟨q, hq⟩ : ∃ q, i / 8 = q := ⟨_, rfl⟩
      obtain ⟨a, ha⟩ : ∃ a, i % 8 = a := ⟨_, rfl⟩
      have ha8 : a < 8 := by omega
      rw [hq, ha] at hlb hset
      rw [hq] at e3 hcl hfr hi8
      rw [ha] at e4
      obtain ⟨y, hy⟩ : ∃ y, nbs (bs.take i) / 256 ^ q % 256 = y := ⟨_, rfl⟩
      rw [hy] at hcl hlb hset
      rw [hlb.1] at hset
      have HSET := Lib.hid (And.intro hset (And.intro hnt (And.intro hlb.2 hBg)))
      have hy8 := hlb.2
      have eq1 : IntKind.i64.wrap (q : Int) = (q : Int) := wrapi64_in _ (by omega) (by omega)
      have e5 : (i : Int) / 8 = (q : Int) := by omega
      have e6 : (i : Int) % 8 = (a : Int) := by omega
      clear hc hbx hcell hx hnt hlt8 hlb hset hy hq ha hBg hk4 hg
      cases x with
      | false =>
        go_wp2_with fail
        go_roundg (n - (i + 1))
        case measure => omega
        case rel => exact ⟨i + 1, by go_num, by omega, rfl, Lib.hid ⟨by have := HSET.out.2.1; simp at this; rw [this]; exact hI.out.1, hI.out.2⟩⟩
      | true =>
        go_upto_region 6 with fail
        simp only [Option.map_some] at hcl
        go_region
        have ey : ((y : Int) + 2 ^ a) % 256 = ((y + 1 * 2 ^ a : Nat) : Int) := by
          have : (2 : Int) ^ a = ((2 ^ a : Nat) : Int) := by simp
          rw [this]; omega
        rw [ey]
        go_wp2_with fail
        go_roundg (n - (i + 1))
        case measure => omega
        case rel => exact ⟨i + 1, by go_num, by omega, rfl, Lib.hid ⟨by have := HSET.out.2.1; simp only [Bool.toNat_true] at this; rw [this]; have h1 := HSET.out.1; rw [show ((y + 1 * 2 ^ a : Nat) : Int) = (y : Int) + 2 ^ a by simp] at h1; exact h1, below_drewN (hI.out.2.setCell HSET.out.2.2.2 _) 1⟩⟩
    · obtain rfl : i = n := by omega
      have ho := hI.out.1
      rw [List.take_of_length_le (by have := HL.out; omega)] at ho
      have HO := Lib.hid ho
      clear ho
      go_wp2
      go_ret
      exact ⟨_, _, _, rfl, HO.out, hI.out.2⟩
end Go.Proofs.YtaohdbagcfgoeaaDoor

namespace Go.Cor
/-- what Pack hands out of numbers that fit -/
def packr (k : Nat) (us : List Int) : List Int × Int := if 1024 < us.length then ([], 7) else (packed k us, 0)
end Go.Cor
namespace Go.Proofs.YtaohdbagcfgoeaaDoor
open Go.RowKit Go.Cor Go.Free

end Go.Proofs.YtaohdbagcfgoeaaDoor

namespace Go.Cor
open Go
def sameAs (a : Int) : List Int → Nat
  | [] => 0
  | x :: r => if x = a then sameAs a r + 1 else 0
/-- how many of the first numbers are one and the same -/
def same (l : List Int) : Nat := sameAs (l[0]?.getD 0) l
theorem sameAs_le (a : Int) (l : List Int) : sameAs a l ≤ l.length := by
  induction l with
  | nil => simp [sameAs]
  | cons x r ih => rw [sameAs]; split <;> simp <;> omega
theorem same_le (l : List Int) : same l ≤ l.length := sameAs_le _ _
theorem same_pos {l : List Int} (h : l ≠ []) : 1 ≤ same l := by
  cases l with
  | nil => exact absurd rfl h
  | cons x r => simp [same, sameAs]
theorem sameAs_drop (a : Int) {l : List Int} {k : Nat} (h : k < l.length) : sameAs a (l.drop k) = if l[k]?.getD 0 = a then sameAs a (l.drop (k + 1)) + 1 else 0 := by
  rw [drop_cons_getD l 0 h, sameAs]
theorem sameAs_take (a : Int) (l : List Int) : l.take (sameAs a l) = List.replicate (sameAs a l) a := by
  induction l with
  | nil => simp [sameAs]
  | cons x r ih =>
    rw [sameAs]
    split
    · rename_i h; subst h; rw [List.take_succ_cons, ih, List.replicate_succ]
    · simp
/-- how many groups of eight stand ahead of a run -/
def hgr : Nat → List Int → Nat
  | 0, _ => 0
  | f + 1, l => if l = [] ∨ 8 ≤ same l then 0 else hgr f (l.drop 8) + 1
theorem hgr_bd : ∀ (f : Nat) (l : List Int), hgr f l ≠ 0 → 8 * (hgr f l - 1) < l.length
  | 0, l, h => by simp [hgr] at h
  | f + 1, l, h => by
    rw [hgr] at h ⊢
    split at h
    · exact absurd rfl h
    · rename_i h1
      rw [if_neg h1]
      rw [not_or] at h1
      have h3 : 0 < l.length := List.length_pos_iff.2 h1.1
      by_cases h2 : hgr f (l.drop 8) = 0
      · rw [h2]; simpa using h3
      · have := hgr_bd f (l.drop 8) h2
        rw [List.length_drop] at this
        omega
/-- how many numbers the next run has -/
def htak (l : List Int) : Nat := if 8 ≤ same l then same l else min (8 * hgr l.length l) l.length
theorem htak_le (l : List Int) : htak l ≤ l.length := by unfold htak; have := same_le l; split <;> omega
theorem htak_pos {l : List Int} (h : l ≠ []) : 1 ≤ htak l := by
  unfold htak
  split
  · omega
  · rename_i h1
    cases l with
    | nil => exact absurd rfl h
    | cons x r => rw [List.length_cons, hgr, if_neg (by simp; omega)]; omega
/-- a packed run's numbers, and noughts till the last group is full -/
def hpad (us : List Int) : List Int := us ++ List.replicate (8 * ((us.length + 7) / 8) - us.length) 0
theorem hpad_len (us : List Int) : (hpad us).length = 8 * ((us.length + 7) / 8) := by simp [hpad]; omega
/-- a run's bytes: of one number so often, or of packed ones -/
def hput (w often : Nat) (us : List Int) : List Int :=
  if 0 < often then vput (2 * often) ++ leb (us[0]?.getD 0).toNat (octets w) else vput (2 * ((us.length + 7) / 8) + 1) ++ (packr w (hpad us)).1
/-- the next run's bytes -/
def hone (w : Nat) (l : List Int) : List Int := if 8 ≤ same l then hput w (same l) (l.take 1) else hput w 0 (l.take (htak l))
/-- the bytes of all runs -/
def hrest (w : Nat) (l : List Int) : List Int := if h : l = [] then [] else hone w l ++ hrest w (l.drop (htak l))
termination_by l.length
decreasing_by rw [List.length_drop]; have := htak_pos h; have : 0 < l.length := List.length_pos_iff.2 h; omega
theorem hrest_nil (w : Nat) : hrest w [] = [] := by rw [hrest, dif_pos rfl]
theorem hrest_step (w : Nat) {l : List Int} (h : l ≠ []) : hrest w l = hone w l ++ hrest w (l.drop (htak l)) := by rw [hrest, dif_neg h]
/-- the runs: how often (packed: 0), from which place on, how many numbers are told -/
def hlist (at_ : Nat) (l : List Int) : List (Nat × Nat × Nat) := if h : l = [] then [] else (if 8 ≤ same l then (same l, at_, 1) else (0, at_, htak l)) :: hlist (at_ + htak l) (l.drop (htak l))
termination_by l.length
decreasing_by rw [List.length_drop]; have := htak_pos h; have : 0 < l.length := List.length_pos_iff.2 h; omega
theorem hlist_nil (at_ : Nat) : hlist at_ [] = [] := by rw [hlist, dif_pos rfl]
theorem hlist_step (at_ : Nat) {l : List Int} (h : l ≠ []) : hlist at_ l = (if 8 ≤ same l then (same l, at_, 1) else (0, at_, htak l)) :: hlist (at_ + htak l) (l.drop (htak l)) := by rw [hlist, dif_neg h]
theorem hlist_rest (w : Nat) (zs : List Int) : ∀ (n : Nat) (at_ : Nat), (zs.drop at_).length = n → ((hlist at_ (zs.drop at_)).map fun x => hput w x.1 ((zs.drop x.2.1).take x.2.2)).flatten = hrest w (zs.drop at_) := by
  intro n
  induction n using Nat.strongRecOn with
  | ind n ih =>
    intro at_ hl
    by_cases h : zs.drop at_ = []
    · rw [h, hlist_nil, hrest_nil]; rfl
    · have hp := htak_pos h
      have hle := htak_le (zs.drop at_)
      rw [hlist_step at_ h, hrest_step w h, List.map_cons, List.flatten_cons]
      have h2 := ih (n - htak (zs.drop at_)) (by omega) (at_ + htak (zs.drop at_)) (by rw [← List.drop_drop, List.length_drop, hl])
      rw [← List.drop_drop] at h2
      rw [h2]
      congr 1
      unfold hone
      split <;> rfl
/-- what a told run holds -/
theorem hlist_in {zs : List Int} : ∀ (n : Nat) (at_ : Nat), (zs.drop at_).length = n → ∀ x ∈ hlist at_ (zs.drop at_), x.1 ≤ zs.length ∧ 0 < x.2.2 ∧ x.2.1 + x.2.2 ≤ zs.length := by
  intro n
  induction n using Nat.strongRecOn with
  | ind n ih =>
    intro at_ hl x hx
    by_cases h : zs.drop at_ = []
    · rw [h, hlist_nil] at hx; simp at hx
    · have hp := htak_pos h
      have hle := htak_le (zs.drop at_)
      have hs := same_le (zs.drop at_)
      have hlz : 0 < (zs.drop at_).length := List.length_pos_iff.2 h
      have hld := List.length_drop (i := at_) (l := zs)
      rw [hlist_step at_ h] at hx
      rcases List.mem_cons.1 hx with rfl | hx
      · split
        · exact ⟨by show same _ ≤ _; omega, Nat.one_pos, by show at_ + 1 ≤ _; omega⟩
        · exact ⟨by show 0 ≤ _; omega, by show 0 < htak _; omega, by show at_ + htak _ ≤ _; omega⟩
      · refine ih (n - htak (zs.drop at_)) (by omega) (at_ + htak (zs.drop at_)) (by rw [← List.drop_drop, List.length_drop, hl]) x ?_
        rw [← List.drop_drop]; exact hx
/-- a block's form in runs -/
def hform (xs : List Int) : List Int := most (xs.map zig) :: hrest (most (xs.map zig)).toNat (xs.map zig)

/-- the next run of bytes, of which so many numbers lack -/
def hstep (w lack : Nat) (b : List Int) : List Int × Nat × Int :=
  if (vget 0 b).2.2 ≠ 0 then ([], 0, (vget 0 b).2.2)
  else if (vget 0 b).1.toNat ≤ 1 then ([], 0, 7)
  else if (vget 0 b).1.toNat % 2 = 0 then
    if lack < (vget 0 b).1.toNat / 2 then ([], 0, 7)
    else if (b.drop (vget 0 b).2.1.toNat).length < octets w then ([], 0, 1)
    else if 2 ^ w ≤ nums ((b.drop (vget 0 b).2.1.toNat).take (octets w)) then ([], 0, 4)
    else (List.replicate ((vget 0 b).1.toNat / 2) (zag (nums ((b.drop (vget 0 b).2.1.toNat).take (octets w)) : Nat)), (vget 0 b).2.1.toNat + octets w, 0)
  else
    if (lack + 7) / 8 < (vget 0 b).1.toNat / 2 then ([], 0, 7)
    else if (b.drop (vget 0 b).2.1.toNat).length < (vget 0 b).1.toNat / 2 * w then ([], 0, 1)
    else if ((unp w (8 * ((vget 0 b).1.toNat / 2)) (nums ((b.drop (vget 0 b).2.1.toNat).take ((vget 0 b).1.toNat / 2 * w)))).drop lack).any (· != 0) then ([], 0, 3)
    else (((unp w (8 * ((vget 0 b).1.toNat / 2)) (nums ((b.drop (vget 0 b).2.1.toNat).take ((vget 0 b).1.toNat / 2 * w)))).take lack).map zag, (vget 0 b).2.1.toNat + (vget 0 b).1.toNat / 2 * w, 0)
/-- the same, its head being read -/
def hbody (w lack h m : Nat) (b : List Int) : List Int × Nat × Int :=
  if h ≤ 1 then ([], 0, 7)
  else if h % 2 = 0 then
    if lack < h / 2 then ([], 0, 7)
    else if b.length < octets w then ([], 0, 1)
    else if 2 ^ w ≤ nums (b.take (octets w)) then ([], 0, 4)
    else (List.replicate (h / 2) (zag (nums (b.take (octets w)) : Nat)), m + octets w, 0)
  else
    if (lack + 7) / 8 < h / 2 then ([], 0, 7)
    else if b.length < h / 2 * w then ([], 0, 1)
    else if ((unp w (8 * (h / 2)) (nums (b.take (h / 2 * w)))).drop lack).any (· != 0) then ([], 0, 3)
    else (((unp w (8 * (h / 2)) (nums (b.take (h / 2 * w)))).take lack).map zag, m + h / 2 * w, 0)
theorem hstep_eq (w lack : Nat) (b : List Int) : hstep w lack b = if (vget 0 b).2.2 ≠ 0 then ([], 0, (vget 0 b).2.2) else hbody w lack (vget 0 b).1.toNat (vget 0 b).2.1.toNat (b.drop (vget 0 b).2.1.toNat) := rfl
theorem hstep_get (w lack : Nat) {b : List Int} {h m : Nat} (e : vget 0 b = ((h : Int), (m : Int), 0)) : hstep w lack b = hbody w lack h m (b.drop m) := by
  rw [hstep_eq, e, if_neg (by simp)]; simp

/-- all numbers of bytes -/
def hrun (n : Nat) (ys : List Int) : List Int × Nat × Int :=
  if ys = [] then ([], 0, 1) else if 64 < (ys[0]?.getD 0).toNat then ([], 0, 6) else dlift [] 1 (drun (hstep (ys[0]?.getD 0).toNat) n (ys.drop 1))
def hdec : List Int → Int → List Int × Int := decOf hrun

theorem pow_mono2 {a b : Nat} (h : a ≤ b) : 2 ^ a ≤ 2 ^ b := Nat.pow_le_pow_right (by decide) h
theorem Fitl.take {k : Nat} {l : List Int} (h : Fitl k l) (n : Nat) : Fitl k (l.take n) := fun u hu => h u (List.mem_of_mem_take hu)
theorem Fitl.drop {k : Nat} {l : List Int} (h : Fitl k l) (n : Nat) : Fitl k (l.drop n) := fun u hu => h u (List.mem_of_mem_drop hu)
theorem Fitl.pad {k : Nat} {l : List Int} (h : Fitl k l) : Fitl k (hpad l) := by
  intro u hu
  rcases List.mem_append.1 hu with hu | hu
  · exact h u hu
  · rw [List.eq_of_mem_replicate hu]; exact ⟨by omega, pow_pos2 k⟩
theorem Fitl.get {k : Nat} {l : List Int} (h : Fitl k l) (n : Nat) : 0 ≤ l[n]?.getD 0 ∧ (l[n]?.getD 0).toNat < 2 ^ k := by
  by_cases hn : n < l.length
  · rw [List.getElem?_eq_getElem hn]; exact h _ (List.getElem_mem _)
  · rw [List.getElem?_eq_none (by omega)]; exact ⟨by decide, pow_pos2 k⟩
theorem small_vput {h : Nat} (hh : h ≤ 4096) : h < 2 ^ (64 - 7 * 0) := Nat.lt_of_le_of_lt hh (by decide)
theorem nums_leb {v m : Nat} (h : v < 256 ^ m) : nums (leb v m) = v := by
  unfold nums; rw [num_leb, Int.toNat_natCast, Nat.mod_eq_of_lt h]
theorem packed_bytes (k : Nat) (l : List Int) : ∀ x ∈ packed k l, 0 ≤ x ∧ x ≤ 255 := leb_bytes _ _
theorem oct8 (g w : Nat) : octets (8 * g * w) = g * w := by unfold octets; rw [Nat.mul_assoc]; omega
theorem packr_in {w : Nat} {us : List Int} (h : us.length ≤ 1024) : packr w us = (packed w us, 0) := by unfold packr; rw [if_neg (by omega)]

/-- one run, there and back -/
theorem hstep_one {w : Nat} (hw : w ≤ 64) {l : List Int} (hf : Fitl w l) (hl : l ≠ []) (hn : l.length ≤ 1024) (r : List Int) : hstep w l.length (hone w l ++ r) = ((l.take (htak l)).map zag, (hone w l).length, 0) := by
  have hlen : 0 < l.length := List.length_pos_iff.2 hl
  unfold hone
  by_cases h8 : 8 ≤ same l
  · rw [if_pos h8]
    have hs := same_le l
    have ht : htak l = same l := by unfold htak; rw [if_pos h8]
    have ht2 : l.take (same l) = List.replicate (same l) (l[0]?.getD 0) := sameAs_take _ _
    have h0 : (l.take 1)[0]?.getD 0 = l[0]?.getD 0 := by cases l with
      | nil => exact absurd rfl hl
      | cons x r => simp
    have hv := hf.get 0
    rw [hput, if_pos (by omega), h0, ht, ht2]
    obtain ⟨n, hs'⟩ : ∃ n, same l = n := ⟨_, rfl⟩
    obtain ⟨v, hve⟩ := Int.eq_ofNat_of_zero_le hv.1
    rw [hs'] at h8 hs ⊢
    rw [hve] at hv ⊢
    rw [Int.toNat_natCast] at hv ⊢
    have hg := vget_put (2 * n) 0 (leb v (octets w) ++ r) (by omega) (small_vput (by omega)) (by omega)
    rw [List.append_assoc, hstep_get w l.length (h := 2 * n) (m := (vput (2 * n)).length) (by rw [hg]; simp), List.drop_left]
    have hlb := leb_len v (octets w)
    have hv2 : v < 256 ^ octets w := by
      rw [two8]; exact Nat.lt_of_lt_of_le hv.2 (pow_mono2 (by unfold octets; omega))
    rw [hbody, if_neg (by omega), if_pos (by omega), if_neg (by omega), if_neg (by rw [List.length_append]; omega), List.take_left' hlb, nums_leb hv2, if_neg (by omega), show 2 * n / 2 = n by omega, List.length_append, hlb, List.map_replicate]
  · rw [if_neg h8, hput, if_neg (by omega)]
    have ht : htak l = min (8 * hgr l.length l) l.length := by unfold htak; rw [if_neg h8]
    have hp := htak_pos hl
    have hle := htak_le l
    obtain ⟨t, ht'⟩ : ∃ t, htak l = t := ⟨_, rfl⟩
    rw [ht'] at ht hp hle ⊢
    have hus : (l.take t).length = t := by rw [List.length_take]; omega
    have hpl := hpad_len (l.take t)
    have hpf := (hf.take t).pad
    rw [hus] at hpl ⊢
    obtain ⟨g, hg'⟩ : ∃ g, (t + 7) / 8 = g := ⟨_, rfl⟩
    rw [hg'] at hpl ⊢
    have hg1 : 1 ≤ g := by omega
    have hgl : g ≤ (l.length + 7) / 8 := by omega
    rw [packr_in (us := hpad (l.take t)) (w := w) (by omega)]
    have hg := vget_put (2 * g + 1) 0 (packed w (hpad (l.take t)) ++ r) (by omega) (small_vput (by omega)) (by omega)
    have hpk := packed_len w (hpad (l.take t))
    rw [hpl, oct8] at hpk
    simp only
    rw [List.append_assoc, hstep_get w l.length (h := 2 * g + 1) (m := (vput (2 * g + 1)).length) (by rw [hg]; simp), List.drop_left]
    have hun : unp w (8 * g) (nums (packed w (hpad (l.take t)))) = hpad (l.take t) := by rw [nums_packed hpf, ← hpl]; exact unp_pk hpf
    have hdrop : (hpad (l.take t)).drop l.length = List.replicate (8 * g - l.length) 0 := by
      unfold hpad
      rw [List.drop_append, List.drop_of_length_le (by omega), List.nil_append, hus, hg', List.drop_replicate]
      congr 1
      omega
    have htake : (hpad (l.take t)).take l.length = l.take t := by
      unfold hpad
      rw [hus, hg']
      by_cases h1 : 8 * g ≤ l.length
      · rw [show 8 * g - t = 0 by omega, List.replicate_zero, List.append_nil]
        exact List.take_of_length_le (by rw [hus]; exact hle)
      · rw [List.take_append, hus, show l.length - t = 0 by omega, List.take_zero, List.append_nil]
        exact List.take_of_length_le (by rw [hus]; omega)
    rw [hbody, if_neg (by omega), if_neg (by omega), show (2 * g + 1) / 2 = g by omega, if_neg (by omega), if_neg (by rw [List.length_append]; omega), List.take_left' hpk, hun, hdrop, htake,
      if_neg (by simp), List.length_append, hpk]
theorem hone_pos (w : Nat) (l : List Int) : 0 < (hone w l).length := by
  unfold hone hput
  split
  · split
    · rw [List.length_append]; have := vput_pos (2 * same l); omega
    · rw [List.length_append]; have := vput_pos (2 * (((l.take 1).length + 7) / 8) + 1); omega
  · rw [if_neg (by omega), List.length_append]; have := vput_pos (2 * (((l.take (htak l)).length + 7) / 8) + 1); omega
theorem hrun_rest {w : Nat} (hw : w ≤ 64) (r : List Int) : ∀ (n : Nat) (l : List Int), l.length = n → Fitl w l → n ≤ 1024 → drun (hstep w) n (hrest w l ++ r) = (l.map zag, (hrest w l).length, 0) := by
  intro n
  induction n using Nat.strongRecOn with
  | ind n ih =>
    intro l hl hf hn
    by_cases h : l = []
    · subst h; simp at hl; subst hl; rw [hrest_nil, drun, if_pos rfl]; simp
    · have hp := htak_pos h
      have hle := htak_le l
      have h1 := hstep_one hw hf h (by omega) (hrest w (l.drop (htak l)) ++ r)
      rw [hl] at h1
      rw [drun_start, hrest_step w h, List.append_assoc]
      have hlt : ((l.take (htak l)).map zag).length = htak l := by simp; omega
      rw [drun_step [] 0 (by omega) (by rw [h1]) (by rw [h1]; simp only [hlt]; omega), h1]
      simp only [List.nil_append, Nat.zero_add, hlt, List.drop_left]
      rw [ih (n - htak l) (by omega) _ (by rw [List.length_drop]; omega) (hf.drop _) (by omega)]
      unfold dlift
      simp [← List.map_append]
/-- a byte less -/
theorem hstep_cut {w : Nat} (hw : w ≤ 64) {l : List Int} (hl : l ≠ []) (hn : l.length ≤ 1024) : (hstep w l.length ((hone w l).take ((hone w l).length - 1))).2.2 = 1 := by
  have hlen : 0 < l.length := List.length_pos_iff.2 hl
  have cut : ∀ (h : Nat) (pay : List Int), h ≤ 4096 → (pay = [] ∨ ∀ m, (hbody w l.length h m (pay.take (pay.length - 1))).2.2 = 1) → (hstep w l.length ((vput h ++ pay).take ((vput h ++ pay).length - 1))).2.2 = 1 := by
    intro h pay hh hp
    have hv := vput_pos h
    have hv2 := vput_len_u64 h (by omega)
    by_cases h0 : pay = []
    · subst h0
      rw [List.append_nil, hstep_eq, vget_cut h 0 _ (by omega) (by omega)]
      simp
    · have hpl : 0 < pay.length := List.length_pos_iff.2 h0
      have e : (vput h ++ pay).take ((vput h ++ pay).length - 1) = vput h ++ pay.take (pay.length - 1) := by
        rw [List.length_append, List.take_append, List.take_of_length_le (by omega)]; congr 2; omega
      have hg := vget_put h 0 (pay.take (pay.length - 1)) (by omega) (small_vput (by omega)) (by omega)
      rw [e, hstep_get w l.length (h := h) (m := (vput h).length) (by rw [hg]; simp), List.drop_left]
      rcases hp with hp | hp
      · exact absurd hp h0
      · exact hp _
  unfold hone
  by_cases h8 : 8 ≤ same l
  · rw [if_pos h8, hput, if_pos (by omega)]
    have hs := same_le l
    by_cases h0 : octets w = 0
    · exact cut _ _ (by omega) (.inl (List.eq_nil_of_length_eq_zero (by rw [leb_len]; exact h0)))
    · refine cut _ _ (by omega) (.inr fun m => ?_)
      rw [leb_len, hbody, if_neg (by omega), if_pos (by omega), if_neg (by omega), if_pos (by rw [List.length_take, leb_len]; omega)]
  · rw [if_neg h8, hput, if_neg (by omega)]
    have hp := htak_pos hl
    have hle := htak_le l
    obtain ⟨t, ht'⟩ : ∃ t, htak l = t := ⟨_, rfl⟩
    rw [ht'] at hp hle ⊢
    have hus : (l.take t).length = t := by rw [List.length_take]; omega
    have hpl := hpad_len (l.take t)
    rw [hus] at hpl ⊢
    obtain ⟨g, hg'⟩ : ∃ g, (t + 7) / 8 = g := ⟨_, rfl⟩
    rw [hg'] at hpl ⊢
    rw [packr_in (us := hpad (l.take t)) (w := w) (by omega)]
    have hpk := packed_len w (hpad (l.take t))
    rw [hpl, oct8] at hpk
    by_cases h0 : g * w = 0
    · exact cut _ _ (by omega) (.inl (List.eq_nil_of_length_eq_zero (by rw [hpk]; exact h0)))
    · refine cut _ _ (by omega) (.inr fun m => ?_)
      rw [hpk, hbody, if_neg (by omega), if_neg (by omega), show (2 * g + 1) / 2 = g by omega, if_neg (by omega), if_pos (by rw [List.length_take, hpk]; omega)]
theorem hrest_pos {w : Nat} {l : List Int} (h : l ≠ []) : 0 < (hrest w l).length := by rw [hrest_step w h, List.length_append]; have := hone_pos w l; omega
theorem hrun_less {w : Nat} (hw : w ≤ 64) : ∀ (n : Nat) (l : List Int), l.length = n → l ≠ [] → Fitl w l → n ≤ 1024 → (drun (hstep w) n ((hrest w l).take ((hrest w l).length - 1))).2.2 ≠ 0 := by
  intro n
  induction n using Nat.strongRecOn with
  | ind n ih =>
    intro l hl h hf hn
    have hp := htak_pos h
    have hle := htak_le l
    have hn0 : n ≠ 0 := by rw [← hl]; have := List.length_pos_iff.2 h; omega
    by_cases h2 : l.drop (htak l) = []
    · have hc := hstep_cut hw h (by omega)
      rw [hrest_step w h, h2, hrest_nil, List.append_nil]
      rw [hl] at hc
      rw [drun, if_neg hn0, if_pos (by rw [hc]; decide), hc]
      decide
    · have hr := hrest_pos (w := w) h2
      have e : (hrest w l).take ((hrest w l).length - 1) = hone w l ++ (hrest w (l.drop (htak l))).take ((hrest w (l.drop (htak l))).length - 1) := by
        rw [hrest_step w h, List.length_append, List.take_append, List.take_of_length_le (by omega)]; congr 2; omega
      have h1 := hstep_one hw hf h (by omega) ((hrest w (l.drop (htak l))).take ((hrest w (l.drop (htak l))).length - 1))
      rw [hl] at h1
      have hlt : ((l.take (htak l)).map zag).length = htak l := by simp; omega
      rw [e, drun_start, drun_step [] 0 hn0 (by rw [h1]) (by rw [h1]; simp only [hlt]; omega), h1]
      simp only [List.nil_append, Nat.zero_add, hlt, List.drop_left]
      have := ih (n - htak l) (by omega) _ (by rw [List.length_drop]; omega) h2 (hf.drop _) (by omega)
      unfold dlift
      rw [if_pos this]; exact this

theorem hput_bytes (w o : Nat) (us : List Int) : ∀ x ∈ hput w o us, 0 ≤ x ∧ x ≤ 255 := by
  intro x hx
  unfold hput at hx
  split at hx
  · rcases List.mem_append.1 hx with hx | hx
    · exact vput_bytes _ x hx
    · exact leb_bytes _ _ x hx
  · rcases List.mem_append.1 hx with hx | hx
    · exact vput_bytes _ x hx
    · unfold packr at hx
      split at hx
      · simp at hx
      · exact packed_bytes _ _ x hx
theorem hrest_bytes (w : Nat) : ∀ (n : Nat) (l : List Int), l.length = n → ∀ x ∈ hrest w l, 0 ≤ x ∧ x ≤ 255 := by
  intro n
  induction n using Nat.strongRecOn with
  | ind n ih =>
    intro l hl x hx
    by_cases h : l = []
    · subst h; rw [hrest_nil] at hx; simp at hx
    · have hp := htak_pos h
      have hle := htak_le l
      rw [hrest_step w h] at hx
      rcases List.mem_append.1 hx with hx | hx
      · unfold hone at hx
        split at hx <;> exact hput_bytes _ _ _ x hx
      · exact ih (n - htak l) (by have := List.length_pos_iff.2 h; omega) _ (by rw [List.length_drop]; omega) x hx
/-- how long a run is -/
theorem hput_len {w o : Nat} (hw : w ≤ 64) {us : List Int} (hu : us.length ≤ 1200) (ho : o ≤ 1200) : (hput w o us).length ≤ 8 * us.length + 66 := by
  unfold hput
  split
  · rw [List.length_append, leb_len]
    have := vput_len_u64 (2 * o) (by omega)
    have : octets w ≤ 8 := by unfold octets; omega
    omega
  · rw [List.length_append]
    have h1 := vput_len_u64 (2 * ((us.length + 7) / 8) + 1) (by omega)
    have h2 : ((packr w (hpad us)).1).length ≤ (us.length + 7) / 8 * w := by
      unfold packr
      split
      · simp
      · simp only [packed_len, hpad_len, oct8]; omega
    have h3 : (us.length + 7) / 8 * w ≤ (us.length + 7) / 8 * 64 := Nat.mul_le_mul_left _ hw
    omega
theorem hone_len {w : Nat} (hw : w ≤ 64) {l : List Int} (hn : l.length ≤ 1200) : (hone w l).length ≤ 8 * htak l + 66 := by
  have hs := same_le l
  have hle := htak_le l
  unfold hone
  split
  · rename_i h8
    have ht : htak l = same l := by unfold htak; rw [if_pos h8]
    have := hput_len (o := same l) hw (us := l.take 1) (by rw [List.length_take]; omega) (by omega)
    rw [List.length_take] at this
    omega
  · have := hput_len (o := 0) hw (us := l.take (htak l)) (by rw [List.length_take]; omega) (by omega)
    rw [List.length_take] at this
    omega
theorem htak_eight {l : List Int} (h : l.drop (htak l) ≠ []) : 8 ≤ htak l := by
  have hl : htak l < l.length := by have := List.length_pos_iff.2 h; rw [List.length_drop] at this; omega
  unfold htak at hl ⊢
  split
  · assumption
  · rename_i h8
    rw [if_neg h8] at hl
    have hne : l ≠ [] := fun e => by subst e; simp at hl
    have := htak_pos hne
    unfold htak at this
    rw [if_neg h8] at this
    omega
theorem hrest_len {w : Nat} (hw : w ≤ 64) : ∀ (n : Nat) (l : List Int), l.length = n → n ≤ 1200 → (hrest w l).length ≤ 17 * n + 66 := by
  intro n
  induction n using Nat.strongRecOn with
  | ind n ih =>
    intro l hl hn
    by_cases h : l = []
    · subst h; rw [hrest_nil]; simp
    · have hp := htak_pos h
      have hle := htak_le l
      have h1 := hone_len hw (l := l) (by omega)
      rw [hrest_step w h, List.length_append]
      by_cases h2 : l.drop (htak l) = []
      · rw [h2, hrest_nil]; simp; omega
      · have h3 := htak_eight h2
        have h4 := ih (n - htak l) (by omega) (l.drop (htak l)) (by rw [List.length_drop]; omega) (by omega)
        omega

theorem bw_nat (x : Int) (h : x ≤ 18446744073709551615) : bw x ≤ 64 ∧ 0 ≤ bw x := ⟨(bw_bound x h).2, (bw_bound x h).1⟩
theorem foldmost (l : List Int) : ∀ m : Int, 0 ≤ m → m ≤ l.foldl (fun m v => max m (bw v)) m ∧ (∀ u ∈ l, bw u ≤ l.foldl (fun m v => max m (bw v)) m) ∧ ((∀ u ∈ l, bw u ≤ 64) → m ≤ 64 → l.foldl (fun m v => max m (bw v)) m ≤ 64) := by
  induction l with
  | nil => intro m _; simp
  | cons x r ih =>
    intro m hm
    obtain ⟨h1, h2, h3⟩ := ih (max m (bw x)) (by omega)
    simp only [List.foldl_cons]
    refine ⟨by omega, fun u hu => ?_, fun h4 h5 => h3 (fun u hu => h4 u (by simp [hu])) (by have := h4 x (by simp); omega)⟩
    rcases List.mem_cons.1 hu with rfl | hu
    · omega
    · exact h2 u hu
theorem most_bd {l : List Int} (h : ∀ u ∈ l, 0 ≤ u ∧ u ≤ 18446744073709551615) : 0 ≤ most l ∧ most l ≤ 64 := by
  have h1 := foldmost l 0 (by omega)
  exact ⟨h1.1, h1.2.2 (fun u hu => (bw_nat u (h u hu).2).1) (by decide)⟩
theorem most_fit {l : List Int} (h : ∀ u ∈ l, 0 ≤ u) : Fitl (most l).toNat l := by
  intro u hu
  have h1 := foldmost l 0 (by omega)
  have h2 := h1.2.1 u hu
  refine ⟨h u hu, Nat.lt_of_lt_of_le (nbits_lt u.toNat) (pow_mono2 ?_)⟩
  unfold bw at h2
  unfold most bw
  omega
theorem zigs_fit (xs : List Int) : ∀ u ∈ xs.map zig, 0 ≤ u := by
  intro u hu; obtain ⟨x, _, rfl⟩ := List.mem_map.1 hu; exact zig_nonneg x
theorem zigs_u64 {xs : List Int} (h : ∀ x ∈ xs, I64 x) : ∀ u ∈ xs.map zig, 0 ≤ u ∧ u ≤ 18446744073709551615 := by
  intro u hu; obtain ⟨x, hx, rfl⟩ := List.mem_map.1 hu; exact ⟨zig_nonneg x, zig_max x (h x hx).1 (h x hx).2⟩
theorem zags_zigs (xs : List Int) : (xs.map zig).map zag = xs := by
  rw [List.map_map]
  conv => rhs; rw [← List.map_id xs]
  exact List.map_congr_left fun x _ => zig_zag x
theorem hybBacks (xs : List Int) (h : ∀ x ∈ xs, I64 x) (ht : tak tkAll xs = true) : Go.Proofs.YtaohdbagcfgoeaaDoor.Backs tkAll hform hdec xs := by
  have hb : blk xs.length = true := by rw [tak_all] at ht; exact ht
  have hN := of_decide_eq_true hb
  have hm := most_bd (zigs_u64 h)
  have hf := most_fit (zigs_fit xs)
  have hzl : (xs.map zig).length = xs.length := by simp
  have hne : xs.map zig ≠ [] := fun e => by rw [e] at hzl; simp at hzl; omega
  obtain ⟨z, hz⟩ : ∃ z, xs.map zig = z := ⟨_, rfl⟩
  have hzz := zags_zigs xs
  have hform_eq : hform xs = most z :: hrest (most z).toNat z := by rw [← hz]; rfl
  rw [hz] at hm hf hzl hne hzz
  obtain ⟨w, hw⟩ := Int.eq_ofNat_of_zero_le hm.1
  rw [hw] at hm hf hform_eq
  rw [Int.toNat_natCast] at hf hform_eq
  have hw64 : w ≤ 64 := by omega
  have hlen := hrest_len hw64 _ z rfl (by omega)
  refine backsOf ?_ ?_ hb ?_ ?_ ?_
  · rw [hform_eq]; intro x hx
    rcases List.mem_cons.1 hx with rfl | hx
    · omega
    · exact hrest_bytes w _ z rfl x hx
  · rw [hform_eq, List.length_cons]; omega
  · intro r
    rw [hform_eq]
    have h1 := hrun_rest hw64 r _ z rfl hf (by omega)
    unfold hrun
    rw [if_neg (by simp)]
    simp only [List.cons_append, List.getElem?_cons_zero, Option.getD_some, Int.toNat_natCast, List.drop_succ_cons, List.drop_zero]
    rw [if_neg (by omega), ← hzl, h1, hzz]
    simp [dlift]; omega
  · rw [hform_eq]
    have hp := hrest_pos (w := w) hne
    have h1 := hrun_less hw64 _ z rfl hne hf (by omega)
    have e : (((w : Int)) :: hrest w z).take ((((w : Int)) :: hrest w z).length - 1) = (w : Int) :: (hrest w z).take ((hrest w z).length - 1) := by
      rw [List.length_cons, show (hrest w z).length + 1 - 1 = ((hrest w z).length - 1) + 1 by omega, List.take_succ_cons]
    rw [e]
    unfold hrun
    rw [if_neg (by simp)]
    simp only [List.getElem?_cons_zero, Option.getD_some, Int.toNat_natCast, List.drop_succ_cons, List.drop_zero]
    rw [if_neg (by omega), ← hzl]
    unfold dlift
    rw [if_pos h1]; exact h1
  · rw [hform_eq]; simp
theorem hbody_ok {w lack h m : Nat} (hw : w ≤ 64) {b : List Int} (hl : lack ≠ 0) (he : (hbody w lack h m b).2.2 = 0) : (hbody w lack h m b).1.length ≤ lack ∧ (hbody w lack h m b).1.length ≠ 0 ∧ (∀ x ∈ (hbody w lack h m b).1, I64 x) ∧ (hbody w lack h m b).2.1 ≤ m + b.length := by
  unfold hbody at he ⊢
  have hp64 : 2 ^ w ≤ 2 ^ 64 := pow_mono2 hw
  split at he
  · simp at he
  · rename_i h1
    rw [if_neg h1]
    split at he
    · rename_i h2
      rw [if_pos h2]
      split at he
      · simp at he
      · rename_i h3
        rw [if_neg h3]
        split at he
        · simp at he
        · rename_i h4
          rw [if_neg h4]
          split at he
          · simp at he
          · rename_i h5
            rw [if_neg h5]
            refine ⟨by simp; omega, by simp; omega, fun x hx => ?_, by simp; omega⟩
            rw [List.eq_of_mem_replicate hx]
            exact zag_min _ (by omega) (by omega)
    · rename_i h2
      rw [if_neg h2]
      split at he
      · simp at he
      · rename_i h3
        rw [if_neg h3]
        split at he
        · simp at he
        · rename_i h4
          rw [if_neg h4]
          split at he
          · simp at he
          · rename_i h5
            rw [if_neg h5]
            refine ⟨by simp [unp_len]; omega, by simp [unp_len]; omega, fun x hx => ?_, by show _ + _ ≤ _; omega⟩
            obtain ⟨u, hu, rfl⟩ := List.mem_map.1 hx
            have hu2 := unp_fit _ _ _ u (List.mem_of_mem_take hu)
            exact zag_min _ hu2.1 (by omega)
theorem hstep_ok {w lack : Nat} (hw : w ≤ 64) {b : List Int} (hb : ∀ x ∈ b, 0 ≤ x ∧ x ≤ 255) (hl : lack ≠ 0) (he : (hstep w lack b).2.2 = 0) : (hstep w lack b).1.length ≤ lack ∧ (hstep w lack b).1.length ≠ 0 ∧ (∀ x ∈ (hstep w lack b).1, I64 x) ∧ (hstep w lack b).2.1 ≤ b.length := by
  rw [hstep_eq] at he ⊢
  by_cases h0 : (vget 0 b).2.2 = 0
  · rw [if_neg (by simp [h0])] at he ⊢
    have hg := zrun_get hb h0
    have := hbody_ok hw hl he
    rw [List.length_drop] at this
    exact ⟨this.1, this.2.1, this.2.2.1, by omega⟩
  · rw [if_pos h0] at he; exact absurd he h0
theorem hdec_ok (ys : List Int) (N : Nat) (hb : ∀ x ∈ ys, 0 ≤ x ∧ x ≤ 255) : ((hdec ys N).2 = 0 → (hdec ys N).1.length = N ∧ ∀ x ∈ (hdec ys N).1, I64 x) ∧ ((hdec ys N).2 ≠ 0 → (hdec ys N).1 = []) := by
  refine decOf_ok (fun n b hb h => ?_) ys N hb
  unfold hrun at h ⊢
  split at h
  · simp at h
  · rename_i h1
    rw [if_neg h1]
    split at h
    · simp at h
    · rename_i h2
      rw [if_neg h2]
      unfold dlift at h ⊢
      split at h
      · rename_i h3; exact absurd h h3
      · rename_i h3
        rw [if_neg h3]
        have := drun_ok (step := hstep (b[0]?.getD 0).toNat) (P := I64) (Q := fun b => ∀ x ∈ b, 0 ≤ x ∧ x ≤ 255) (fun b k hb x hx => hb x (List.mem_of_mem_drop hx)) (fun lack b hb hl he => by have := hstep_ok (by omega) hb hl he; exact ⟨this.1, this.2.2.1, this.2.2.2⟩) n (b.drop 1) (fun x hx => hb x (List.mem_of_mem_drop hx)) (by simpa using h3)
        simp only [List.nil_append]
        exact ⟨this.1, this.2.1⟩
end Go.Cor

namespace Go.Cor
open Go
/-- the words' shapes: how many numbers, how wide -/
def shp : List (Nat × Nat) := [(240, 0), (120, 0), (60, 1), (30, 2), (20, 3), (15, 4), (12, 5), (10, 6), (8, 7), (7, 8), (6, 10), (5, 12), (4, 15), (3, 20), (2, 30), (1, 60)]
def smany (k : Nat) : Nat := (shp[k]?.getD (0, 0)).1
def sbits (k : Nat) : Nat := (shp[k]?.getD (0, 0)).2
theorem shp_ok : ∀ k, k < 16 → 1 ≤ smany k ∧ smany k ≤ 240 ∧ sbits k ≤ 60 ∧ sbits k * smany k ≤ 60 := by decide
theorem shp_pos {k : Nat} (h : k < 16) : 1 ≤ smany k := (shp_ok k h).1
/-- do the first numbers fit a shape? -/
def sfit (k : Nat) (l : List Int) : Bool := decide (smany k ≤ l.length ∧ ∀ v ∈ l.take (smany k), if sbits k = 0 then v = 1 else v.toNat < 2 ^ sbits k)
def selF (l : List Int) : Nat → Nat → Nat
  | 0, k => k
  | f + 1, k => if sfit k l then k else selF l f (k + 1)
/-- the first shape that fits; 16, if none does -/
def sel (l : List Int) : Nat := selF l 16 0
theorem selF_spec (l : List Int) : ∀ f k, k ≤ selF l f k ∧ selF l f k ≤ k + f ∧ (∀ j, k ≤ j → j < selF l f k → sfit j l = false) ∧ (selF l f k < k + f → sfit (selF l f k) l = true)
  | 0, k => ⟨Nat.le_refl _, Nat.le_refl _, fun j h1 h2 => by unfold selF at h2; omega, fun h => by unfold selF at h; omega⟩
  | f + 1, k => by
    rw [selF]
    by_cases h : sfit k l = true
    · rw [if_pos h]; exact ⟨Nat.le_refl _, by omega, fun j h1 h2 => by omega, fun _ => h⟩
    · rw [if_neg h]
      obtain ⟨h1, h2, h3, h4⟩ := selF_spec l f (k + 1)
      refine ⟨by omega, by omega, fun j h5 h6 => ?_, fun h5 => h4 (by omega)⟩
      by_cases e : j = k
      · subst e; simpa using h
      · exact h3 j (by omega) h6
theorem sel_le (l : List Int) : sel l ≤ 16 := by have := (selF_spec l 16 0).2.1; unfold sel; omega
theorem sel_not {l : List Int} {j : Nat} (h : j < sel l) : sfit j l = false := (selF_spec l 16 0).2.2.1 j (by omega) h
theorem sel_fit {l : List Int} (h : sel l < 16) : sfit (sel l) l = true := (selF_spec l 16 0).2.2.2 (by unfold sel at h; omega)
theorem sel_eq {l : List Int} {k : Nat} (hk : k < 16) (h : sfit k l = true) (h2 : ∀ j, j < k → sfit j l = false) : sel l = k := by
  rcases Nat.lt_trichotomy (sel l) k with h3 | h3 | h3
  · have := h2 _ h3; rw [sel_fit (by omega)] at this; simp at this
  · exact h3
  · have := sel_not h3; rw [h] at this; simp at this
theorem sel_none {l : List Int} (h2 : ∀ j, j < 16 → sfit j l = false) : sel l = 16 := by
  have := sel_le l
  rcases Nat.lt_or_ge (sel l) 16 with h3 | h3
  · have h4 := sel_fit h3; rw [h2 _ h3] at h4; simp at h4
  · omega
theorem fit_of {k : Nat} {l : List Int} (h : sfit k l = true) : smany k ≤ l.length ∧ ∀ v ∈ l.take (smany k), if sbits k = 0 then v = 1 else v.toNat < 2 ^ sbits k := of_decide_eq_true h
theorem fit_take {k : Nat} {l : List Int} (h : sfit k l = true) (h0 : ∀ u ∈ l, 0 ≤ u) (hb : sbits k ≠ 0) : Fitl (sbits k) (l.take (smany k)) := by
  intro u hu
  have := (fit_of h).2 u hu
  rw [if_neg hb] at this
  exact ⟨h0 u (List.mem_of_mem_take hu), this⟩
theorem sel_lt {l : List Int} (h : Fitl 60 l) (hn : l ≠ []) : sel l < 16 := by
  have := sel_le l
  apply Classical.byContradiction
  intro h1
  have h2 := sel_not (l := l) (j := 15) (by omega)
  have h3 : sfit 15 l = true := by
    refine decide_eq_true ⟨?_, fun v hv => ?_⟩
    · have := List.length_pos_iff.2 hn; show 1 ≤ l.length; omega
    · have := h v (List.mem_of_mem_take hv)
      show (if (60 : Nat) = 0 then v = 1 else v.toNat < 2 ^ 60)
      rw [if_neg (by decide)]; exact this.2
  rw [h3] at h2; simp at h2
/-- a word, as a number -/
def swd (k : Nat) (l : List Int) : Nat := k * 2 ^ 60 + if sbits k = 0 then 0 else pk (sbits k) (l.take (smany k))
/-- the words of a row -/
def srest (l : List Int) : List Int := if h : l = [] then [] else if h2 : sel l < 16 then leb (swd (sel l) l) 8 ++ srest (l.drop (smany (sel l))) else []
termination_by l.length
decreasing_by rw [List.length_drop]; have := shp_pos h2; have : 0 < l.length := List.length_pos_iff.2 h; omega
theorem srest_nil : srest [] = [] := by rw [srest, dif_pos rfl]
theorem srest_step {l : List Int} (h : l ≠ []) (h2 : sel l < 16) : srest l = leb (swd (sel l) l) 8 ++ srest (l.drop (smany (sel l))) := by rw [srest, dif_neg h, dif_pos h2]
/-- are all zigzags short? -/
def stk (xs : List Int) : Bool := decide (∀ x ∈ xs, zig x < 1152921504606846976)
def sform (xs : List Int) : List Int := if stk xs then srest (xs.map zig) else []
theorem stk_fit {xs : List Int} (h : stk xs = true) : Fitl 60 (xs.map zig) := by
  intro u hu
  obtain ⟨x, hx, rfl⟩ := List.mem_map.1 hu
  have h1 := of_decide_eq_true h x hx
  have h2 := zig_nonneg x
  exact ⟨h2, by have : (2 : Nat) ^ 60 = 1152921504606846976 := by decide
                omega⟩
/-- the numbers of a word -/
def svals (k r : Nat) : List Int := if sbits k = 0 then List.replicate (smany k) 1 else unp (sbits k) (smany k) r
theorem svals_len (k r : Nat) : (svals k r).length = smany k := by unfold svals; split <;> simp [unp_len]
def sbody (lack w : Nat) : List Int × Nat × Int :=
  if lack < smany (w / 2 ^ 60) then ([], 0, 7) else if w % 2 ^ 60 / 2 ^ (sbits (w / 2 ^ 60) * smany (w / 2 ^ 60)) ≠ 0 then ([], 0, 3) else ((svals (w / 2 ^ 60) (w % 2 ^ 60)).map zag, 8, 0)
def sstep (lack : Nat) (b : List Int) : List Int × Nat × Int := if b.length < 8 then ([], 0, 1) else sbody lack (nums (b.take 8))
def srun (n : Nat) (ys : List Int) : List Int × Nat × Int := drun sstep n ys
def sdec : List Int → Int → List Int × Int := decOf srun

theorem swd_lt {k : Nat} (_hk : k < 16) {l : List Int} (h : sfit k l = true) (h0 : ∀ u ∈ l, 0 ≤ u) : (if sbits k = 0 then 0 else pk (sbits k) (l.take (smany k))) < 2 ^ (sbits k * smany k) := by
  split
  · exact pow_pos2 _
  · rename_i hb
    have := pk_lt (fit_take h h0 hb)
    rwa [List.length_take, Nat.min_eq_left (fit_of h).1] at this
theorem ones_of {l : List Int} (h : ∀ v ∈ l, v = 1) : l = List.replicate l.length 1 := List.eq_replicate_iff.2 ⟨rfl, h⟩
/-- one word, there and back -/
theorem sstep_one {l : List Int} (h : Fitl 60 l) (hn : l ≠ []) (r : List Int) : sstep l.length (leb (swd (sel l) l) 8 ++ r) = ((l.take (smany (sel l))).map zag, 8, 0) := by
  have hs := sel_lt h hn
  have hf := sel_fit hs
  have h0 : ∀ u ∈ l, 0 ≤ u := fun u hu => (h u hu).1
  obtain ⟨k, hk⟩ : ∃ k, sel l = k := ⟨_, rfl⟩
  rw [hk] at hs hf ⊢
  have hp := swd_lt hs hf h0
  have hq := shp_ok k hs
  have hfit := fit_of hf
  have hpm : 2 ^ (sbits k * smany k) ≤ 2 ^ 60 := pow_mono2 hq.2.2.2
  have hl8 := leb_len (swd k l) 8
  have hw : swd k l < 256 ^ 8 := by
    unfold swd
    have e1 : (256 : Nat) ^ 8 = 16 * 2 ^ 60 := by decide
    have e2 : k * 2 ^ 60 ≤ 15 * 2 ^ 60 := Nat.mul_le_mul_right _ (by omega)
    omega
  have e1 : swd k l / 2 ^ 60 = k := by
    unfold swd
    rw [Nat.mul_comm, Nat.mul_add_div (pow_pos2 60), Nat.div_eq_of_lt (by omega)]; omega
  have e2 : swd k l % 2 ^ 60 = if sbits k = 0 then 0 else pk (sbits k) (l.take (smany k)) := by
    unfold swd
    rw [Nat.mul_comm, Nat.mul_add_mod, Nat.mod_eq_of_lt (by omega)]
  unfold sstep
  rw [if_neg (by rw [List.length_append]; omega), List.take_left' hl8, nums_leb hw]
  unfold sbody
  rw [e1, e2, if_neg (by omega), Nat.div_eq_of_lt hp, if_neg (by simp)]
  congr 2
  unfold svals
  have htl : (l.take (smany k)).length = smany k := by rw [List.length_take]; omega
  by_cases hb : sbits k = 0
  · rw [if_pos hb]
    have := ones_of (l := l.take (smany k)) (fun v hv => by have := hfit.2 v hv; rwa [if_pos hb] at this)
    rw [this, htl]
  · rw [if_neg hb, if_neg hb]
    have := unp_pk (fit_take hf h0 hb)
    rw [htl] at this; exact this
theorem srun_rest (r : List Int) : ∀ (n : Nat) (l : List Int), l.length = n → Fitl 60 l → drun sstep n (srest l ++ r) = (l.map zag, (srest l).length, 0) := by
  intro n
  induction n using Nat.strongRecOn with
  | ind n ih =>
    intro l hl hf
    by_cases h : l = []
    · subst h; simp at hl; subst hl; rw [srest_nil, drun, if_pos rfl]; simp
    · have hs := sel_lt hf h
      have hfit := (fit_of (sel_fit hs)).1
      have hp := shp_pos hs
      have h1 := sstep_one hf h (srest (l.drop (smany (sel l))) ++ r)
      rw [hl] at h1
      rw [drun_start, srest_step h hs, List.append_assoc]
      have hlt : ((l.take (smany (sel l))).map zag).length = smany (sel l) := by simp; omega
      have hl8 := leb_len (swd (sel l) l) 8
      rw [drun_step [] 0 (by omega) (by rw [h1]) (by rw [h1]; simp only [hlt]; omega), h1]
      simp only [List.nil_append, Nat.zero_add, hlt]
      rw [List.drop_left' hl8, ih (n - smany (sel l)) (by omega) _ (by rw [List.length_drop]; omega) (hf.drop _)]
      unfold dlift
      simp [← List.map_append, hl8]
/-- a byte less -/
theorem srun_less : ∀ (n : Nat) (l : List Int), l.length = n → l ≠ [] → Fitl 60 l → (drun sstep n ((srest l).take ((srest l).length - 1))).2.2 ≠ 0 := by
  intro n
  induction n using Nat.strongRecOn with
  | ind n ih =>
    intro l hl h hf
    have hs := sel_lt hf h
    have hfit := (fit_of (sel_fit hs)).1
    have hp := shp_pos hs
    have hl8 := leb_len (swd (sel l) l) 8
    by_cases h2 : l.drop (smany (sel l)) = []
    · have e : (sstep n ((srest l).take ((srest l).length - 1))) = ([], 0, 1) := by
        rw [srest_step h hs, h2, srest_nil, List.append_nil, hl8]
        unfold sstep
        rw [if_pos (by rw [List.length_take]; omega)]
      rw [drun, if_neg (by omega), e, if_pos (by decide)]
      decide
    · have hs2 := sel_lt (hf.drop (smany (sel l))) h2
      have hr : 0 < (srest (l.drop (smany (sel l)))).length := by rw [srest_step h2 hs2, List.length_append, leb_len]; omega
      have e : (srest l).take ((srest l).length - 1) = leb (swd (sel l) l) 8 ++ (srest (l.drop (smany (sel l)))).take ((srest (l.drop (smany (sel l)))).length - 1) := by
        rw [srest_step h hs, List.length_append, List.take_append, List.take_of_length_le (by omega)]; congr 2; omega
      have h1 := sstep_one hf h ((srest (l.drop (smany (sel l)))).take ((srest (l.drop (smany (sel l)))).length - 1))
      rw [hl] at h1
      have hlt : ((l.take (smany (sel l))).map zag).length = smany (sel l) := by simp; omega
      rw [e, drun_start, drun_step [] 0 (by omega) (by rw [h1]) (by rw [h1]; simp only [hlt]; omega), h1]
      simp only [List.nil_append, Nat.zero_add, hlt]
      rw [List.drop_left' hl8]
      have := ih (n - smany (sel l)) (by omega) _ (by rw [List.length_drop]; omega) h2 (hf.drop _)
      unfold dlift
      rw [if_pos this]; exact this
theorem srest_len : ∀ (n : Nat) (l : List Int), l.length = n → (srest l).length ≤ 8 * n ∧ (srest l).length % 8 = 0 := by
  intro n
  induction n using Nat.strongRecOn with
  | ind n ih =>
    intro l hl
    by_cases h : l = []
    · subst h; rw [srest_nil]; simp
    · have hlp : 0 < l.length := List.length_pos_iff.2 h
      by_cases hs : sel l < 16
      · have hp := shp_pos hs
        have := ih (n - smany (sel l)) (by omega) (l.drop (smany (sel l))) (by rw [List.length_drop]; omega)
        rw [srest_step h hs, List.length_append, leb_len]
        omega
      · rw [srest, dif_neg h, dif_neg hs]; simp
theorem srest_bytes : ∀ (n : Nat) (l : List Int), l.length = n → ∀ x ∈ srest l, 0 ≤ x ∧ x ≤ 255 := by
  intro n
  induction n using Nat.strongRecOn with
  | ind n ih =>
    intro l hl x hx
    by_cases h : l = []
    · subst h; rw [srest_nil] at hx; simp at hx
    · have hlp : 0 < l.length := List.length_pos_iff.2 h
      by_cases hs : sel l < 16
      · have hp := shp_pos hs
        rw [srest_step h hs] at hx
        rcases List.mem_append.1 hx with hx | hx
        · exact leb_bytes _ _ x hx
        · exact ih (n - smany (sel l)) (by omega) _ (by rw [List.length_drop]; omega) x hx
      · rw [srest, dif_neg h, dif_neg hs] at hx; simp at hx
theorem srest_pos {l : List Int} (hf : Fitl 60 l) (h : l ≠ []) : 8 ≤ (srest l).length := by
  rw [srest_step h (sel_lt hf h), List.length_append, leb_len]; omega
theorem simBacks (xs : List Int) (h : ∀ x ∈ xs, I64 x) (ht : tak stk xs = true) : Go.Proofs.YtaohdbagcfgoeaaDoor.Backs stk sform sdec xs := by
  have hq : blk xs.length = true ∧ stk xs = true := by unfold tak at ht; simpa using ht
  obtain ⟨hb, hk⟩ := hq
  have hN := of_decide_eq_true hb
  have hf := stk_fit hk
  have hzl : (xs.map zig).length = xs.length := by simp
  have hne : xs.map zig ≠ [] := fun e => by rw [e] at hzl; simp at hzl; omega
  have hzz := zags_zigs xs
  have hE : sform xs = srest (xs.map zig) := by unfold sform; rw [if_pos hk]
  have hl := srest_len _ _ hzl
  have hp := srest_pos hf hne
  refine backsOf ?_ ?_ hb ?_ ?_ ?_
  · rw [hE]; exact srest_bytes _ _ rfl
  · rw [hE]; omega
  · intro r
    rw [hE]
    have := srun_rest r _ _ hzl hf
    unfold srun
    rw [this, hzz]
  · rw [hE]; exact srun_less _ _ hzl hne hf
  · rw [hE]; omega
theorem sstep_ok {lack : Nat} {b : List Int} (_hb : ∀ x ∈ b, 0 ≤ x ∧ x ≤ 255) (he : (sstep lack b).2.2 = 0) : (sstep lack b).1.length ≤ lack ∧ (∀ x ∈ (sstep lack b).1, I64 x) ∧ (sstep lack b).2.1 ≤ b.length := by
  unfold sstep at he ⊢
  split at he
  · simp at he
  · rename_i h8
    rw [if_neg h8]
    unfold sbody at he ⊢
    split at he
    · simp at he
    · rename_i h1
      rw [if_neg h1]
      split at he
      · simp at he
      · rename_i h2
        rw [if_neg h2]
        refine ⟨by simp only [List.length_map, svals_len]; omega, fun x hx => ?_, by show 8 ≤ _; omega⟩
        obtain ⟨u, hu, rfl⟩ := List.mem_map.1 hx
        unfold svals at hu
        split at hu
        · rw [List.eq_of_mem_replicate hu]; exact zag_min 1 (by decide) (by decide)
        · have h3 := unp_fit _ _ _ u hu
          have hbit : sbits (nums (b.take 8) / 2 ^ 60) ≤ 60 := by
            by_cases hk : nums (b.take 8) / 2 ^ 60 < 16
            · exact (shp_ok _ hk).2.2.1
            · have : shp[nums (b.take 8) / 2 ^ 60]? = none := List.getElem?_eq_none (by show 16 ≤ _; omega)
              unfold sbits; rw [this]; decide
          have h4 : 2 ^ sbits (nums (b.take 8) / 2 ^ 60) ≤ 2 ^ 60 := pow_mono2 hbit
          have h5 : (2 : Nat) ^ 60 = 1152921504606846976 := by decide
          exact zag_min _ h3.1 (by omega)
theorem sdec_ok (ys : List Int) (N : Nat) (hb : ∀ x ∈ ys, 0 ≤ x ∧ x ≤ 255) : ((sdec ys N).2 = 0 → (sdec ys N).1.length = N ∧ ∀ x ∈ (sdec ys N).1, I64 x) ∧ ((sdec ys N).2 ≠ 0 → (sdec ys N).1 = []) := by
  refine decOf_ok (fun n b hb h => ?_) ys N hb
  have := drun_ok (step := sstep) (P := I64) (Q := fun b => ∀ x ∈ b, 0 ≤ x ∧ x ≤ 255) (fun b k hb x hx => hb x (List.mem_of_mem_drop hx)) (fun lack b hb hl he => sstep_ok hb he) n b hb h
  exact ⟨this.1, this.2.1⟩
/-- one number more: at most a word more -/
theorem srest_more : ∀ (n : Nat) (l : List Int) (x : Int), l.length = n → Fitl 60 (l ++ [x]) → (srest (l ++ [x])).length ≤ (srest l).length + 8 := by
  intro n
  induction n using Nat.strongRecOn with
  | ind n ih =>
    intro l x hl hf
    have hne : l ++ [x] ≠ [] := by simp
    have hs := sel_lt hf hne
    have hfl : Fitl 60 l := fun u hu => hf u (by simp [hu])
    by_cases h : l = []
    · have := (srest_len 1 (l ++ [x]) (by simp [h])).1
      omega
    · have hsl := sel_lt hfl h
      have hfa := sel_fit hs
      have hfb := sel_fit hsl
      have ha := fit_of hfa
      have hb := fit_of hfb
      obtain ⟨k, hk⟩ : ∃ k, sel (l ++ [x]) = k := ⟨_, rfl⟩
      rw [hk] at hs hfa ha
      have hpk := shp_pos hs
      by_cases h1 : smany k ≤ l.length
      · -- the same word
        have ht : (l ++ [x]).take (smany k) = l.take (smany k) := by rw [List.take_append, show smany k - l.length = 0 by omega]; simp
        have hd : (l ++ [x]).drop (smany k) = l.drop (smany k) ++ [x] := by rw [List.drop_append, show smany k - l.length = 0 by omega]; simp
        have hkl : sel l = k := by
          refine sel_eq hs (decide_eq_true ⟨h1, by rw [← ht]; exact ha.2⟩) (fun j hj => ?_)
          have h3 := sel_not (l := l ++ [x]) (j := j) (by omega)
          apply Classical.byContradiction
          intro h4
          have h5 := fit_of (by simpa using h4 : sfit j l = true)
          have h6 : sfit j (l ++ [x]) = true := decide_eq_true ⟨by rw [List.length_append]; omega, by rw [List.take_append, show smany j - l.length = 0 by omega]; simpa using h5.2⟩
          rw [h3] at h6; simp at h6
        have h2 := ih (n - smany k) (by omega) (l.drop (smany k)) x (by rw [List.length_drop]; omega) (by rw [← hd]; exact hf.drop _)
        rw [srest_step hne (by omega), srest_step h hsl, hk, hkl, hd, List.length_append, List.length_append, leb_len, leb_len]
        omega
      · -- it takes all
        have hall : (l ++ [x]).drop (smany k) = [] := List.drop_of_length_le (by rw [List.length_append]; simp; omega)
        rw [srest_step hne (by omega), hk, hall, srest_nil, List.append_nil, leb_len]
        have := srest_pos hfl h
        omega
end Go.Cor
