/-
  Chapter 1, the reference: bits, bytes of bits, a bit, the number of some bits.
  Chapter 1, the reference: Pack, of numbers that fit.
  Chapter 10, the plain part: blocks in runs, there and back.
  Chapter 1, the reference: Need, Unpack.
-/
import Derived.Deep.OwnRows
import Derived.Test.YtkbcmblgieoleaaG12
import Derived.Test.YtkbcmblgieoleaaG15
import Derived.Test.YtkbcmblgieoleaaG16
import Derived.Test.YtkbcmblgieoleaaG18
namespace Go.Cor
open Go Go.RowKit
/-- a fresh row of cells -/
def RetV (B : Nat) (E : TypeId) (w : World) (vs : List Value) (e : Ending) (w' : World) : Prop :=
  ∃ A n c, e = .returned (.slice A n c) ∧ w'.ownsRow B E 1 (.slice A n c) n vs ∧ Below B w w'
theorem made_list (z : Value) (n : Nat) : (madeCells #[z] n).toList = List.replicate n z := by
  apply List.ext_getElem (by simp [size_madeCells])
  intro i h1 h2
  simp [madeCells, Nat.mod_one]
theorem leb_zero (m : Nat) : leb 0 m = List.replicate m 0 := by
  apply List.ext_getElem (by simp [leb_len])
  intro i h1 h2
  simp [leb]
/-- a new row of noughts -/
theorem owns_made {w : World} {B : Nat} {E : TypeId} {k : IntKind} {n : Nat} (hB : B ≤ w.heap.size) (hn : n ≤ maxLen) : Owns (w.alloc (.cells (madeCells #[.int k 0] n) E)) B E k (some ⟨w.heap.size, 0, none⟩) n n (List.replicate n 0) := by
  have h := World.ownsRow_lit (size := 1) (base := B) (e := E) w (cs := madeCells #[Value.int k 0] n) n hB hn (by simp [size_madeCells])
  rw [made_list] at h
  show World.ownsRow _ _ _ _ _ _ ((List.replicate n (0 : Int)).map (.int k))
  rw [List.map_replicate]
  exact h
theorem bool_one (bs : List Bool) : ∀ u ∈ bs.map Value.bool, u.oneCell' = true := by
  intro u hu
  obtain ⟨b, _, rfl⟩ := List.mem_map.1 hu
  rfl
theorem bool_one1 {x : Bool} : ∀ u ∈ [Value.bool x], u.oneCell' = true := by intro u hu; simp at hu; subst hu; rfl
theorem bit_nat (u : Nat) : (((u : Int) % 2) == 1) = decide (u % 2 = 1) := by
  rw [Bool.eq_iff_iff]; simp only [beq_iff_eq, decide_eq_true_eq]; omega
end Go.Cor
namespace Go.Proofs.Ytkbcmblgieoleaa
open Go.RowKit Go.Cor Go.Free

theorem elemBool : ElemT Try.prog 144 4 (.bool false) 1 1 := ⟨Try.underlying144, by kernel_rfl, rfl, by decide⟩
set_option maxRecDepth 100000 in
set_option maxHeartbeats 1000000 in
theorem refBits_any (v k : Nat) (hk : k ≤ 64) (hv : (v : Int) ≤ 18446744073709551615) (w : World) :
    Calls Try.prog 121 #[.int .u64 v, .int .i64 k] w (RetV w.heap.size 4 w ((bitsOf v k).map .bool)) := by
  go_enter Try.func121, Try.ntmps121
  go_wp2
  go_loopg [0, 5, 6] k (fun g v0 v5 v6 wr => ∃ i u : Nat, v6 = .int .i64 i ∧ i ≤ k ∧ g = k - i ∧ v0 = .int .u64 u ∧ ∃ A' c', v5 = .slice A' i c' ∧ Hid (u = v / 2 ^ i ∧ wr.ownsRow w.heap.size 4 1 (.slice A' i c') i ((bitsOf v i).map .bool) ∧ Below w.heap.size w wr))
  case atStart => exact ⟨0, v, rfl, by omega, by omega, rfl, none, 0, rfl, Lib.hid ⟨by simp, ⟨rfl, .inl ⟨rfl, rfl⟩⟩, Below.refl _ _⟩⟩
  case round =>
    obtain ⟨i, u, rfl, hi, rfl, rfl, A', c', rfl, hI⟩ := hrel
    by_cases hlt : i < k
    · have hu2 : u ≤ v := by rw [hI.out.1]; exact Nat.div_le_self _ _
      have e1 : IntKind.u64.wrap ((u : Int).tdiv 2) = (u : Int) / 2 := by rw [Int.tdiv_eq_ediv_of_nonneg (by omega), wrapu64_in _ (by omega) (by omega)]
      have e2 : IntKind.u64.wrap ((u : Int).tmod 2) = (u : Int) % 2 := by rw [Int.tmod_eq_emod_of_nonneg (by omega), wrapu64_in _ (by omega) (by omega)]
      go_wp2_with (at_builtin; refine wpList_append_r rfl rfl elemBool (hI.out.2.1.alloc _) rfl (RdV.one (Box.new _ _ _)) rfl bool_one1 (by omega) (by omega) (by have := hI.out.2.2.size; simp; omega) ?_; intro A2 c2 w3 hown hg _)
      have HG := Lib.hid (below_grown (hI.out.2.2.alloc hI.out.2.2.size _) (hI.out.2.1.alloc _) hg (by have := hI.out.2.2.size; simp; omega))
      rw [bit_nat, hI.out.1] at hown
      have HO := Lib.hid hown
      clear hown hg
      go_roundg (k - (i + 1))
      case measure => omega
      case rel =>
        refine ⟨i + 1, u / 2, by go_num, by omega, rfl, by first | rfl | (refine val_i ?_; omega), A2, c2, rfl, Lib.hid ⟨by rw [hI.out.1, Nat.pow_succ, Nat.div_div_eq_div_mul], ?_, HG.out⟩⟩
        rw [← bitsOf_snoc, List.map_append]; exact HO.out
    · obtain rfl : i = k := by omega
      go_wp2
      go_ret
      exact ⟨A', i, c', rfl, hI.out.2.1, hI.out.2.2⟩
set_option maxRecDepth 100000 in
set_option maxHeartbeats 2000000 in
theorem refBytes_any (A : Option Addr) (n c : Nat) (bs : List Bool) (w : World) (h : RdV w 1 A n c (bs.map .bool)) (hn : n ≤ 100000) :
    Calls Try.prog 122 #[.slice A n c] w (RetRow w.heap.size 5 .u8 w (leb (nbs bs) (octets n))) := by
  have hlen : bs.length = n := by have := h.len; simpa using this
  have hoc : octets n ≤ 100000 := by unfold octets; omega
  have e1 : IntKind.i64.wrap ((n : Int) + 7) = (n : Int) + 7 := wrapi64_in _ (by omega) (by omega)
  have e2 : IntKind.i64.wrap (((n : Int) + 7).tdiv 8) = ((octets n : Nat) : Int) := by
    unfold octets; rw [Int.tdiv_eq_ediv_of_nonneg (by omega), wrapi64_in _ (by omega) (by omega)]; omega
  have hdef : ∀ i : Nat, i < n → i / 8 < octets n := fun i hi => by unfold octets; omega
  have HD := Lib.hid hdef
  have hmk := run_make_row' (P := Try.prog) 30 5 (.int .u8 0) 1 Try.underlying30 (by kernel_rfl) rfl .i64 .i64 (octets n) (by omega) (by omega)
  obtain ⟨M, hM⟩ : ∃ M, octets n = M := ⟨_, rfl⟩
  rw [hM] at hoc e2 hmk HD ⊢
  have H := Lib.hid h
  have HL := Lib.hid hlen
  have hst : Owns (w.alloc (.cells (madeCells #[.int .u8 0] M) 5)) w.heap.size 5 .u8 (some ⟨w.heap.size, 0, none⟩) M M (leb 0 M) := by
    rw [leb_zero]; exact owns_made (Nat.le_refl _) (by simp [maxLen]; omega)
  have HST := Lib.hid hst
  clear h hlen hdef hM hst
  go_enter Try.func122, Try.ntmps122
  go_wp2
  obtain ⟨g, hg⟩ : ∃ g, w.heap.size = g := ⟨_, rfl⟩
  have HB0 := Lib.hid (Below.alloc (Below.refl w.heap.size w) (Nat.le_refl _) (.cells (madeCells #[.int .u8 0] M) 5))
  go_loopg [4] n (fun gg v4 wr => ∃ i : Nat, v4 = .int .i64 i ∧ i ≤ n ∧ gg = n - i ∧ Hid (Owns wr w.heap.size 5 .u8 (some ⟨w.heap.size, 0, none⟩) M M (leb (nbs (bs.take i)) M) ∧ Below w.heap.size w wr))
  case atStart => exact ⟨0, rfl, by omega, by omega, Lib.hid ⟨HST.out, HB0.out⟩⟩
  case round =>
    obtain ⟨i, rfl, hi, rfl, hI⟩ := hrel
    by_cases hlt : i < n
    · obtain ⟨b', o, rfl, hbl, hc⟩ := H.out.get (by omega)
      have hbx : (bs.map Value.bool)[i]? = some (.bool (bs[i]?.getD false)) := by rw [List.getElem?_map, List.getElem?_eq_getElem (by have := HL.out; omega)]; rfl
      have hcell := hc i _ hbx
      have hcell' : wr.cell? ⟨b', o + i, none⟩ = some (.bool (bs[i]?.getD false)) := by rw [World.cell?_of_block (w := w) (w' := wr) (hI.out.2.block b' hbl)]; exact hcell
      have hnt := nbs_take (l := bs) (i := i) (by have := HL.out; omega)
      have hlt8 : nbs (bs.take i) < 2 ^ i := by have := nbs_lt (bs.take i); rwa [List.length_take, Nat.min_eq_left (by have := HL.out; omega)] at this
      have hlb := leb_bit (u := 1) hlt8 (by decide) (HD.out i hlt)
      have e3 : IntKind.i64.wrap ((i : Int).tdiv 8) = ((i / 8 : Nat) : Int) := by rw [Int.tdiv_eq_ediv_of_nonneg (by omega), wrapi64_in _ (by omega) (by omega)]; omega
      have e4 : IntKind.i64.wrap ((i : Int).tmod 8) = ((i % 8 : Nat) : Int) := by rw [Int.tmod_eq_emod_of_nonneg (by omega), wrapi64_in _ (by omega) (by omega)]; omega
      obtain ⟨x, hx⟩ : ∃ x, bs[i]?.getD false = x := ⟨_, rfl⟩
      rw [hx] at hcell' hnt
      obtain ⟨g', c4, hv4, hBg, hgl, hcl, hfr, hset⟩ := owns_put (i := i / 8) (y := ((nbs (bs.take i) / 256 ^ (i / 8) % 256 + 1 * 2 ^ (i % 8) : Nat) : Int)) hI.out.1 (HD.out i hlt)
      injection hv4 with hA hk4 hc4
      injection hA with hA
      injection hA with hA
      subst hA hc4
      rw [leb_at (HD.out i hlt)] at hcl
      have hi8 := HD.out i hlt
      obtain ⟨q, hq⟩ : ∃ q, i / 8 = q := ⟨_, rfl⟩
      obtain ⟨a, ha⟩ : ∃ a, i % 8 = a := ⟨_, rfl⟩
      have ha8 : a < 8 := by omega
      rw [hq, ha] at hlb hset
      rw [hq] at e3 hcl hfr hi8
      rw [ha] at e4
      obtain ⟨y, hy⟩ : ∃ y, nbs (bs.take i) / 256 ^ q % 256 = y := ⟨_, rfl⟩
      rw [hy] at hcl hlb hset
      rw [hlb.1] at hset
      have HSET := Lib.hid (And.intro hset (And.intro hnt (And.intro hlb.2 hBg)))
      have hy8 := hlb.2
      have eq1 : IntKind.i64.wrap (q : Int) = (q : Int) := wrapi64_in _ (by omega) (by omega)
      have e5 : (i : Int) / 8 = (q : Int) := by omega
      have e6 : (i : Int) % 8 = (a : Int) := by omega
      clear hc hbx hcell hx hnt hlt8 hlb hset hy hq ha hBg hk4 hg
      cases x with
      | false =>
        go_wp2_with fail
        go_roundg (n - (i + 1))
        case measure => omega
        case rel => exact ⟨i + 1, by go_num, by omega, rfl, Lib.hid ⟨by have := HSET.out.2.1; simp at this; rw [this]; exact hI.out.1, hI.out.2⟩⟩
      | true =>
        go_upto_region 6 with fail
        simp only [Option.map_some] at hcl
        go_region
        have ey : ((y : Int) + 2 ^ a) % 256 = ((y + 1 * 2 ^ a : Nat) : Int) := by
          have : (2 : Int) ^ a = ((2 ^ a : Nat) : Int) := by simp
          rw [this]; omega
        rw [ey]
        go_wp2_with fail
        go_roundg (n - (i + 1))
        case measure => omega
        case rel => exact ⟨i + 1, by go_num, by omega, rfl, Lib.hid ⟨by have := HSET.out.2.1; simp only [Bool.toNat_true] at this; rw [this]; have h1 := HSET.out.1; rw [show ((y + 1 * 2 ^ a : Nat) : Int) = (y : Int) + 2 ^ a by simp] at h1; exact h1, below_drewN (hI.out.2.setCell HSET.out.2.2.2 _) 1⟩⟩
    · obtain rfl : i = n := by omega
      have ho := hI.out.1
      rw [List.take_of_length_le (by have := HL.out; omega)] at ho
      have HO := Lib.hid ho
      clear ho
      go_wp2
      go_ret
      exact ⟨_, _, _, rfl, HO.out, hI.out.2⟩
set_option maxRecDepth 100000 in
set_option maxHeartbeats 1000000 in
theorem refHas_any (A : Option Addr) (n c : Nat) (xs : List Int) (k : Nat) (w : World) (h : Rd w .u8 A n c xs) (hb : By xs) (hk : k / 8 < n) (hn : n ≤ 100000) :
    Calls Try.prog 102 #[.slice A n c, .int .i64 k] w fun e w' => e = .returned (.bool (decide (nums xs / 2 ^ k % 2 = 1))) ∧ w = w' := by
  have hbit := bit_at hb (j := k) (by rw [h.len]; exact hk)
  rw [hbit]
  obtain ⟨b', o, rfl, hbl, hc⟩ := h.get (by omega)
  have hcell := hc (k / 8) hk
  rw [List.getD_eq_getElem?_getD] at hcell
  have hx := hb (xs[k / 8]?.getD 0) (by rw [List.getElem?_eq_getElem (by have := h.len; omega)]; exact List.getElem_mem _)
  obtain ⟨x, hxe⟩ : ∃ x, xs[k / 8]?.getD 0 = x := ⟨_, rfl⟩
  rw [hxe] at hcell hx ⊢
  obtain ⟨x, rfl⟩ := Int.eq_ofNat_of_zero_le hx.1
  rw [Int.toNat_natCast]
  obtain ⟨q, hq⟩ : ∃ q, k / 8 = q := ⟨_, rfl⟩
  obtain ⟨a, ha⟩ : ∃ a, k % 8 = a := ⟨_, rfl⟩
  have ha8 : a < 8 := by omega
  have e3 : IntKind.i64.wrap ((k : Int).tdiv 8) = (q : Int) := by rw [Int.tdiv_eq_ediv_of_nonneg (by omega), wrapi64_in _ (by omega) (by omega)]; omega
  have e4 : IntKind.i64.wrap ((k : Int).tmod 8) = (a : Int) := by rw [Int.tmod_eq_emod_of_nonneg (by omega), wrapi64_in _ (by omega) (by omega)]; omega
  have e5 : (k : Int) / 8 = (q : Int) := by omega
  have e6 : (k : Int) % 8 = (a : Int) := by omega
  have eq1 : IntKind.i64.wrap (q : Int) = (q : Int) := wrapi64_in _ (by omega) (by omega)
  rw [hq] at hcell hk
  rw [ha]
  have hz : x / 2 ^ a ≤ x := Nat.div_le_self _ _
  have HF := Lib.hid (show (((x : Int) / 2 ^ a) % 2 == 1) = decide (x / 2 ^ a % 2 = 1) by rw [shr_nat, bit_nat])
  have e7 : IntKind.u8.wrap (((x : Int) / 2 ^ a).tmod 2) = (x : Int) / 2 ^ a % 2 := by rw [shr_nat]; obtain ⟨z, hz⟩ : ∃ z, x / 2 ^ a = z := ⟨_, rfl⟩; rw [hz, Int.tmod_eq_emod_of_nonneg (by omega), wrapu8_in _ (by omega) (by omega)]
  clear hc hxe h hbit hq ha hz
  go_enter Try.func102, Try.ntmps102
  go_wp2
  go_ret
  exact ⟨ret_b HF.out, rfl⟩
theorem num_step (N f m : Nat) : N / 2 ^ f % 2 ^ (m + 1) = N / 2 ^ f % 2 + 2 * (N / 2 ^ (f + 1) % 2 ^ m) := by
  rw [Nat.pow_succ', Nat.mod_mul, Nat.div_div_eq_div_mul, ← Nat.pow_succ]
set_option maxRecDepth 100000 in
set_option maxHeartbeats 1000000 in
theorem refNum01_any (A : Option Addr) (n c : Nat) (xs : List Int) (f k : Nat) (w : World) (h : Rd w .u8 A n c xs) (hb : By xs) (hf : f + k ≤ 8 * n) (hk : k ≤ 64) (hn : n ≤ 100000) :
    Calls Try.prog 101 #[.slice A n c, .int .i64 f, .int .i64 k] w fun e w' => e = .returned (.int .u64 ((nums xs / 2 ^ f % 2 ^ k : Nat) : Int)) ∧ w = w' := by
  have H := Lib.hid h
  have HB := Lib.hid hb
  clear h hb
  go_enter Try.func101, Try.ntmps101
  go_wp2
  go_loopg [7, 8] (k + 1) (fun g v7 v8 wr => ∃ j v : Nat, v8 = .int .i64 ((j : Int) - 1) ∧ j ≤ k ∧ g = j + 1 ∧ v7 = .int .u64 v ∧ w = wr ∧ Hid (v = nums xs / 2 ^ (f + j) % 2 ^ (k - j)))
  case atStart => exact ⟨k, 0, rfl, by omega, rfl, rfl, rfl, Lib.hid (by simp [Nat.mod_one])⟩
  case round =>
    obtain ⟨j, v, rfl, hj, rfl, rfl, rfl, hv⟩ := hrel
    by_cases hlt : 0 < j
    · obtain ⟨i, rfl⟩ : ∃ i, j = i + 1 := ⟨j - 1, by omega⟩
      have hi : ((i + 1 : Nat) : Int) - 1 = (i : Int) := by omega
      rw [hi]
      have hst := num_step (nums xs) (f + i) (k - (i + 1))
      rw [show k - (i + 1) + 1 = k - i by omega, Nat.add_assoc, ← hv.out] at hst
      have hbd : nums xs / 2 ^ (f + i) % 2 ^ (k - i) < 2 ^ 64 := Nat.lt_of_lt_of_le (Nat.mod_lt _ (pow_pos2 _)) (Nat.pow_le_pow_right (by decide) (by omega))
      have HH := Lib.hid (refHas_any A n c xs (f + i) w H.out HB.out (by omega) hn)
      rw [hst] at hbd
      have HST := Lib.hid hst
      have e1 : IntKind.i64.wrap ((f : Int) + (i : Int)) = (f : Int) + (i : Int) := wrapi64_in _ (by omega) (by omega)
      have e2 : (f : Int) + (i : Int) = ((f + i : Nat) : Int) := by simp
      obtain ⟨bit, hbit⟩ : ∃ bit, nums xs / 2 ^ (f + i) % 2 = bit := ⟨_, rfl⟩
      rw [hbit] at HH HST hbd
      have e3 : IntKind.u64.wrap (2 * (v : Int)) = 2 * (v : Int) := wrapu64_in _ (by omega) (by omega)
      clear hst hi e2
      by_cases h1 : bit = 1
      · subst h1
        have e4 : IntKind.u64.wrap (2 * (v : Int) + 1) = 2 * (v : Int) + 1 := wrapu64_in _ (by omega) (by omega)
        rw [decide_eq_true rfl] at HH
        clear hbd hbit
        go_wp2_with fail
        refine HH.out.mono ?_
        rintro e w' ⟨rfl, rfl⟩
        go_wp2_with fail
        go_roundg (i + 1)
        case measure => omega
        case rel => exact ⟨i, 2 * v + 1, by go_num, by omega, rfl, val_i (by omega), rfl, Lib.hid (by rw [HST.out]; omega)⟩
      · have hb0 : bit = 0 := by omega
        rw [decide_eq_false h1] at HH
        clear hbd hbit h1
        go_wp2_with fail
        refine HH.out.mono ?_
        rintro e w' ⟨rfl, rfl⟩
        go_wp2_with fail
        go_roundg (i + 1)
        case measure => omega
        case rel => exact ⟨i, 2 * v, by go_num, by omega, rfl, val_i (by omega), rfl, Lib.hid (by rw [HST.out]; omega)⟩
    · obtain rfl : j = 0 := by omega
      have HV := Lib.hid hv.out
      clear hv
      go_wp2
      go_ret
      exact ⟨by rw [HV.out]; rfl, rfl⟩
end Go.Proofs.Ytkbcmblgieoleaa

namespace Go.Cor
/-- what Pack hands out of numbers that fit -/
def packr (k : Nat) (us : List Int) : List Int × Int := if 1024 < us.length then ([], 7) else (packed k us, 0)
end Go.Cor
namespace Go.Proofs.Ytkbcmblgieoleaa
open Go.RowKit Go.Cor Go.Free

set_option maxRecDepth 100000 in
set_option maxHeartbeats 2000000 in
theorem refPack_any (A : Option Addr) (n c : Nat) (us : List Int) (k : Nat) (w : World) (h : Rd w .u64 A n c us) (hi : In .u64 us) (hk : k ≤ 64) (hf : Fitl k us) :
    Calls Try.prog 81 #[.int .i64 k, .slice A n c] w (RetPair w.heap.size 5 .u8 w (packr k us)) := by
  have hw := fun w => rwide_any (k : Int) w
  rw [show decide (0 ≤ (k : Int) ∧ (k : Int) ≤ 64) = true by simp; omega] at hw
  have HW := Lib.hid hw
  have H := Lib.hid h
  have HI := Lib.hid hi
  have HF := Lib.hid hf
  have HU := Lib.hid (show packr k us = if 1024 < n then ([], 7) else (packed k us, 0) by unfold packr; rw [h.len])
  clear h hw hi hf
  by_cases hn : 1024 < n
  · go_enter Try.func81, Try.ntmps81
    go_wp2_with fail
    refine (HW.out _).mono ?_
    rintro e w' ⟨rfl, rfl⟩
    go_wp2
    go_ret2
    exact ⟨none, 0, 0, by rw [HU.out, if_pos hn]; rfl, by rw [HU.out, if_pos hn]; exact owns_nil _ _ _ _, Below.refl _ _⟩
  go_enter Try.func81, Try.ntmps81
  go_wp2_with fail
  refine (HW.out _).mono ?_
  rintro e w' ⟨rfl, rfl⟩
  go_wp2_with fail
  go_loopg [6, 7] n (fun g v6 v7 wr => ∃ i : Nat, v7 = .int .i64 i ∧ g = n - i ∧ i ≤ n ∧ ∃ A' m c', v6 = .slice A' m c' ∧ m = k * i ∧ Hid (wr.ownsRow w.heap.size 4 1 (.slice A' m c') m ((bitl k (us.take i)).map .bool) ∧ Below w.heap.size w wr))
  case atStart => exact ⟨0, rfl, by omega, by omega, none, 0, 0, rfl, by simp, Lib.hid ⟨⟨rfl, .inl ⟨rfl, rfl⟩⟩, Below.refl _ _⟩⟩
  case round =>
    obtain ⟨i, rfl, rfl, hi, A', m, c', rfl, hm, hI⟩ := hrel
    by_cases hlt : i < n
    · obtain ⟨b', o, rfl, hbl, hc⟩ := (H.out.below hI.out.2).get (by omega)
      have hcell := hc i hlt
      have hl := H.out.len
      have e1 := bitl_snoc k (l := us) (i := i) (by omega)
      rw [List.getD_eq_getElem?_getD] at hcell
      have hmem : us[i]?.getD 0 ∈ us := by rw [List.getElem?_eq_getElem (by omega)]; exact List.getElem_mem _
      have hx := HI.out _ hmem
      have hx2 := HF.out _ hmem
      obtain ⟨x, hxe⟩ : ∃ x, us[i]?.getD 0 = x := ⟨_, rfl⟩
      rw [hxe] at hcell e1 hx hx2
      obtain ⟨x, rfl⟩ := Int.eq_ofNat_of_zero_le hx2.1
      rw [Int.toNat_natCast] at e1 hx2
      have hmb : m ≤ 65536 := by rw [hm]; exact Nat.mul_le_mul hk (show i ≤ 1024 by omega)
      have hff := fun w => refFits_any x k hk hx.2 w
      rw [decide_eq_true hx2.2] at hff
      have HFF := Lib.hid hff
      have HBI := Lib.hid (fun w => refBits_any x k hk hx.2 w)
      have E1 := Lib.hid e1
      have HM := Lib.hid hm
      clear hc hl e1 hmem hx hx2 hxe hff hm
      go_wp2_with fail
      refine (HFF.out _).mono ?_
      rintro e w' ⟨rfl, rfl⟩
      go_wp2_with fail
      refine (HBI.out _).mono ?_
      rintro e w2 ⟨A2, m2, c2, rfl, ho2, hb2⟩
      obtain rfl : m2 = k := by have := ho2.1; simp [bitsOf_len] at this; exact this.symm
      have HR2 := Lib.hid (RdV.own ho2)
      have HO := Lib.hid (owns_keep (S := fun _ _ => True) hI.out.1 (.of_below hb2) fun _ _ _ => trivial)
      have HB := Lib.hid (hI.out.2.trans (hb2.mono hI.out.2.size))
      clear ho2 hb2
      go_wp2_with (at_builtin; refine wpList_append_r rfl rfl elemBool HO.out rfl HR2.out rfl (bool_one _) (by omega) (by omega) HB.out.size ?_; intro A3 c3 w3 hown hg _)
      have HB3 := Lib.hid (below_grown HB.out HO.out hg HB.out.size)
      have hown' := hown
      rw [← List.map_append, E1.out] at hown'
      have HO3 := Lib.hid hown'
      clear hown hown' hg
      go_roundg (n - (i + 1))
      case measure => omega
      case rel => exact ⟨i + 1, by go_num, rfl, by omega, A3, _, c3, rfl, by rw [HM.out, Nat.mul_add, Nat.mul_one], Lib.hid ⟨HO3.out, HB3.out⟩⟩
    · obtain rfl : i = n := by omega
      have ho := hI.out.1
      rw [List.take_of_length_le (by have := H.out.len; omega)] at ho
      have hmb : m ≤ 65536 := by rw [hm]; exact Nat.mul_le_mul hk (show i ≤ 1024 by omega)
      have HY := Lib.hid (refBytes_any _ _ _ _ _ (RdV.own ho) (by omega))
      have HU' := Lib.hid (show packr k us = (leb (nbs (bitl k us)) (octets m), 0) by rw [HU.out, if_neg hn, nbs_bitl HF.out, packed, H.out.len, hm, Nat.mul_comm])
      clear ho hm
      go_wp2_with fail
      refine HY.out.mono ?_
      rintro e w2 ⟨A2, m2, c2, rfl, ho2, hb2⟩
      have HO := Lib.hid (owns_weak ho2 hI.out.2.size)
      have HB := Lib.hid (hI.out.2.trans (hb2.mono hI.out.2.size))
      clear ho2 hb2
      go_wp2
      go_ret2
      exact ⟨A2, m2, c2, by rw [HU'.out]; rfl, by rw [HU'.out]; exact HO.out, HB.out⟩
end Go.Proofs.Ytkbcmblgieoleaa

namespace Go.Cor
open Go
def sameAs (a : Int) : List Int → Nat
  | [] => 0
  | x :: r => if x = a then sameAs a r + 1 else 0
/-- how many of the first numbers are one and the same -/
def same (l : List Int) : Nat := sameAs (l[0]?.getD 0) l
theorem sameAs_le (a : Int) (l : List Int) : sameAs a l ≤ l.length := by
  induction l with
  | nil => simp [sameAs]
  | cons x r ih => rw [sameAs]; split <;> simp <;> omega
theorem same_le (l : List Int) : same l ≤ l.length := sameAs_le _ _
theorem same_pos {l : List Int} (h : l ≠ []) : 1 ≤ same l := by
  cases l with
  | nil => exact absurd rfl h
  | cons x r => simp [same, sameAs]
theorem sameAs_drop (a : Int) {l : List Int} {k : Nat} (h : k < l.length) : sameAs a (l.drop k) = if l[k]?.getD 0 = a then sameAs a (l.drop (k + 1)) + 1 else 0 := by
  rw [drop_cons_getD l 0 h, sameAs]
theorem sameAs_take (a : Int) (l : List Int) : l.take (sameAs a l) = List.replicate (sameAs a l) a := by
  induction l with
  | nil => simp [sameAs]
  | cons x r ih =>
    rw [sameAs]
    split
    · rename_i h; subst h; rw [List.take_succ_cons, ih, List.replicate_succ]
    · simp
/-- how many groups of eight stand ahead of a run -/
def hgr : Nat → List Int → Nat
  | 0, _ => 0
  | f + 1, l => if l = [] ∨ 8 ≤ same l then 0 else hgr f (l.drop 8) + 1
theorem hgr_bd : ∀ (f : Nat) (l : List Int), hgr f l ≠ 0 → 8 * (hgr f l - 1) < l.length
  | 0, l, h => by simp [hgr] at h
  | f + 1, l, h => by
    rw [hgr] at h ⊢
    split at h
    · exact absurd rfl h
    · rename_i h1
      rw [if_neg h1]
      rw [not_or] at h1
      have h3 : 0 < l.length := List.length_pos_iff.2 h1.1
      by_cases h2 : hgr f (l.drop 8) = 0
      · rw [h2]; simpa using h3
      · have := hgr_bd f (l.drop 8) h2
        rw [List.length_drop] at this
        omega
/-- how many numbers the next run has -/
def htak (l : List Int) : Nat := if 8 ≤ same l then same l else min (8 * hgr l.length l) l.length
theorem htak_le (l : List Int) : htak l ≤ l.length := by unfold htak; have := same_le l; split <;> omega
theorem htak_pos {l : List Int} (h : l ≠ []) : 1 ≤ htak l := by
  unfold htak
  split
  · omega
  · rename_i h1
    cases l with
    | nil => exact absurd rfl h
    | cons x r => rw [List.length_cons, hgr, if_neg (by simp; omega)]; omega
/-- a packed run's numbers, and noughts till the last group is full -/
def hpad (us : List Int) : List Int := us ++ List.replicate (8 * ((us.length + 7) / 8) - us.length) 0
theorem hpad_len (us : List Int) : (hpad us).length = 8 * ((us.length + 7) / 8) := by simp [hpad]; omega
/-- a run's bytes: of one number so often, or of packed ones -/
def hput (w often : Nat) (us : List Int) : List Int :=
  if 0 < often then vput (2 * often) ++ leb (us[0]?.getD 0).toNat (octets w) else vput (2 * ((us.length + 7) / 8) + 1) ++ (packr w (hpad us)).1
/-- the next run's bytes -/
def hone (w : Nat) (l : List Int) : List Int := if 8 ≤ same l then hput w (same l) (l.take 1) else hput w 0 (l.take (htak l))
/-- the bytes of all runs -/
def hrest (w : Nat) (l : List Int) : List Int := if h : l = [] then [] else hone w l ++ hrest w (l.drop (htak l))
termination_by l.length
decreasing_by rw [List.length_drop]; have := htak_pos h; have : 0 < l.length := List.length_pos_iff.2 h; omega
theorem hrest_nil (w : Nat) : hrest w [] = [] := by rw [hrest, dif_pos rfl]
theorem hrest_step (w : Nat) {l : List Int} (h : l ≠ []) : hrest w l = hone w l ++ hrest w (l.drop (htak l)) := by rw [hrest, dif_neg h]
/-- the runs: how often (packed: 0), from which place on, how many numbers are told -/
def hlist (at_ : Nat) (l : List Int) : List (Nat × Nat × Nat) := if h : l = [] then [] else (if 8 ≤ same l then (same l, at_, 1) else (0, at_, htak l)) :: hlist (at_ + htak l) (l.drop (htak l))
termination_by l.length
decreasing_by rw [List.length_drop]; have := htak_pos h; have : 0 < l.length := List.length_pos_iff.2 h; omega
theorem hlist_nil (at_ : Nat) : hlist at_ [] = [] := by rw [hlist, dif_pos rfl]
theorem hlist_step (at_ : Nat) {l : List Int} (h : l ≠ []) : hlist at_ l = (if 8 ≤ same l then (same l, at_, 1) else (0, at_, htak l)) :: hlist (at_ + htak l) (l.drop (htak l)) := by rw [hlist, dif_neg h]
theorem hlist_rest (w : Nat) (zs : List Int) : ∀ (n : Nat) (at_ : Nat), (zs.drop at_).length = n → ((hlist at_ (zs.drop at_)).map fun x => hput w x.1 ((zs.drop x.2.1).take x.2.2)).flatten = hrest w (zs.drop at_) := by
  intro n
  induction n using Nat.strongRecOn with
  | ind n ih =>
    intro at_ hl
    by_cases h : zs.drop at_ = []
    · rw [h, hlist_nil, hrest_nil]; rfl
    · have hp := htak_pos h
      have hle := htak_le (zs.drop at_)
      rw [hlist_step at_ h, hrest_step w h, List.map_cons, List.flatten_cons]
      have h2 := ih (n - htak (zs.drop at_)) (by omega) (at_ + htak (zs.drop at_)) (by rw [← List.drop_drop, List.length_drop, hl])
      rw [← List.drop_drop] at h2
      rw [h2]
      congr 1
      unfold hone
      split <;> rfl
/-- what a told run holds -/
theorem hlist_in {zs : List Int} : ∀ (n : Nat) (at_ : Nat), (zs.drop at_).length = n → ∀ x ∈ hlist at_ (zs.drop at_), x.1 ≤ zs.length ∧ 0 < x.2.2 ∧ x.2.1 + x.2.2 ≤ zs.length := by
  intro n
  induction n using Nat.strongRecOn with
  | ind n ih =>
    intro at_ hl x hx
    by_cases h : zs.drop at_ = []
    · rw [h, hlist_nil] at hx; simp at hx
    · have hp := htak_pos h
      have hle := htak_le (zs.drop at_)
      have hs := same_le (zs.drop at_)
      have hlz : 0 < (zs.drop at_).length := List.length_pos_iff.2 h
      have hld := List.length_drop (i := at_) (l := zs)
      rw [hlist_step at_ h] at hx
      rcases List.mem_cons.1 hx with rfl | hx
      · split
        · exact ⟨by show same _ ≤ _; omega, Nat.one_pos, by show at_ + 1 ≤ _; omega⟩
        · exact ⟨by show 0 ≤ _; omega, by show 0 < htak _; omega, by show at_ + htak _ ≤ _; omega⟩
      · refine ih (n - htak (zs.drop at_)) (by omega) (at_ + htak (zs.drop at_)) (by rw [← List.drop_drop, List.length_drop, hl]) x ?_
        rw [← List.drop_drop]; exact hx
/-- a block's form in runs -/
def hform (xs : List Int) : List Int := most (xs.map zig) :: hrest (most (xs.map zig)).toNat (xs.map zig)

/-- the next run of bytes, of which so many numbers lack -/
def hstep (w lack : Nat) (b : List Int) : List Int × Nat × Int :=
  if (vget 0 b).2.2 ≠ 0 then ([], 0, (vget 0 b).2.2)
  else if (vget 0 b).1.toNat ≤ 1 then ([], 0, 7)
  else if (vget 0 b).1.toNat % 2 = 0 then
    if lack < (vget 0 b).1.toNat / 2 then ([], 0, 7)
    else if (b.drop (vget 0 b).2.1.toNat).length < octets w then ([], 0, 1)
    else if 2 ^ w ≤ nums ((b.drop (vget 0 b).2.1.toNat).take (octets w)) then ([], 0, 4)
    else (List.replicate ((vget 0 b).1.toNat / 2) (zag (nums ((b.drop (vget 0 b).2.1.toNat).take (octets w)) : Nat)), (vget 0 b).2.1.toNat + octets w, 0)
  else
    if (lack + 7) / 8 < (vget 0 b).1.toNat / 2 then ([], 0, 7)
    else if (b.drop (vget 0 b).2.1.toNat).length < (vget 0 b).1.toNat / 2 * w then ([], 0, 1)
    else if ((unp w (8 * ((vget 0 b).1.toNat / 2)) (nums ((b.drop (vget 0 b).2.1.toNat).take ((vget 0 b).1.toNat / 2 * w)))).drop lack).any (· != 0) then ([], 0, 3)
    else (((unp w (8 * ((vget 0 b).1.toNat / 2)) (nums ((b.drop (vget 0 b).2.1.toNat).take ((vget 0 b).1.toNat / 2 * w)))).take lack).map zag, (vget 0 b).2.1.toNat + (vget 0 b).1.toNat / 2 * w, 0)
/-- the same, its head being read -/
def hbody (w lack h m : Nat) (b : List Int) : List Int × Nat × Int :=
  if h ≤ 1 then ([], 0, 7)
  else if h % 2 = 0 then
    if lack < h / 2 then ([], 0, 7)
    else if b.length < octets w then ([], 0, 1)
    else if 2 ^ w ≤ nums (b.take (octets w)) then ([], 0, 4)
    else (List.replicate (h / 2) (zag (nums (b.take (octets w)) : Nat)), m + octets w, 0)
  else
    if (lack + 7) / 8 < h / 2 then ([], 0, 7)
    else if b.length < h / 2 * w then ([], 0, 1)
    else if ((unp w (8 * (h / 2)) (nums (b.take (h / 2 * w)))).drop lack).any (· != 0) then ([], 0, 3)
    else (((unp w (8 * (h / 2)) (nums (b.take (h / 2 * w)))).take lack).map zag, m + h / 2 * w, 0)
theorem hstep_eq (w lack : Nat) (b : List Int) : hstep w lack b = if (vget 0 b).2.2 ≠ 0 then ([], 0, (vget 0 b).2.2) else hbody w lack (vget 0 b).1.toNat (vget 0 b).2.1.toNat (b.drop (vget 0 b).2.1.toNat) := rfl
theorem hstep_get (w lack : Nat) {b : List Int} {h m : Nat} (e : vget 0 b = ((h : Int), (m : Int), 0)) : hstep w lack b = hbody w lack h m (b.drop m) := by
  rw [hstep_eq, e, if_neg (by simp)]; simp

/-- all numbers of bytes -/
def hrun (n : Nat) (ys : List Int) : List Int × Nat × Int :=
  if ys = [] then ([], 0, 1) else if 64 < (ys[0]?.getD 0).toNat then ([], 0, 6) else dlift [] 1 (drun (hstep (ys[0]?.getD 0).toNat) n (ys.drop 1))
def hdec : List Int → Int → List Int × Int := decOf hrun

theorem pow_mono2 {a b : Nat} (h : a ≤ b) : 2 ^ a ≤ 2 ^ b := Nat.pow_le_pow_right (by decide) h
theorem Fitl.take {k : Nat} {l : List Int} (h : Fitl k l) (n : Nat) : Fitl k (l.take n) := fun u hu => h u (List.mem_of_mem_take hu)
theorem Fitl.drop {k : Nat} {l : List Int} (h : Fitl k l) (n : Nat) : Fitl k (l.drop n) := fun u hu => h u (List.mem_of_mem_drop hu)
theorem Fitl.pad {k : Nat} {l : List Int} (h : Fitl k l) : Fitl k (hpad l) := by
  intro u hu
  rcases List.mem_append.1 hu with hu | hu
  · exact h u hu
  · rw [List.eq_of_mem_replicate hu]; exact ⟨by omega, pow_pos2 k⟩
theorem Fitl.get {k : Nat} {l : List Int} (h : Fitl k l) (n : Nat) : 0 ≤ l[n]?.getD 0 ∧ (l[n]?.getD 0).toNat < 2 ^ k := by
  by_cases hn : n < l.length
  · rw [List.getElem?_eq_getElem hn]; exact h _ (List.getElem_mem _)
  · rw [List.getElem?_eq_none (by omega)]; exact ⟨by decide, pow_pos2 k⟩
theorem small_vput {h : Nat} (hh : h ≤ 4096) : h < 2 ^ (64 - 7 * 0) := Nat.lt_of_le_of_lt hh (by decide)
theorem nums_leb {v m : Nat} (h : v < 256 ^ m) : nums (leb v m) = v := by
  unfold nums; rw [num_leb, Int.toNat_natCast, Nat.mod_eq_of_lt h]
theorem packed_bytes (k : Nat) (l : List Int) : ∀ x ∈ packed k l, 0 ≤ x ∧ x ≤ 255 := leb_bytes _ _
theorem oct8 (g w : Nat) : octets (8 * g * w) = g * w := by unfold octets; rw [Nat.mul_assoc]; omega
theorem packr_in {w : Nat} {us : List Int} (h : us.length ≤ 1024) : packr w us = (packed w us, 0) := by unfold packr; rw [if_neg (by omega)]

/-- one run, there and back -/
theorem hstep_one {w : Nat} (hw : w ≤ 64) {l : List Int} (hf : Fitl w l) (hl : l ≠ []) (hn : l.length ≤ 1024) (r : List Int) : hstep w l.length (hone w l ++ r) = ((l.take (htak l)).map zag, (hone w l).length, 0) := by
  have hlen : 0 < l.length := List.length_pos_iff.2 hl
  unfold hone
  by_cases h8 : 8 ≤ same l
  · rw [if_pos h8]
    have hs := same_le l
    have ht : htak l = same l := by unfold htak; rw [if_pos h8]
    have ht2 : l.take (same l) = List.replicate (same l) (l[0]?.getD 0) := sameAs_take _ _
    have h0 : (l.take 1)[0]?.getD 0 = l[0]?.getD 0 := by cases l with
      | nil => exact absurd rfl hl
      | cons x r => simp
    have hv := hf.get 0
    rw [hput, if_pos (by omega), h0, ht, ht2]
    obtain ⟨n, hs'⟩ : ∃ n, same l = n := ⟨_, rfl⟩
    obtain ⟨v, hve⟩ := Int.eq_ofNat_of_zero_le hv.1
    rw [hs'] at h8 hs ⊢
    rw [hve] at hv ⊢
    rw [Int.toNat_natCast] at hv ⊢
    have hg := vget_put (2 * n) 0 (leb v (octets w) ++ r) (by omega) (small_vput (by omega)) (by omega)
    rw [List.append_assoc, hstep_get w l.length (h := 2 * n) (m := (vput (2 * n)).length) (by rw [hg]; simp), List.drop_left]
    have hlb := leb_len v (octets w)
    have hv2 : v < 256 ^ octets w := by
      rw [two8]; exact Nat.lt_of_lt_of_le hv.2 (pow_mono2 (by unfold octets; omega))
    rw [hbody, if_neg (by omega), if_pos (by omega), if_neg (by omega), if_neg (by rw [List.length_append]; omega), List.take_left' hlb, nums_leb hv2, if_neg (by omega), show 2 * n / 2 = n by omega, List.length_append, hlb, List.map_replicate]
  · rw [if_neg h8, hput, if_neg (by omega)]
    have ht : htak l = min (8 * hgr l.length l) l.length := by unfold htak; rw [if_neg h8]
    have hp := htak_pos hl
    have hle := htak_le l
    obtain ⟨t, ht'⟩ : ∃ t, htak l = t := ⟨_, rfl⟩
    rw [ht'] at ht hp hle ⊢
    have hus : (l.take t).length = t := by rw [List.length_take]; omega
    have hpl := hpad_len (l.take t)
    have hpf := (hf.take t).pad
    rw [hus] at hpl ⊢
    obtain ⟨g, hg'⟩ : ∃ g, (t + 7) / 8 = g := ⟨_, rfl⟩
    rw [hg'] at hpl ⊢
    have hg1 : 1 ≤ g := by omega
    have hgl : g ≤ (l.length + 7) / 8 := by omega
    rw [packr_in (us := hpad (l.take t)) (w := w) (by omega)]
    have hg := vget_put (2 * g + 1) 0 (packed w (hpad (l.take t)) ++ r) (by omega) (small_vput (by omega)) (by omega)
    have hpk := packed_len w (hpad (l.take t))
    rw [hpl, oct8] at hpk
    simp only
    rw [List.append_assoc, hstep_get w l.length (h := 2 * g + 1) (m := (vput (2 * g + 1)).length) (by rw [hg]; simp), List.drop_left]
    have hun : unp w (8 * g) (nums (packed w (hpad (l.take t)))) = hpad (l.take t) := by rw [nums_packed hpf, ← hpl]; exact unp_pk hpf
    have hdrop : (hpad (l.take t)).drop l.length = List.replicate (8 * g - l.length) 0 := by
      unfold hpad
      rw [List.drop_append, List.drop_of_length_le (by omega), List.nil_append, hus, hg', List.drop_replicate]
      congr 1
      omega
    have htake : (hpad (l.take t)).take l.length = l.take t := by
      unfold hpad
      rw [hus, hg']
      by_cases h1 : 8 * g ≤ l.length
      · rw [show 8 * g - t = 0 by omega, List.replicate_zero, List.append_nil]
        exact List.take_of_length_le (by rw [hus]; exact hle)
      · rw [List.take_append, hus, show l.length - t = 0 by omega, List.take_zero, List.append_nil]
        exact List.take_of_length_le (by rw [hus]; omega)
    rw [hbody, if_neg (by omega), if_neg (by omega), show (2 * g + 1) / 2 = g by omega, if_neg (by omega), if_neg (by rw [List.length_append]; omega), List.take_left' hpk, hun, hdrop, htake,
      if_neg (by simp), List.length_append, hpk]
theorem hone_pos (w : Nat) (l : List Int) : 0 < (hone w l).length := by
  unfold hone hput
  split
  · split
    · rw [List.length_append]; have := vput_pos (2 * same l); omega
    · rw [List.length_append]; have := vput_pos (2 * (((l.take 1).length + 7) / 8) + 1); omega
  · rw [if_neg (by omega), List.length_append]; have := vput_pos (2 * (((l.take (htak l)).length + 7) / 8) + 1); omega
theorem hrun_rest {w : Nat} (hw : w ≤ 64) (r : List Int) : ∀ (n : Nat) (l : List Int), l.length = n → Fitl w l → n ≤ 1024 → drun (hstep w) n (hrest w l ++ r) = (l.map zag, (hrest w l).length, 0) := by
  intro n
  induction n using Nat.strongRecOn with
  | ind n ih =>
    intro l hl hf hn
    by_cases h : l = []
    · subst h; simp at hl; subst hl; rw [hrest_nil, drun, if_pos rfl]; simp
    · have hp := htak_pos h
      have hle := htak_le l
      have h1 := hstep_one hw hf h (by omega) (hrest w (l.drop (htak l)) ++ r)
      rw [hl] at h1
      rw [drun_start, hrest_step w h, List.append_assoc]
      have hlt : ((l.take (htak l)).map zag).length = htak l := by simp; omega
      rw [drun_step [] 0 (by omega) (by rw [h1]) (by rw [h1]; simp only [hlt]; omega), h1]
      simp only [List.nil_append, Nat.zero_add, hlt, List.drop_left]
      rw [ih (n - htak l) (by omega) _ (by rw [List.length_drop]; omega) (hf.drop _) (by omega)]
      unfold dlift
      simp [← List.map_append]
/-- a byte less -/
theorem hstep_cut {w : Nat} (hw : w ≤ 64) {l : List Int} (hl : l ≠ []) (hn : l.length ≤ 1024) : (hstep w l.length ((hone w l).take ((hone w l).length - 1))).2.2 = 1 := by
  have hlen : 0 < l.length := List.length_pos_iff.2 hl
  have cut : ∀ (h : Nat) (pay : List Int), h ≤ 4096 → (pay = [] ∨ ∀ m, (hbody w l.length h m (pay.take (pay.length - 1))).2.2 = 1) → (hstep w l.length ((vput h ++ pay).take ((vput h ++ pay).length - 1))).2.2 = 1 := by
    intro h pay hh hp
    have hv := vput_pos h
    have hv2 := vput_len_u64 h (by omega)
    by_cases h0 : pay = []
    · subst h0
      rw [List.append_nil, hstep_eq, vget_cut h 0 _ (by omega) (by omega)]
      simp
    · have hpl : 0 < pay.length := List.length_pos_iff.2 h0
      have e : (vput h ++ pay).take ((vput h ++ pay).length - 1) = vput h ++ pay.take (pay.length - 1) := by
        rw [List.length_append, List.take_append, List.take_of_length_le (by omega)]; congr 2; omega
      have hg := vget_put h 0 (pay.take (pay.length - 1)) (by omega) (small_vput (by omega)) (by omega)
      rw [e, hstep_get w l.length (h := h) (m := (vput h).length) (by rw [hg]; simp), List.drop_left]
      rcases hp with hp | hp
      · exact absurd hp h0
      · exact hp _
  unfold hone
  by_cases h8 : 8 ≤ same l
  · rw [if_pos h8, hput, if_pos (by omega)]
    have hs := same_le l
    by_cases h0 : octets w = 0
    · exact cut _ _ (by omega) (.inl (List.eq_nil_of_length_eq_zero (by rw [leb_len]; exact h0)))
    · refine cut _ _ (by omega) (.inr fun m => ?_)
      rw [leb_len, hbody, if_neg (by omega), if_pos (by omega), if_neg (by omega), if_pos (by rw [List.length_take, leb_len]; omega)]
  · rw [if_neg h8, hput, if_neg (by omega)]
    have hp := htak_pos hl
    have hle := htak_le l
    obtain ⟨t, ht'⟩ : ∃ t, htak l = t := ⟨_, rfl⟩
    rw [ht'] at hp hle ⊢
    have hus : (l.take t).length = t := by rw [List.length_take]; omega
    have hpl := hpad_len (l.take t)
    rw [hus] at hpl ⊢
    obtain ⟨g, hg'⟩ : ∃ g, (t + 7) / 8 = g := ⟨_, rfl⟩
    rw [hg'] at hpl ⊢
    rw [packr_in (us := hpad (l.take t)) (w := w) (by omega)]
    have hpk := packed_len w (hpad (l.take t))
    rw [hpl, oct8] at hpk
    by_cases h0 : g * w = 0
    · exact cut _ _ (by omega) (.inl (List.eq_nil_of_length_eq_zero (by rw [hpk]; exact h0)))
    · refine cut _ _ (by omega) (.inr fun m => ?_)
      rw [hpk, hbody, if_neg (by omega), if_neg (by omega), show (2 * g + 1) / 2 = g by omega, if_neg (by omega), if_pos (by rw [List.length_take, hpk]; omega)]
theorem hrest_pos {w : Nat} {l : List Int} (h : l ≠ []) : 0 < (hrest w l).length := by rw [hrest_step w h, List.length_append]; have := hone_pos w l; omega
theorem hrun_less {w : Nat} (hw : w ≤ 64) : ∀ (n : Nat) (l : List Int), l.length = n → l ≠ [] → Fitl w l → n ≤ 1024 → (drun (hstep w) n ((hrest w l).take ((hrest w l).length - 1))).2.2 ≠ 0 := by
  intro n
  induction n using Nat.strongRecOn with
  | ind n ih =>
    intro l hl h hf hn
    have hp := htak_pos h
    have hle := htak_le l
    have hn0 : n ≠ 0 := by rw [← hl]; have := List.length_pos_iff.2 h; omega
    by_cases h2 : l.drop (htak l) = []
    · have hc := hstep_cut hw h (by omega)
      rw [hrest_step w h, h2, hrest_nil, List.append_nil]
      rw [hl] at hc
      rw [drun, if_neg hn0, if_pos (by rw [hc]; decide), hc]
      decide
    · have hr := hrest_pos (w := w) h2
      have e : (hrest w l).take ((hrest w l).length - 1) = hone w l ++ (hrest w (l.drop (htak l))).take ((hrest w (l.drop (htak l))).length - 1) := by
        rw [hrest_step w h, List.length_append, List.take_append, List.take_of_length_le (by omega)]; congr 2; omega
      have h1 := hstep_one hw hf h (by omega) ((hrest w (l.drop (htak l))).take ((hrest w (l.drop (htak l))).length - 1))
      rw [hl] at h1
      have hlt : ((l.take (htak l)).map zag).length = htak l := by simp; omega
      rw [e, drun_start, drun_step [] 0 hn0 (by rw [h1]) (by rw [h1]; simp only [hlt]; omega), h1]
      simp only [List.nil_append, Nat.zero_add, hlt, List.drop_left]
      have := ih (n - htak l) (by omega) _ (by rw [List.length_drop]; omega) h2 (hf.drop _) (by omega)
      unfold dlift
      rw [if_pos this]; exact this

theorem hput_bytes (w o : Nat) (us : List Int) : ∀ x ∈ hput w o us, 0 ≤ x ∧ x ≤ 255 := by
  intro x hx
  unfold hput at hx
  split at hx
  · rcases List.mem_append.1 hx with hx | hx
    · exact vput_bytes _ x hx
    · exact leb_bytes _ _ x hx
  · rcases List.mem_append.1 hx with hx | hx
    · exact vput_bytes _ x hx
    · unfold packr at hx
      split at hx
      · simp at hx
      · exact packed_bytes _ _ x hx
theorem hrest_bytes (w : Nat) : ∀ (n : Nat) (l : List Int), l.length = n → ∀ x ∈ hrest w l, 0 ≤ x ∧ x ≤ 255 := by
  intro n
  induction n using Nat.strongRecOn with
  | ind n ih =>
    intro l hl x hx
    by_cases h : l = []
    · subst h; rw [hrest_nil] at hx; simp at hx
    · have hp := htak_pos h
      have hle := htak_le l
      rw [hrest_step w h] at hx
      rcases List.mem_append.1 hx with hx | hx
      · unfold hone at hx
        split at hx <;> exact hput_bytes _ _ _ x hx
      · exact ih (n - htak l) (by have := List.length_pos_iff.2 h; omega) _ (by rw [List.length_drop]; omega) x hx
/-- how long a run is -/
theorem hput_len {w o : Nat} (hw : w ≤ 64) {us : List Int} (hu : us.length ≤ 1200) (ho : o ≤ 1200) : (hput w o us).length ≤ 8 * us.length + 66 := by
  unfold hput
  split
  · rw [List.length_append, leb_len]
    have := vput_len_u64 (2 * o) (by omega)
    have : octets w ≤ 8 := by unfold octets; omega
    omega
  · rw [List.length_append]
    have h1 := vput_len_u64 (2 * ((us.length + 7) / 8) + 1) (by omega)
    have h2 : ((packr w (hpad us)).1).length ≤ (us.length + 7) / 8 * w := by
      unfold packr
      split
      · simp
      · simp only [packed_len, hpad_len, oct8]; omega
    have h3 : (us.length + 7) / 8 * w ≤ (us.length + 7) / 8 * 64 := Nat.mul_le_mul_left _ hw
    omega
theorem hone_len {w : Nat} (hw : w ≤ 64) {l : List Int} (hn : l.length ≤ 1200) : (hone w l).length ≤ 8 * htak l + 66 := by
  have hs := same_le l
  have hle := htak_le l
  unfold hone
  split
  · rename_i h8
    have ht : htak l = same l := by unfold htak; rw [if_pos h8]
    have := hput_len (o := same l) hw (us := l.take 1) (by rw [List.length_take]; omega) (by omega)
    rw [List.length_take] at this
    omega
  · have := hput_len (o := 0) hw (us := l.take (htak l)) (by rw [List.length_take]; omega) (by omega)
    rw [List.length_take] at this
    omega
theorem htak_eight {l : List Int} (h : l.drop (htak l) ≠ []) : 8 ≤ htak l := by
  have hl : htak l < l.length := by have := List.length_pos_iff.2 h; rw [List.length_drop] at this; omega
  unfold htak at hl ⊢
  split
  · assumption
  · rename_i h8
    rw [if_neg h8] at hl
    have hne : l ≠ [] := fun e => by subst e; simp at hl
    have := htak_pos hne
    unfold htak at this
    rw [if_neg h8] at this
    omega
theorem hrest_len {w : Nat} (hw : w ≤ 64) : ∀ (n : Nat) (l : List Int), l.length = n → n ≤ 1200 → (hrest w l).length ≤ 17 * n + 66 := by
  intro n
  induction n using Nat.strongRecOn with
  | ind n ih =>
    intro l hl hn
    by_cases h : l = []
    · subst h; rw [hrest_nil]; simp
    · have hp := htak_pos h
      have hle := htak_le l
      have h1 := hone_len hw (l := l) (by omega)
      rw [hrest_step w h, List.length_append]
      by_cases h2 : l.drop (htak l) = []
      · rw [h2, hrest_nil]; simp; omega
      · have h3 := htak_eight h2
        have h4 := ih (n - htak l) (by omega) (l.drop (htak l)) (by rw [List.length_drop]; omega) (by omega)
        omega

theorem bw_nat (x : Int) (h : x ≤ 18446744073709551615) : bw x ≤ 64 ∧ 0 ≤ bw x := ⟨(bw_bound x h).2, (bw_bound x h).1⟩
theorem foldmost (l : List Int) : ∀ m : Int, 0 ≤ m → m ≤ l.foldl (fun m v => max m (bw v)) m ∧ (∀ u ∈ l, bw u ≤ l.foldl (fun m v => max m (bw v)) m) ∧ ((∀ u ∈ l, bw u ≤ 64) → m ≤ 64 → l.foldl (fun m v => max m (bw v)) m ≤ 64) := by
  induction l with
  | nil => intro m _; simp
  | cons x r ih =>
    intro m hm
    obtain ⟨h1, h2, h3⟩ := ih (max m (bw x)) (by omega)
    simp only [List.foldl_cons]
    refine ⟨by omega, fun u hu => ?_, fun h4 h5 => h3 (fun u hu => h4 u (by simp [hu])) (by have := h4 x (by simp); omega)⟩
    rcases List.mem_cons.1 hu with rfl | hu
    · omega
    · exact h2 u hu
theorem most_bd {l : List Int} (h : ∀ u ∈ l, 0 ≤ u ∧ u ≤ 18446744073709551615) : 0 ≤ most l ∧ most l ≤ 64 := by
  have h1 := foldmost l 0 (by omega)
  exact ⟨h1.1, h1.2.2 (fun u hu => (bw_nat u (h u hu).2).1) (by decide)⟩
theorem most_fit {l : List Int} (h : ∀ u ∈ l, 0 ≤ u) : Fitl (most l).toNat l := by
  intro u hu
  have h1 := foldmost l 0 (by omega)
  have h2 := h1.2.1 u hu
  refine ⟨h u hu, Nat.lt_of_lt_of_le (nbits_lt u.toNat) (pow_mono2 ?_)⟩
  unfold bw at h2
  unfold most bw
  omega
theorem zigs_fit (xs : List Int) : ∀ u ∈ xs.map zig, 0 ≤ u := by
  intro u hu; obtain ⟨x, _, rfl⟩ := List.mem_map.1 hu; exact zig_nonneg x
theorem zigs_u64 {xs : List Int} (h : ∀ x ∈ xs, I64 x) : ∀ u ∈ xs.map zig, 0 ≤ u ∧ u ≤ 18446744073709551615 := by
  intro u hu; obtain ⟨x, hx, rfl⟩ := List.mem_map.1 hu; exact ⟨zig_nonneg x, zig_max x (h x hx).1 (h x hx).2⟩
theorem zags_zigs (xs : List Int) : (xs.map zig).map zag = xs := by
  rw [List.map_map]
  conv => rhs; rw [← List.map_id xs]
  exact List.map_congr_left fun x _ => zig_zag x
theorem hybBacks (xs : List Int) (h : ∀ x ∈ xs, I64 x) (ht : tak tkAll xs = true) : Go.Proofs.Ytkbcmblgieoleaa.Backs tkAll hform hdec xs := by
  have hb : blk xs.length = true := by rw [tak_all] at ht; exact ht
  have hN := of_decide_eq_true hb
  have hm := most_bd (zigs_u64 h)
  have hf := most_fit (zigs_fit xs)
  have hzl : (xs.map zig).length = xs.length := by simp
  have hne : xs.map zig ≠ [] := fun e => by rw [e] at hzl; simp at hzl; omega
  obtain ⟨z, hz⟩ : ∃ z, xs.map zig = z := ⟨_, rfl⟩
  have hzz := zags_zigs xs
  have hform_eq : hform xs = most z :: hrest (most z).toNat z := by rw [← hz]; rfl
  rw [hz] at hm hf hzl hne hzz
  obtain ⟨w, hw⟩ := Int.eq_ofNat_of_zero_le hm.1
  rw [hw] at hm hf hform_eq
  rw [Int.toNat_natCast] at hf hform_eq
  have hw64 : w ≤ 64 := by omega
  have hlen := hrest_len hw64 _ z rfl (by omega)
  refine backsOf ?_ ?_ hb ?_ ?_ ?_
  · rw [hform_eq]; intro x hx
    rcases List.mem_cons.1 hx with rfl | hx
    · omega
    · exact hrest_bytes w _ z rfl x hx
  · rw [hform_eq, List.length_cons]; omega
  · intro r
    rw [hform_eq]
    have h1 := hrun_rest hw64 r _ z rfl hf (by omega)
    unfold hrun
    rw [if_neg (by simp)]
    simp only [List.cons_append, List.getElem?_cons_zero, Option.getD_some, Int.toNat_natCast, List.drop_succ_cons, List.drop_zero]
    rw [if_neg (by omega), ← hzl, h1, hzz]
    simp [dlift]; omega
  · rw [hform_eq]
    have hp := hrest_pos (w := w) hne
    have h1 := hrun_less hw64 _ z rfl hne hf (by omega)
    have e : (((w : Int)) :: hrest w z).take ((((w : Int)) :: hrest w z).length - 1) = (w : Int) :: (hrest w z).take ((hrest w z).length - 1) := by
      rw [List.length_cons, show (hrest w z).length + 1 - 1 = ((hrest w z).length - 1) + 1 by omega, List.take_succ_cons]
    rw [e]
    unfold hrun
    rw [if_neg (by simp)]
    simp only [List.getElem?_cons_zero, Option.getD_some, Int.toNat_natCast, List.drop_succ_cons, List.drop_zero]
    rw [if_neg (by omega), ← hzl]
    unfold dlift
    rw [if_pos h1]; exact h1
  · rw [hform_eq]; simp
theorem hbody_ok {w lack h m : Nat} (hw : w ≤ 64) {b : List Int} (hl : lack ≠ 0) (he : (hbody w lack h m b).2.2 = 0) : (hbody w lack h m b).1.length ≤ lack ∧ (hbody w lack h m b).1.length ≠ 0 ∧ (∀ x ∈ (hbody w lack h m b).1, I64 x) ∧ (hbody w lack h m b).2.1 ≤ m + b.length := by
  unfold hbody at he ⊢
  have hp64 : 2 ^ w ≤ 2 ^ 64 := pow_mono2 hw
  split at he
  · simp at he
  · rename_i h1
    rw [if_neg h1]
    split at he
    · rename_i h2
      rw [if_pos h2]
      split at he
      · simp at he
      · rename_i h3
        rw [if_neg h3]
        split at he
        · simp at he
        · rename_i h4
          rw [if_neg h4]
          split at he
          · simp at he
          · rename_i h5
            rw [if_neg h5]
            refine ⟨by simp; omega, by simp; omega, fun x hx => ?_, by simp; omega⟩
            rw [List.eq_of_mem_replicate hx]
            exact zag_min _ (by omega) (by omega)
    · rename_i h2
      rw [if_neg h2]
      split at he
      · simp at he
      · rename_i h3
        rw [if_neg h3]
        split at he
        · simp at he
        · rename_i h4
          rw [if_neg h4]
          split at he
          · simp at he
          · rename_i h5
            rw [if_neg h5]
            refine ⟨by simp [unp_len]; omega, by simp [unp_len]; omega, fun x hx => ?_, by show _ + _ ≤ _; omega⟩
            obtain ⟨u, hu, rfl⟩ := List.mem_map.1 hx
            have hu2 := unp_fit _ _ _ u (List.mem_of_mem_take hu)
            exact zag_min _ hu2.1 (by omega)
theorem hstep_ok {w lack : Nat} (hw : w ≤ 64) {b : List Int} (hb : ∀ x ∈ b, 0 ≤ x ∧ x ≤ 255) (hl : lack ≠ 0) (he : (hstep w lack b).2.2 = 0) : (hstep w lack b).1.length ≤ lack ∧ (hstep w lack b).1.length ≠ 0 ∧ (∀ x ∈ (hstep w lack b).1, I64 x) ∧ (hstep w lack b).2.1 ≤ b.length := by
  rw [hstep_eq] at he ⊢
  by_cases h0 : (vget 0 b).2.2 = 0
  · rw [if_neg (by simp [h0])] at he ⊢
    have hg := zrun_get hb h0
    have := hbody_ok hw hl he
    rw [List.length_drop] at this
    exact ⟨this.1, this.2.1, this.2.2.1, by omega⟩
  · rw [if_pos h0] at he; exact absurd he h0
theorem hdec_ok (ys : List Int) (N : Nat) (hb : ∀ x ∈ ys, 0 ≤ x ∧ x ≤ 255) : ((hdec ys N).2 = 0 → (hdec ys N).1.length = N ∧ ∀ x ∈ (hdec ys N).1, I64 x) ∧ ((hdec ys N).2 ≠ 0 → (hdec ys N).1 = []) := by
  refine decOf_ok (fun n b hb h => ?_) ys N hb
  unfold hrun at h ⊢
  split at h
  · simp at h
  · rename_i h1
    rw [if_neg h1]
    split at h
    · simp at h
    · rename_i h2
      rw [if_neg h2]
      unfold dlift at h ⊢
      split at h
      · rename_i h3; exact absurd h h3
      · rename_i h3
        rw [if_neg h3]
        have := drun_ok (step := hstep (b[0]?.getD 0).toNat) (P := I64) (Q := fun b => ∀ x ∈ b, 0 ≤ x ∧ x ≤ 255) (fun b k hb x hx => hb x (List.mem_of_mem_drop hx)) (fun lack b hb hl he => by have := hstep_ok (by omega) hb hl he; exact ⟨this.1, this.2.2.1, this.2.2.2⟩) n (b.drop 1) (fun x hx => hb x (List.mem_of_mem_drop hx)) (by simpa using h3)
        simp only [List.nil_append]
        exact ⟨this.1, this.2.1⟩
end Go.Cor

namespace Go.Cor
theorem wrap_mul {a b m B : Nat} (h : a * b = m) (hb : m ≤ B) (hB : B ≤ 1000000000) : IntKind.i64.wrap ((a : Int) * (b : Int)) = (m : Int) := by
  rw [show (a : Int) * (b : Int) = ((a * b : Nat) : Int) by simp, h]
  exact wrapi64_in _ (by omega) (by omega)
theorem tail_step {V s j : Nat} (h : V / 2 ^ s % 2 ^ j = 0) (h2 : ¬ V / 2 ^ (s + j) % 2 = 1) : V / 2 ^ s % 2 ^ (j + 1) = 0 := by
  rw [Nat.pow_succ, Nat.mod_mul, h, Nat.div_div_eq_div_mul, ← Nat.pow_add]
  have : V / 2 ^ (s + j) % 2 = 0 := by omega
  rw [this]; simp
theorem tail_set {V s j : Nat} (h : V / 2 ^ (s + j) % 2 = 1) : V / 2 ^ s ≠ 0 := by
  intro e
  rw [Nat.pow_add, ← Nat.div_div_eq_div_mul, e] at h
  simp at h
end Go.Cor
namespace Go.Proofs.Ytkbcmblgieoleaa
open Go.RowKit Go.Cor Go.Free

theorem rneed_any (n k : Nat) (hn : n ≤ 1024) (hk : k ≤ 64) (w : World) : Calls Try.prog 54 #[.int .i64 n, .int .i64 k] w fun e w' => e = .returned (.int .i64 (octets (n * k) : Nat)) ∧ w = w' := by
  have hw := fun w => rwide_any (k : Int) w
  rw [show decide (0 ≤ (k : Int) ∧ (k : Int) ≤ 64) = true by simp; omega] at hw
  have HW := Lib.hid hw
  have hq : n * k ≤ 1024 * 64 := Nat.mul_le_mul hn hk
  obtain ⟨q, hqe⟩ : ∃ q, n * k = q := ⟨_, rfl⟩
  have hm := wrap_mul hqe (B := 65536) (by omega) (by omega)
  rw [hqe] at hq
  rw [hqe]
  clear hw hqe
  go_enter Try.func54, Try.ntmps54
  go_wp2_with fail
  refine (HW.out _).mono ?_
  rintro e w' ⟨rfl, rfl⟩
  go_wp2
  go_ret
  exact ⟨ret_i (by unfold octets; omega), rfl⟩

set_option maxRecDepth 100000 in
set_option maxHeartbeats 4000000 in
theorem refUnpack_any (A : Option Addr) (m c : Nat) (xs : List Int) (k n : Nat) (w : World) (h : Rd w .u8 A m c xs) (hb : By xs) (hm : m ≤ 100000) (hn : n ≤ 1024) (hk : k ≤ 64) :
    Calls Try.prog 55 #[.slice A m c, .int .i64 k, .int .i64 n] w (RetPair w.heap.size 32 .u64 w (unpk k n xs)) := by
  have hw := fun w => rwide_any (k : Int) w
  rw [show decide (0 ≤ (k : Int) ∧ (k : Int) ≤ 64) = true by simp; omega] at hw
  have hnd := fun w => rneed_any n k hn hk w
  have hlen := h.len
  have hU : unpk k n xs = if m < octets (n * k) then ([], 1) else if octets (n * k) < m then ([], 2) else if nums xs / 2 ^ (k * n) ≠ 0 then ([], 3) else (unp k n (nums xs), 0) := by unfold unpk; rw [hlen]
  have hN : octets (n * k) * 8 < n * k + 8 ∧ n * k ≤ octets (n * k) * 8 := by unfold octets; omega
  have hnk : n * k ≤ 1024 * 64 := Nat.mul_le_mul hn hk
  obtain ⟨q, hq⟩ : ∃ q, octets (n * k) = q := ⟨_, rfl⟩
  rw [hq] at hnd hU hN
  have HW := Lib.hid hw
  have HND := Lib.hid hnd
  have H := Lib.hid h
  have HB := Lib.hid hb
  have HU := Lib.hid hU
  have HN := Lib.hid hN
  have HNK := Lib.hid hnk
  clear h hw hb hnd hlen hU hq hN hnk
  by_cases h1 : m < q
  · go_enter Try.func55, Try.ntmps55
    go_wp2_with fail
    refine (HW.out _).mono ?_
    rintro e w' ⟨rfl, rfl⟩
    go_wp2_with fail
    refine (HND.out _).mono ?_
    rintro e w' ⟨rfl, rfl⟩
    go_wp2
    go_ret2
    exact ⟨none, 0, 0, by rw [HU.out, if_pos h1]; rfl, by rw [HU.out, if_pos h1]; exact owns_nil _ _ _ _, Below.refl _ _⟩
  by_cases h2 : q < m
  · go_enter Try.func55, Try.ntmps55
    go_wp2_with fail
    refine (HW.out _).mono ?_
    rintro e w' ⟨rfl, rfl⟩
    go_wp2_with fail
    refine (HND.out _).mono ?_
    rintro e w' ⟨rfl, rfl⟩
    go_wp2_with fail
    refine (HND.out _).mono ?_
    rintro e w' ⟨rfl, rfl⟩
    go_wp2
    go_ret2
    exact ⟨none, 0, 0, by rw [HU.out, if_neg h1, if_pos h2]; rfl, by rw [HU.out, if_neg h1, if_pos h2]; exact owns_nil _ _ _ _, Below.refl _ _⟩
  obtain rfl : q = m := by omega
  obtain ⟨s, hs⟩ : ∃ s, n * k = s := ⟨_, rfl⟩
  have hsN := HN.out
  have hsK := HNK.out
  rw [hs] at hsN hsK
  have hms := wrap_mul hs (B := 65536) (by omega) (by omega)
  have HS := Lib.hid hs
  have HUU := Lib.hid (show unpk k n xs = if nums xs / 2 ^ s ≠ 0 then ([], 3) else (unp k n (nums xs), 0) by rw [HU.out, if_neg h1, if_neg h2, Nat.mul_comm k n, hs])
  clear HU HN HNK h1 h2 hs
  go_enter Try.func55, Try.ntmps55
  go_wp2_with fail
  refine (HW.out _).mono ?_
  rintro e w' ⟨rfl, rfl⟩
  go_wp2_with fail
  refine (HND.out _).mono ?_
  rintro e w' ⟨rfl, rfl⟩
  go_wp2_with fail
  refine (HND.out _).mono ?_
  rintro e w' ⟨rfl, rfl⟩
  go_wp2_with fail
  go_loopg [8, 9] n (fun g v8 v9 wr => ∃ i : Nat, v9 = .int .i64 i ∧ g = n - i ∧ i ≤ n ∧ ∃ A' c', v8 = .slice A' i c' ∧ Hid (Owns wr w.heap.size 32 .u64 A' i c' (unp k i (nums xs)) ∧ Below w.heap.size w wr))
  case atStart => exact ⟨0, rfl, by omega, by omega, none, 0, rfl, Lib.hid ⟨owns_nil _ _ _ _, Below.refl _ _⟩⟩
  case round =>
    obtain ⟨i, rfl, rfl, hi, A', c', rfl, hI⟩ := hrel
    by_cases hlt : i < n
    · have hik : i * k + k ≤ s := by have h3 : (i + 1) * k ≤ n * k := Nat.mul_le_mul_right _ (by omega); rw [HS.out, Nat.add_mul, Nat.one_mul] at h3; exact h3
      have hnum := fun wr (hb : Below w.heap.size w wr) => refNum01_any A q c xs (i * k) k wr (H.out.below hb) HB.out (by omega) hk hm
      obtain ⟨t, ht⟩ : ∃ t, i * k = t := ⟨_, rfl⟩
      have hmt := wrap_mul ht (B := 65536) (by omega) (by omega)
      rw [ht] at hnum hik
      have hsn := unp_snoc k i (nums xs)
      rw [Nat.mul_comm k i, ht] at hsn
      obtain ⟨v, hv⟩ : ∃ v, nums xs / 2 ^ t % 2 ^ k = v := ⟨_, rfl⟩
      rw [hv] at hsn hnum
      have HSN := Lib.hid hsn
      have HNU := Lib.hid hnum
      clear hnum hsn hv ht
      go_wp2_with fail
      refine (HNU.out _ hI.out.2).mono ?_
      rintro e w' ⟨rfl, rfl⟩
      go_wp2_with (at_builtin; refine wpList_append_r rfl rfl elemU64 (hI.out.1.alloc _) rfl (RdV.one (Box.new _ _ _)) rfl one_one (by omega) (by omega) (by have := hI.out.2.size; simp; omega) ?_; intro A2 c2 w2 hown hg _)
      go_roundg (n - (i + 1))
      case measure => omega
      case rel => exact ⟨i + 1, by go_num, rfl, by omega, A2, c2, rfl, Lib.hid ⟨by rw [← HSN.out]; exact owns_snoc hown, below_grown (hI.out.2.alloc hI.out.2.size _) (hI.out.1.alloc _) hg (by have := hI.out.2.size; simp; omega)⟩⟩
    · obtain rfl : i = n := by omega
      have HO := Lib.hid hI.out.1
      have HBW := Lib.hid hI.out.2
      clear hI
      obtain ⟨wo, rfl⟩ : ∃ wo, wo = wr := ⟨_, rfl⟩
      have H2 := Lib.hid (H.out.below HBW.out)
      have hn8 := nums_lt HB.out
      rw [H.out.len, two8] at hn8
      have HN8 := Lib.hid hn8
      clear hn8
      go_wp2_with fail
      go_loopg [10] (8 * q - s) (fun g v10 wr => ∃ j : Nat, v10 = .int .i64 ((s + j : Nat) : Int) ∧ s + j ≤ 8 * q ∧ g = 8 * q - (s + j) ∧ wo = wr ∧ Hid (nums xs / 2 ^ s % 2 ^ j = 0))
      case atStart => exact ⟨0, rfl, by omega, by omega, rfl, Lib.hid (by simp [Nat.mod_one])⟩
      case round =>
        obtain ⟨j, rfl, hj, rfl, rfl, hJ⟩ := hrel
        by_cases hlt2 : s + j < 8 * q
        · have HH := Lib.hid (refHas_any A q c xs (s + j) wo H2.out HB.out (by omega) hm)
          obtain ⟨p, hp⟩ : ∃ p, s + j = p := ⟨_, rfl⟩
          rw [hp] at HH hj hlt2
          by_cases hbit : nums xs / 2 ^ p % 2 = 1
          · rw [decide_eq_true hbit] at HH
            have HE := Lib.hid (show unpk k i xs = ([], 3) by rw [HUU.out, if_pos (tail_set (j := j) (by rw [hp]; exact hbit))])
            rw [hp]
            clear hp hbit
            go_wp2_with fail
            refine HH.out.mono ?_
            rintro e w' ⟨rfl, rfl⟩
            go_wp2
            go_ret2
            exact ⟨none, 0, 0, by rw [HE.out]; rfl, by rw [HE.out]; exact owns_nil _ _ _ _, HBW.out⟩
          · rw [decide_eq_false hbit] at HH
            have HT := Lib.hid (And.intro (tail_step hJ.out (by rw [hp]; exact hbit)) hp)
            rw [hp]
            clear hp hbit
            go_wp2_with fail
            refine HH.out.mono ?_
            rintro e w' ⟨rfl, rfl⟩
            go_wp2_with fail
            go_roundg (8 * q - (s + (j + 1)))
            case measure => have := HT.out.2; omega
            case rel => exact ⟨j + 1, by have := HT.out.2; go_num, by have := HT.out.2; omega, rfl, rfl, Lib.hid HT.out.1⟩
        · have he : s + j = 8 * q := by omega
          have hz := hJ.out
          rw [Nat.mod_eq_of_lt (Nat.div_lt_of_lt_mul (by rw [← Nat.pow_add, he]; exact HN8.out))] at hz
          have HE := Lib.hid (show unpk k i xs = (unp k i (nums xs), 0) by rw [HUU.out, if_neg (by simp [hz])])
          rw [he]
          clear hz he
          go_wp2
          go_ret2
          exact ⟨A', i, c', by rw [HE.out]; rfl, by rw [HE.out]; exact HO.out, HBW.out⟩
end Go.Proofs.Ytkbcmblgieoleaa
