/-
  Chapter 1, the reference: bits, bytes of bits, a bit, the number of some bits.
  Chapter 1: Writer.Put: the walk.
  Chapter 1: Pack, of numbers that fit.
  Chapter 1, the reference: Pack, of numbers that fit.
-/
import Derived.Deep.OwnRows
import Derived.Test.YtbfnaigefmdcdaaG8
namespace Go.Cor
open Go Go.RowKit
/-- a fresh row of cells -/
def RetV (B : Nat) (E : TypeId) (w : World) (vs : List Value) (e : Ending) (w' : World) : Prop :=
  ∃ A n c, e = .returned (.slice A n c) ∧ w'.ownsRow B E 1 (.slice A n c) n vs ∧ Below B w w'
theorem made_list (z : Value) (n : Nat) : (madeCells #[z] n).toList = List.replicate n z := by
  apply List.ext_getElem (by simp [size_madeCells])
  intro i h1 h2
  simp [madeCells, Nat.mod_one]
theorem leb_zero (m : Nat) : leb 0 m = List.replicate m 0 := by
  apply List.ext_getElem (by simp [leb_len])
  intro i h1 h2
  simp [leb]
/-- a new row of noughts -/
theorem owns_made {w : World} {B : Nat} {E : TypeId} {k : IntKind} {n : Nat} (hB : B ≤ w.heap.size) (hn : n ≤ maxLen) : Owns (w.alloc (.cells (madeCells #[.int k 0] n) E)) B E k (some ⟨w.heap.size, 0, none⟩) n n (List.replicate n 0) := by
  have h := World.ownsRow_lit (size := 1) (base := B) (e := E) w (cs := madeCells #[Value.int k 0] n) n hB hn (by simp [size_madeCells])
  rw [made_list] at h
  show World.ownsRow _ _ _ _ _ _ ((List.replicate n (0 : Int)).map (.int k))
  rw [List.map_replicate]
  exact h
theorem bool_one (bs : List Bool) : ∀ u ∈ bs.map Value.bool, u.oneCell' = true := by
  intro u hu
  obtain ⟨b, _, rfl⟩ := List.mem_map.1 hu
  rfl
theorem bool_one1 {x : Bool} : ∀ u ∈ [Value.bool x], u.oneCell' = true := by intro u hu; simp at hu; subst hu; rfl
theorem bit_nat (u : Nat) : (((u : Int) % 2) == 1) = decide (u % 2 = 1) := by
  rw [Bool.eq_iff_iff]; simp only [beq_iff_eq, decide_eq_true_eq]; omega
end Go.Cor
namespace Go.Proofs.Ytbfnaigefmdcdaa
open Go.RowKit Go.Cor Go.Free

theorem elemBool : ElemT Try.prog 99 4 (.bool false) 1 1 := ⟨Try.underlying99, by kernel_rfl, rfl, by decide⟩
set_option maxRecDepth 100000 in
set_option maxHeartbeats 1000000 in
theorem refBits_any (v k : Nat) (hk : k ≤ 64) (hv : (v : Int) ≤ 18446744073709551615) (w : World) :
    Calls Try.prog 80 #[.int .u64 v, .int .i64 k] w (RetV w.heap.size 4 w ((bitsOf v k).map .bool)) := by
  go_enter Try.func80, Try.ntmps80
  go_wp2
  go_loopg [0, 5, 6] k (fun g v0 v5 v6 wr => ∃ i u : Nat, v6 = .int .i64 i ∧ i ≤ k ∧ g = k - i ∧ v0 = .int .u64 u ∧ ∃ A' c', v5 = .slice A' i c' ∧ Hid (u = v / 2 ^ i ∧ wr.ownsRow w.heap.size 4 1 (.slice A' i c') i ((bitsOf v i).map .bool) ∧ Below w.heap.size w wr))
  case atStart => exact ⟨0, v, rfl, by omega, by omega, rfl, none, 0, rfl, Lib.hid ⟨by simp, ⟨rfl, .inl ⟨rfl, rfl⟩⟩, Below.refl _ _⟩⟩
  case round =>
    obtain ⟨i, u, rfl, hi, rfl, rfl, A', c', rfl, hI⟩ := hrel
    by_cases hlt : i < k
    · have hu2 : u ≤ v := by rw [hI.out.1]; exact Nat.div_le_self _ _
      have e1 : IntKind.u64.wrap ((u : Int).tdiv 2) = (u : Int) / 2 := by rw [Int.tdiv_eq_ediv_of_nonneg (by omega), wrapu64_in _ (by omega) (by omega)]
      have e2 : IntKind.u64.wrap ((u : Int).tmod 2) = (u : Int) % 2 := by rw [Int.tmod_eq_emod_of_nonneg (by omega), wrapu64_in _ (by omega) (by omega)]
      go_wp2_with (at_builtin; refine wpList_append_r rfl rfl elemBool (hI.out.2.1.alloc _) rfl (RdV.one (Box.new _ _ _)) rfl bool_one1 (by omega) (by omega) (by have := hI.out.2.2.size; simp; omega) ?_; intro A2 c2 w3 hown hg _)
      have HG := Lib.hid (below_grown (hI.out.2.2.alloc hI.out.2.2.size _) (hI.out.2.1.alloc _) hg (by have := hI.out.2.2.size; simp; omega))
      rw [bit_nat, hI.out.1] at hown
      have HO := Lib.hid hown
      clear hown hg
      go_roundg (k - (i + 1))
      case measure => omega
      case rel =>
        refine ⟨i + 1, u / 2, by go_num, by omega, rfl, by first | rfl | (refine val_i ?_; omega), A2, c2, rfl, Lib.hid ⟨by rw [hI.out.1, Nat.pow_succ, Nat.div_div_eq_div_mul], ?_, HG.out⟩⟩
        rw [← bitsOf_snoc, List.map_append]; exact HO.out
    · obtain rfl : i = k := by omega
      go_wp2
      go_ret
      exact ⟨A', i, c', rfl, hI.out.2.1, hI.out.2.2⟩
set_option maxRecDepth 100000 in
set_option maxHeartbeats 2000000 in
theorem refBytes_any (A : Option Addr) (n c : Nat) (bs : List Bool) (w : World) (h : RdV w 1 A n c (bs.map .bool)) (hn : n ≤ 100000) :
    Calls Try.prog 81 #[.slice A n c] w (RetRow w.heap.size 5 .u8 w (leb (nbs bs) (octets n))) := by
  have hlen : bs.length = n := by have := h.len; simpa using this
  have hoc : octets n ≤ 100000 := by unfold octets; omega
  have e1 : IntKind.i64.wrap ((n : Int) + 7) = (n : Int) + 7 := wrapi64_in _ (by omega) (by omega)
  have e2 : IntKind.i64.wrap (((n : Int) + 7).tdiv 8) = ((octets n : Nat) : Int) := by
    unfold octets; rw [Int.tdiv_eq_ediv_of_nonneg (by omega), wrapi64_in _ (by omega) (by omega)]; omega
  have hdef : ∀ i : Nat, i < n → i / 8 < octets n := fun i hi => by unfold octets; omega
  have HD := Lib.hid hdef
  have hmk := run_make_row' (P := Try.prog) 29 5 (.int .u8 0) 1 Try.underlying29 (by kernel_rfl) rfl .i64 .i64 (octets n) (by omega) (by omega)
  obtain ⟨M, hM⟩ : ∃ M, octets n = M := ⟨_, rfl⟩
  rw [hM] at hoc e2 hmk HD ⊢
  have H := Lib.hid h
  have HL := Lib.hid hlen
  have hst : Owns (w.alloc (.cells (madeCells #[.int .u8 0] M) 5)) w.heap.size 5 .u8 (some ⟨w.heap.size, 0, none⟩) M M (leb 0 M) := by
    rw [leb_zero]; exact owns_made (Nat.le_refl _) (by simp [maxLen]; omega)
  have HST := Lib.hid hst
  clear h hlen hdef hM hst
  go_enter Try.func81, Try.ntmps81
  go_wp2
  obtain ⟨g, hg⟩ : ∃ g, w.heap.size = g := ⟨_, rfl⟩
  have HB0 := Lib.hid (Below.alloc (Below.refl w.heap.size w) (Nat.le_refl _) (.cells (madeCells #[.int .u8 0] M) 5))
  go_loopg [4] n (fun gg v4 wr => ∃ i : Nat, v4 = .int .i64 i ∧ i ≤ n ∧ gg = n - i ∧ Hid (Owns wr w.heap.size 5 .u8 (some ⟨w.heap.size, 0, none⟩) M M (leb (nbs (bs.take i)) M) ∧ Below w.heap.size w wr))
  case atStart => exact ⟨0, rfl, by omega, by omega, Lib.hid ⟨HST.out, HB0.out⟩⟩
  case round =>
    obtain ⟨i, rfl, hi, rfl, hI⟩ := hrel
    by_cases hlt : i < n
    · obtain ⟨b', o, rfl, hbl, hc⟩ := H.out.get (by omega)
      have hbx : (bs.map Value.bool)[i]? = some (.bool (bs[i]?.getD false)) := by rw [List.getElem?_map, List.getElem?_eq_getElem (by have := HL.out; omega)]; rfl
      have hcell := hc i _ hbx
      have hcell' : wr.cell? ⟨b', o + i, none⟩ = some (.bool (bs[i]?.getD false)) := by rw [World.cell?_of_block (w := w) (w' := wr) (hI.out.2.block b' hbl)]; exact hcell
      have hnt := nbs_take (l := bs) (i := i) (by have := HL.out; omega)
      have hlt8 : nbs (bs.take i) < 2 ^ i := by have := nbs_lt (bs.take i); rwa [List.length_take, Nat.min_eq_left (by have := HL.out; omega)] at this
      have hlb := leb_bit (u := 1) hlt8 (by decide) (HD.out i hlt)
      have e3 : IntKind.i64.wrap ((i : Int).tdiv 8) = ((i / 8 : Nat) : Int) := by rw [Int.tdiv_eq_ediv_of_nonneg (by omega), wrapi64_in _ (by omega) (by omega)]; omega
      have e4 : IntKind.i64.wrap ((i : Int).tmod 8) = ((i % 8 : Nat) : Int) := by rw [Int.tmod_eq_emod_of_nonneg (by omega), wrapi64_in _ (by omega) (by omega)]; omega
      obtain ⟨x, hx⟩ : ∃ x, bs[i]?.getD false = x := ⟨_, rfl⟩
      rw [hx] at hcell' hnt
      obtain ⟨g', c4, hv4, hBg, hgl, hcl, hfr, hset⟩ := owns_put (i := i / 8) (y := ((nbs (bs.take i) / 256 ^ (i / 8) % 256 + 1 * 2 ^ (i % 8) : Nat) : Int)) hI.out.1 (HD.out i hlt)
      injection hv4 with hA hk4 hc4
      injection hA with hA
      injection hA with hA
      subst hA hc4
      rw [leb_at (HD.out i hlt)] at hcl
      have hi8 := HD.out i hlt
      obtain ⟨q, hq⟩ : ∃ q, i / 8 = q := ⟨_, rfl⟩
      obtain ⟨a, ha⟩ : ∃ a, i % 8 = a := ⟨_, rfl⟩
      have ha8 : a < 8 := by omega
      rw [hq, ha] at hlb hset
      rw [hq] at e3 hcl hfr hi8
      rw [ha] at e4
      obtain ⟨y, hy⟩ : ∃ y, nbs (bs.take i) / 256 ^ q % 256 = y := ⟨_, rfl⟩
      rw [hy] at hcl hlb hset
      rw [hlb.1] at hset
      have HSET := Lib.hid (And.intro hset (And.intro hnt (And.intro hlb.2 hBg)))
      have hy8 := hlb.2
      have eq1 : IntKind.i64.wrap (q : Int) = (q : Int) := wrapi64_in _ (by omega) (by omega)
      have e5 : (i : Int) / 8 = (q : Int) := by omega
      have e6 : (i : Int) % 8 = (a : Int) := by omega
      clear hc hbx hcell hx hnt hlt8 hlb hset hy hq ha hBg hk4 hg
      cases x with
      | false =>
        go_wp2_with fail
        go_roundg (n - (i + 1))
        case measure => omega
        case rel => exact ⟨i + 1, by go_num, by omega, rfl, Lib.hid ⟨by have := HSET.out.2.1; simp at this; rw [this]; exact hI.out.1, hI.out.2⟩⟩
      | true =>
        go_upto_region 6 with fail
        simp only [Option.map_some] at hcl
        go_region
        have ey : ((y : Int) + 2 ^ a) % 256 = ((y + 1 * 2 ^ a : Nat) : Int) := by
          have : (2 : Int) ^ a = ((2 ^ a : Nat) : Int) := by simp
          rw [this]; omega
        rw [ey]
        go_wp2_with fail
        go_roundg (n - (i + 1))
        case measure => omega
        case rel => exact ⟨i + 1, by go_num, by omega, rfl, Lib.hid ⟨by have := HSET.out.2.1; simp only [Bool.toNat_true] at this; rw [this]; have h1 := HSET.out.1; rw [show ((y + 1 * 2 ^ a : Nat) : Int) = (y : Int) + 2 ^ a by simp] at h1; exact h1, below_drewN (hI.out.2.setCell HSET.out.2.2.2 _) 1⟩⟩
    · obtain rfl : i = n := by omega
      have ho := hI.out.1
      rw [List.take_of_length_le (by have := HL.out; omega)] at ho
      have HO := Lib.hid ho
      clear ho
      go_wp2
      go_ret
      exact ⟨_, _, _, rfl, HO.out, hI.out.2⟩
set_option maxRecDepth 100000 in
set_option maxHeartbeats 1000000 in
theorem refHas_any (A : Option Addr) (n c : Nat) (xs : List Int) (k : Nat) (w : World) (h : Rd w .u8 A n c xs) (hb : By xs) (hk : k / 8 < n) (hn : n ≤ 100000) :
    Calls Try.prog 88 #[.slice A n c, .int .i64 k] w fun e w' => e = .returned (.bool (decide (nums xs / 2 ^ k % 2 = 1))) ∧ w = w' := by
  have hbit := bit_at hb (j := k) (by rw [h.len]; exact hk)
  rw [hbit]
  obtain ⟨b', o, rfl, hbl, hc⟩ := h.get (by omega)
  have hcell := hc (k / 8) hk
  rw [List.getD_eq_getElem?_getD] at hcell
  have hx := hb (xs[k / 8]?.getD 0) (by rw [List.getElem?_eq_getElem (by have := h.len; omega)]; exact List.getElem_mem _)
  obtain ⟨x, hxe⟩ : ∃ x, xs[k / 8]?.getD 0 = x := ⟨_, rfl⟩
  rw [hxe] at hcell hx ⊢
  obtain ⟨x, rfl⟩ := Int.eq_ofNat_of_zero_le hx.1
  rw [Int.toNat_natCast]
  obtain ⟨q, hq⟩ : ∃ q, k / 8 = q := ⟨_, rfl⟩
  obtain ⟨a, ha⟩ : ∃ a, k % 8 = a := ⟨_, rfl⟩
  have ha8 : a < 8 := by omega
  have e3 : IntKind.i64.wrap ((k : Int).tdiv 8) = (q : Int) := by rw [Int.tdiv_eq_ediv_of_nonneg (by omega), wrapi64_in _ (by omega) (by omega)]; omega
  have e4 : IntKind.i64.wrap ((k : Int).tmod 8) = (a : Int) := by rw [Int.tmod_eq_emod_of_nonneg (by omega), wrapi64_in _ (by omega) (by omega)]; omega
  have e5 : (k : Int) / 8 = (q : Int) := by omega
  have e6 : (k : Int) % 8 = (a : Int) := by omega
  have eq1 : IntKind.i64.wrap (q : Int) = (q : Int) := wrapi64_in _ (by omega) (by omega)
  rw [hq] at hcell hk
  rw [ha]
  have hz : x / 2 ^ a ≤ x := Nat.div_le_self _ _
  have HF := Lib.hid (show (((x : Int) / 2 ^ a) % 2 == 1) = decide (x / 2 ^ a % 2 = 1) by rw [shr_nat, bit_nat])
  have e7 : IntKind.u8.wrap (((x : Int) / 2 ^ a).tmod 2) = (x : Int) / 2 ^ a % 2 := by rw [shr_nat]; obtain ⟨z, hz⟩ : ∃ z, x / 2 ^ a = z := ⟨_, rfl⟩; rw [hz, Int.tmod_eq_emod_of_nonneg (by omega), wrapu8_in _ (by omega) (by omega)]
  clear hc hxe h hbit hq ha hz
  go_enter Try.func88, Try.ntmps88
  go_wp2
  go_ret
  exact ⟨ret_b HF.out, rfl⟩
theorem num_step (N f m : Nat) : N / 2 ^ f % 2 ^ (m + 1) = N / 2 ^ f % 2 + 2 * (N / 2 ^ (f + 1) % 2 ^ m) := by
  rw [Nat.pow_succ', Nat.mod_mul, Nat.div_div_eq_div_mul, ← Nat.pow_succ]
set_option maxRecDepth 100000 in
set_option maxHeartbeats 1000000 in
theorem refNum01_any (A : Option Addr) (n c : Nat) (xs : List Int) (f k : Nat) (w : World) (h : Rd w .u8 A n c xs) (hb : By xs) (hf : f + k ≤ 8 * n) (hk : k ≤ 64) (hn : n ≤ 100000) :
    Calls Try.prog 66 #[.slice A n c, .int .i64 f, .int .i64 k] w fun e w' => e = .returned (.int .u64 ((nums xs / 2 ^ f % 2 ^ k : Nat) : Int)) ∧ w = w' := by
  have H := Lib.hid h
  have HB := Lib.hid hb
  clear h hb
  go_enter Try.func66, Try.ntmps66
  go_wp2
  go_loopg [7, 8] (k + 1) (fun g v7 v8 wr => ∃ j v : Nat, v8 = .int .i64 ((j : Int) - 1) ∧ j ≤ k ∧ g = j + 1 ∧ v7 = .int .u64 v ∧ w = wr ∧ Hid (v = nums xs / 2 ^ (f + j) % 2 ^ (k - j)))
  case atStart => exact ⟨k, 0, rfl, by omega, rfl, rfl, rfl, Lib.hid (by simp [Nat.mod_one])⟩
  case round =>
    obtain ⟨j, v, rfl, hj, rfl, rfl, rfl, hv⟩ := hrel
    by_cases hlt : 0 < j
    · obtain ⟨i, rfl⟩ : ∃ i, j = i + 1 := ⟨j - 1, by omega⟩
      have hi : ((i + 1 : Nat) : Int) - 1 = (i : Int) := by omega
      rw [hi]
      have hst := num_step (nums xs) (f + i) (k - (i + 1))
      rw [show k - (i + 1) + 1 = k - i by omega, Nat.add_assoc, ← hv.out] at hst
      have hbd : nums xs / 2 ^ (f + i) % 2 ^ (k - i) < 2 ^ 64 := Nat.lt_of_lt_of_le (Nat.mod_lt _ (pow_pos2 _)) (Nat.pow_le_pow_right (by decide) (by omega))
      have HH := Lib.hid (refHas_any A n c xs (f + i) w H.out HB.out (by omega) hn)
      rw [hst] at hbd
      have HST := Lib.hid hst
      have e1 : IntKind.i64.wrap ((f : Int) + (i : Int)) = (f : Int) + (i : Int) := wrapi64_in _ (by omega) (by omega)
      have e2 : (f : Int) + (i : Int) = ((f + i : Nat) : Int) := by simp
      obtain ⟨bit, hbit⟩ : ∃ bit, nums xs / 2 ^ (f + i) % 2 = bit := ⟨_, rfl⟩
      rw [hbit] at HH HST hbd
      have e3 : IntKind.u64.wrap (2 * (v : Int)) = 2 * (v : Int) := wrapu64_in _ (by omega) (by omega)
      clear hst hi e2
      by_cases h1 : bit = 1
      · subst h1
        have e4 : IntKind.u64.wrap (2 * (v : Int) + 1) = 2 * (v : Int) + 1 := wrapu64_in _ (by omega) (by omega)
        rw [decide_eq_true rfl] at HH
        clear hbd hbit
        go_wp2_with fail
        refine HH.out.mono ?_
        rintro e w' ⟨rfl, rfl⟩
        go_wp2_with fail
        go_roundg (i + 1)
        case measure => omega
        case rel => exact ⟨i, 2 * v + 1, by go_num, by omega, rfl, val_i (by omega), rfl, Lib.hid (by rw [HST.out]; omega)⟩
      · have hb0 : bit = 0 := by omega
        rw [decide_eq_false h1] at HH
        clear hbd hbit h1
        go_wp2_with fail
        refine HH.out.mono ?_
        rintro e w' ⟨rfl, rfl⟩
        go_wp2_with fail
        go_roundg (i + 1)
        case measure => omega
        case rel => exact ⟨i, 2 * v, by go_num, by omega, rfl, val_i (by omega), rfl, Lib.hid (by rw [HST.out]; omega)⟩
    · obtain rfl : j = 0 := by omega
      have HV := Lib.hid hv.out
      clear hv
      go_wp2
      go_ret
      exact ⟨by rw [HV.out]; rfl, rfl⟩
end Go.Proofs.Ytbfnaigefmdcdaa

namespace Go.Cor
open Go
theorem put_byte {V u a s q g : Nat} (hV : V / 256 ^ q < 2 ^ a) (ha : a < 8) (hu : u < 2 ^ g) (hg : g ≤ 64) (hs : s = min (8 - a) g) :
    bits .or .u8 ((V : Int) / 256 ^ q % 256) (IntKind.u64.wrap ((u : Int) * 2 ^ a) % 256) = ((V / 256 ^ q + u % 2 ^ s * 2 ^ a : Nat) : Int) := by
  have hw : IntKind.u64.wrap ((u : Int) * 2 ^ a) % 256 = ((u * 2 ^ a % 256 : Nat) : Int) := by
    rw [wrapu64, show (u : Int) * 2 ^ a = ((u * 2 ^ a : Nat) : Int) by simp]; omega
  have h8 : (256 : Nat) = 2 ^ (8 - a) * 2 ^ a := by rw [← Nat.pow_add, show 8 - a + a = 8 by omega]
  have hm : u * 2 ^ a % 256 = u % 2 ^ s * 2 ^ a := by
    rw [h8, Nat.mul_mod_mul_right]
    by_cases h : 8 - a ≤ g
    · rw [show s = 8 - a by omega]
    · obtain rfl : s = g := by omega
      rw [Nat.mod_eq_of_lt hu, Nat.mod_eq_of_lt (Nat.lt_of_lt_of_le hu (Nat.pow_le_pow_right (by decide) (by omega)))]
  have h2 : 2 ^ a ≤ 2 ^ 7 := Nat.pow_le_pow_right (by decide) (by omega)
  have hv : (V : Int) / 256 ^ q % 256 = ((V / 256 ^ q : Nat) : Int) := by
    rw [show (V : Int) / 256 ^ q = ((V / 256 ^ q : Nat) : Int) by simp]; obtain ⟨y, hy⟩ : ∃ y, V / 256 ^ q = y := ⟨_, rfl⟩; rw [hy] at hV ⊢; omega
  have h3 : u % 2 ^ s * 2 ^ a + 2 ^ a ≤ 256 := by
    rw [h8, ← Nat.succ_mul]
    exact Nat.mul_le_mul_right _ (Nat.lt_of_lt_of_le (Nat.mod_lt _ (pow_pos2 s)) (Nat.pow_le_pow_right (by decide) (by omega)))
  rw [hw, hm, hv, show ((u % 2 ^ s * 2 ^ a : Nat) : Int) = 2 ^ a * ((u % 2 ^ s : Nat) : Int) by rw [Int.natCast_mul, Int.mul_comm]; simp]
  rw [or_parts_u8 _ _ a (by omega) (by rw [show (2 : Int) ^ a = ((2 ^ a : Nat) : Int) by simp]; omega) (by omega) (by rw [show (2 : Int) ^ a * ((u % 2 ^ s : Nat) : Int) = ((u % 2 ^ s * 2 ^ a : Nat) : Int) by rw [Int.natCast_mul, Int.mul_comm]; simp]; omega)]
  rw [Int.natCast_add, Int.natCast_mul, Int.mul_comm]; simp
end Go.Cor
namespace Go.Proofs.Ytbfnaigefmdcdaa
open Go.RowKit Go.Cor Go.Free

set_option maxRecDepth 100000 in
set_option maxHeartbeats 4000000 in
theorem Put_any {w : World} {B p V many v k : Nat} (h : Wr w B p V many) (hB : B ≤ w.heap.size) (hk : k ≤ 64) (hv : v < 2 ^ k) (hs : many + k ≤ 65536) :
    Calls Try.prog 105 #[.pointer (some ⟨p, 0, none⟩), .int .u64 v, .int .i64 k] w fun e w' => e = .returned (.int .i64 0) ∧ Wr w' B p (V + v * 2 ^ many) (many + k) ∧ Below B w w' := by
  have hv64 : v < 2 ^ 64 := Nat.lt_of_lt_of_le hv (Nat.pow_le_pow_right (by decide) hk)
  have hw := fun w => bwide_any (k : Int) w
  rw [show decide (0 ≤ (k : Int) ∧ (k : Int) ≤ 64) = true by simp; omega] at hw
  have hf := fun w => fits_any v k hk hv64 w
  rw [decide_eq_true hv] at hf
  have HW := Lib.hid hw
  have HF := Lib.hid hf
  have H := Lib.hid h
  have hv' : (v : Int) ≤ 18446744073709551615 := by have : (2 : Nat) ^ 64 = 18446744073709551616 := by decide
                                                    omega
  have HV := Lib.hid (And.intro hv hB)
  clear h hw hf hv64 hv
  go_enter Try.func105, Try.ntmps105
  go_wp2_with fail
  refine (HW.out _).mono ?_
  rintro e w' ⟨rfl, rfl⟩
  go_wp2_with fail
  refine (HF.out _).mono ?_
  rintro e w' ⟨rfl, rfl⟩
  go_wp2_with fail
  go_loopg [1, 2] k (fun g v1 v2 wr => ∃ u j V1 m1 : Nat, v1 = .int .u64 u ∧ v2 = .int .i64 j ∧ g = j ∧ Hid (Wr wr B p V1 m1 ∧ Below B w wr ∧ u < 2 ^ j ∧ j ≤ 64 ∧ V1 + u * 2 ^ m1 = V + v * 2 ^ many ∧ m1 + j = many + k))
  case atStart => exact ⟨v, k, V, many, rfl, rfl, rfl, Lib.hid ⟨H.out, Below.refl _ _, HV.out.1, hk, rfl, rfl⟩⟩
  case round =>
    obtain ⟨u, j, V1, m1, rfl, rfl, rfl, hI⟩ := hrel
    by_cases hj : 0 < gk
    · obtain ⟨A, c, hb, ho, hne⟩ := hI.out.1.blk
      have hm1 := hI.out.1.small
      have k0 : wr.cell? ⟨p, 0, none⟩ = some (.slice A (octets m1) c) := by simp [World.cell?, hb]
      have k1 : wr.cell? ⟨p, 1, none⟩ = some (.int .i64 m1) := by simp [World.cell?, hb]
      have f0 : wr.frozen? ⟨p, 0, none⟩ = false := by simp [World.frozen?, hb]
      have e1 : IntKind.i64.wrap ((m1 : Int).tmod 8) = ((m1 % 8 : Nat) : Int) := by rw [Int.tmod_eq_emod_of_nonneg (by omega), wrapi64_in _ (by omega) (by omega)]; omega
      have HO := Lib.hid (And.intro ho hne)
      have HBK := Lib.hid hb
      clear hb ho hne
      have hBr : B ≤ wr.heap.size := Nat.le_trans hB hI.out.2.1.size
      have hplt := lt_of_block HBK.out
      go_upto_if 26 with fail
      rw [show (m1 : Int) % 8 = ((m1 % 8 : Nat) : Int) by omega]
      obtain ⟨a, hma⟩ : ∃ a, m1 % 8 = a := ⟨_, rfl⟩
      rw [hma]
      go_cut [] from 20 to 35 (fun wx => Hid (WrO wx B p V1 m1 ∧ Below B w wx))
      case first =>
        by_cases ha0 : a = 0
        · subst ha0
          have ha := hma
          rw [octets_shut ha] at k0 HO HBK
          have hV : V1 < 256 ^ (m1 / 8) := by have := hI.out.1.lt; rw [pow_split, ha] at this; simpa using this
          have HV1 := Lib.hid (leb_open hV)
          have HA := Lib.hid ha
          have hob : (Value.slice A (m1 / 8) c).ownBlock ≠ some p := owns_ne HO.out.1 HBK.out (by decide)
          have HOB := Lib.hid hob
          clear ha hma hV e1 hob
          go_wp2_with (at_builtin; refine wpList_append_r rfl rfl elemU8 (HO.out.1.alloc _) rfl (RdV.one (Box.new _ _ _)) rfl one_one (by omega) (by omega) (by simp; omega) ?_; intro A2 c2 w3 hown hg _; have hb3 : w3.heap[p]? = some (.cells #[.slice A (m1 / 8) c, .int .i64 m1] 131 (0, 0)) := ((hg.block p (by simp; omega) (fun e => HOB.out e.symm)).trans ((Below.heap_alloc wr _ p hplt).trans HBK.out)); have k3 : w3.cell? ⟨p, 0, none⟩ = some (.slice A (m1 / 8) c) := (by simp [World.cell?, hb3]); have f3 : w3.frozen? ⟨p, 0, none⟩ = false := (by simp [World.frozen?, hb3]))
          have hb4 := Joins.block_setCell (i := 0) hb3 (.slice A2 (m1 / 8 + 1) c2)
          have hown2 : Owns w3 B 5 .u8 A2 (m1 / 8 + 1) c2 (leb V1 (m1 / 8 + 1)) := by rw [← HV1.out]; exact owns_snoc hown
          have hne2 := owns_ne hown2 hb3 (by decide)
          have hbl := below_grown (hI.out.2.1.alloc hBr _) (HO.out.1.alloc _) hg (by simp; omega)
          go_meet
          exact Lib.hid ⟨⟨A2, c2, by simpa using hb4, ownsRow_setCell_other hown2 hne2 _, fun b o e => by subst e; intro h; subst h; exact hne2 rfl⟩, hbl.setCell (by exact hI.out.1.own) _⟩
        · have hab : ((a : Int) == 0) = false := by simp; omega
          have HWO := Lib.hid (hI.out.1.opened (show ¬ m1 % 8 = 0 by omega))
          go_wp2_with fail
          go_meet
          exact Lib.hid ⟨HWO.out, hI.out.2.1⟩
      case rest =>
        obtain ⟨⟨A3, c3, hb3, ho3, hne3⟩, hbl3⟩ := hcut.out
        obtain ⟨q, hq⟩ : ∃ q, m1 / 8 = q := ⟨_, rfl⟩
        rw [hq] at hb3 ho3
        obtain ⟨g, c4, hv4, hBg, hgl, hcell, hfr, hset⟩ := owns_put (i := q) (y := ((V1 / 256 ^ q + (u % 2 ^ (min (8 - a) gk)) * 2 ^ a : Nat) : Int)) ho3 (by omega)
        injection hv4 with hA hk4 hc4
        subst hA hc4
        rw [leb_at (by omega)] at hcell
        have k0' : wc.cell? ⟨p, 0, none⟩ = some (.slice (some ⟨g, 0, none⟩) (q + 1) c3) := by simp [World.cell?, hb3]
        have k1' : wc.cell? ⟨p, 1, none⟩ = some (.int .i64 m1) := by simp [World.cell?, hb3]
        simp at hcell
        have HS3 := Lib.hid (And.intro hb3 (And.intro hset (And.intro hbl3 hq)))
        have eq1 : IntKind.i64.wrap (q : Int) = (q : Int) := wrapi64_in _ (by omega) (by omega)
        clear hb3 ho3 hset hbl3 hcut k0 k1 f0 e1 HO HBK hq
        go_upto_region 10 with fail
        go_region
        obtain ⟨s, hsE⟩ : ∃ s : Nat, (if (gk : Int) < 8 - (a : Int) then (gk : Int) else 8 - (a : Int)) = (s : Int) := ⟨min (8 - a) gk, by split <;> omega⟩
        rw [hsE]
        have ha8 : a < 8 := by omega
        have hsm : s = min (8 - a) gk := by split at hsE <;> omega
        clear hsE
        obtain ⟨hb3, hset, hbl3, hq⟩ := HS3.out
        rw [← hsm] at hset
        have hV2 : V1 / 256 ^ q < 2 ^ a := by
          have := hI.out.1.lt; rw [pow_split, hq, hma] at this; exact Nat.div_lt_of_lt_mul this
        rw [put_byte hV2 ha8 hI.out.2.2.1 hI.out.2.2.2.1 hsm]
        have hlm := leb_more (u := u % 2 ^ s) hI.out.1.lt (Nat.lt_of_lt_of_le (Nat.mod_lt _ (pow_pos2 s)) (Nat.pow_le_pow_right (by decide) (by omega)))
        rw [hq, hma] at hlm
        rw [hlm] at hset
        have hgp : g ≠ p := hne3 g 0 rfl
        obtain ⟨w5, hw5⟩ : ∃ w5, (wc.setCell ⟨g, q, none⟩ (.int .u8 ((V1 / 256 ^ q + u % 2 ^ s * 2 ^ a : Nat) : Int))).drew = w5 := ⟨_, rfl⟩
        rw [hw5]
        have hb5 : w5.heap[p]? = some (.cells #[.slice (some ⟨g, 0, none⟩) (q + 1) c3, .int .i64 m1] 131 (0, 0)) := by
          rw [← hw5]; exact (Below.heap_setCell _ _ _ _ (fun e => hgp e.symm)).trans hb3
        have ho5 : Owns w5 B 5 .u8 (some ⟨g, 0, none⟩) (q + 1) c3 (leb (V1 + u % 2 ^ s * 2 ^ m1) (q + 1)) := by rw [← hw5]; exact hset
        have hbl5 : Below B w w5 := by rw [← hw5]; exact below_drewN (hbl3.setCell hBg _) 1
        have k15 : w5.cell? ⟨p, 1, none⟩ = some (.int .i64 m1) := by simp [World.cell?, hb5]
        have f15 : w5.frozen? ⟨p, 1, none⟩ = false := by simp [World.frozen?, hb5]
        have HS5 := Lib.hid (And.intro hb5 (And.intro ho5 (And.intro hbl5 (And.intro hq hsm))))
        have ES1 := Lib.hid (shr_nat u s)
        have es4 : s ≤ gk ∧ 0 < s ∧ s ≤ 8 := by omega
        obtain ⟨es5, es6, es7⟩ := es4
        have es8 : gk ≤ 64 := hI.out.2.2.2.1
        clear hb3 hset hbl3 HS3 hV2 hlm hb5 ho5 hbl5 hw5 k0' k1' hcell hfr hk4 eq1 hsm
        go_wp2_with fail
        go_roundg (gk - s)
        case measure => omega
        case rel =>
          obtain ⟨hb5, ho5, hbl5, hq, hsm⟩ := HS5.out
          obtain ⟨hwr, _, hu, _, hsum, hcnt⟩ := hI.out
          have hoct : octets (m1 + s) = q + 1 := by unfold octets; omega
          have hne5 : (Value.slice (some ⟨g, 0, none⟩) (q + 1) c3).ownBlock ≠ some p := owns_ne ho5 hb5 (by decide)
          have hb6 := Joins.block_setCell (i := 1) hb5 (.int .i64 ((m1 + s : Nat) : Int))
          have ho6 : Owns (w5.setCell ⟨p, 1, none⟩ (.int .i64 ((m1 + s : Nat) : Int))) B 5 .u8 (some ⟨g, 0, none⟩) (q + 1) c3 (leb (V1 + u % 2 ^ s * 2 ^ m1) (q + 1)) := ownsRow_setCell_other ho5 hne5 _
          have hbl6 : Below B w (w5.setCell ⟨p, 1, none⟩ (.int .i64 ((m1 + s : Nat) : Int))) := hbl5.setCell hwr.own _
          rw [show (m1 : Int) + (s : Int) = ((m1 + s : Nat) : Int) by omega]
          refine ⟨u / 2 ^ s, gk - s, V1 + u % 2 ^ s * 2 ^ m1, m1 + s, val_i ES1.out, val_i (by omega), rfl, Lib.hid ⟨⟨⟨some ⟨g, 0, none⟩, c3, by rw [hoct]; simpa using hb6, by rw [hoct]; exact ho6, hne3⟩, hwr.own, ?_, by omega⟩, hbl6, ?_, by omega, ?_, by omega⟩⟩
          · have h1 := hwr.lt
            have h2 : u % 2 ^ s + 1 ≤ 2 ^ s := Nat.mod_lt _ (pow_pos2 s)
            have h3 := Nat.mul_le_mul_right (2 ^ m1) h2
            rw [Nat.add_mul, Nat.one_mul] at h3
            rw [Nat.pow_add, Nat.mul_comm (2 ^ m1)]
            omega
          · rw [Nat.div_lt_iff_lt_mul (pow_pos2 s), ← Nat.pow_add, show gk - s + s = gk by omega]; exact hu
          · rw [← hsum, Nat.pow_add, Nat.add_assoc]
            congr 1
            have h1 := Nat.div_add_mod u (2 ^ s)
            have h2 : u / 2 ^ s * (2 ^ m1 * 2 ^ s) = 2 ^ s * (u / 2 ^ s) * 2 ^ m1 := by simp only [Nat.mul_assoc, Nat.mul_comm, Nat.mul_left_comm]
            rw [h2, ← Nat.add_mul, Nat.add_comm, h1]
    · obtain rfl : gk = 0 := by omega
      have HE := Lib.hid (show V1 = V + v * 2 ^ many ∧ m1 = many + k by
        have h1 := hI.out.2.2.1
        have h2 := hI.out.2.2.2.2.1
        have h3 := hI.out.2.2.2.2.2
        obtain rfl : u = 0 := by omega
        simp at h2; omega)
      go_wp2
      go_ret
      refine ⟨rfl, ?_, hI.out.2.1⟩
      rw [← HE.out.1, ← HE.out.2]; exact hI.out.1
end Go.Proofs.Ytbfnaigefmdcdaa

namespace Go.Cor
/-- what Unpack hands out -/
def unpk (k n : Nat) (b : List Int) : List Int × Int :=
  if b.length < octets (n * k) then ([], 1) else if octets (n * k) < b.length then ([], 2) else if nums b / 2 ^ (k * n) ≠ 0 then ([], 3) else (unp k n (nums b), 0)
end Go.Cor
namespace Go.Proofs.Ytbfnaigefmdcdaa
open Go.RowKit Go.Cor Go.Free

theorem elemU64 : ElemT Try.prog 62 45 (.int .u64 0) 1 8 := ⟨Try.underlying62, by kernel_rfl, rfl, by decide⟩
/-- a pair of a fresh row and an error's number -/
def RetPair (B : Nat) (E : TypeId) (k : IntKind) (w : World) (r : List Int × Int) (e : Ending) (w' : World) : Prop :=
  ∃ A n c, e = .returned (.tuple #[.slice A n c, .int .i64 r.2]) ∧ Owns w' B E k A n c r.1 ∧ Below B w w'
set_option maxRecDepth 100000 in
set_option maxHeartbeats 2000000 in
theorem pack_any (A : Option Addr) (n c : Nat) (us : List Int) (k : Nat) (w : World) (h : Rd w .u64 A n c us) (hi : In .u64 us) (hn : n ≤ 1024) (hk : k ≤ 64) (hf : Fitl k us) :
    Calls Try.prog 90 #[.int .i64 k, .slice A n c] w (RetPair w.heap.size 5 .u8 w (packed k us, 0)) := by
  have hw := fun w => bwide_any (k : Int) w
  rw [show decide (0 ≤ (k : Int) ∧ (k : Int) ≤ 64) = true by simp; omega] at hw
  have HW := Lib.hid hw
  have H := Lib.hid h
  have HI := Lib.hid hi
  have HF := Lib.hid hf
  clear h hw hi hf
  go_enter Try.func90, Try.ntmps90
  go_wp2_with fail
  refine (HW.out _).mono ?_
  rintro e w' ⟨rfl, rfl⟩
  go_wp2_with fail
  refine (newWriter_any _).mono ?_
  rintro e w1 ⟨p, rfl, hwr, hb1⟩
  have HWR := Lib.hid hwr
  have HB1 := Lib.hid hb1
  clear hwr hb1
  go_wp2_with fail
  go_loopg [21] n (fun g v21 wr => ∃ i : Nat, v21 = .int .i64 i ∧ g = n - i ∧ i ≤ n ∧ Hid (Wr wr w.heap.size p (pk k (us.take i)) (k * i) ∧ Below w.heap.size w wr))
  case atStart => exact ⟨0, rfl, by omega, by omega, Lib.hid ⟨by simpa [pk] using HWR.out, HB1.out⟩⟩
  case round =>
    obtain ⟨i, rfl, rfl, hi, hI⟩ := hrel
    by_cases hlt : i < n
    · obtain ⟨b', o, rfl, hbl, hc⟩ := (H.out.below hI.out.2).get (by omega)
      have hcell := hc i hlt
      have hl := H.out.len
      have e1 := pk_take k (l := us) (i := i) (by omega)
      rw [List.getD_eq_getElem?_getD] at hcell
      have hmem : us[i]?.getD 0 ∈ us := by rw [List.getElem?_eq_getElem (by omega)]; exact List.getElem_mem _
      have hx := HI.out _ hmem
      have hx2 := HF.out _ hmem
      obtain ⟨x, hxe⟩ : ∃ x, us[i]?.getD 0 = x := ⟨_, rfl⟩
      rw [hxe] at hcell e1 hx hx2
      obtain ⟨x, rfl⟩ := Int.eq_ofNat_of_zero_le hx2.1
      rw [Int.toNat_natCast] at e1 hx2
      have hks : k * i + k ≤ 65536 := by have : k * (i + 1) ≤ 64 * 1024 := Nat.mul_le_mul hk (by omega); rw [Nat.mul_add] at this; omega
      have hp := Put_any (v := x) (k := k) hI.out.1 hI.out.2.size hk hx2.2 hks
      rw [← e1, show k * i + k = k * (i + 1) by rw [Nat.mul_add, Nat.mul_one]] at hp
      have HP := Lib.hid hp
      clear hc hl e1 hmem hx hx2 hxe hp hks
      go_wp2_with fail
      refine HP.out.mono ?_
      rintro e w2 ⟨rfl, hwr2, hb2⟩
      have HWR2 := Lib.hid hwr2
      have HB2 := Lib.hid (hI.out.2.trans hb2)
      clear hwr2 hb2
      go_wp2_with fail
      go_roundg (n - (i + 1))
      case measure => omega
      case rel => exact ⟨i + 1, by go_num, rfl, by omega, Lib.hid ⟨HWR2.out, HB2.out⟩⟩
    · obtain rfl : i = n := by omega
      have hwr := hI.out.1
      rw [List.take_of_length_le (by have := H.out.len; omega)] at hwr
      have HY := Lib.hid (wbytes_any hwr)
      clear hwr
      go_wp2_with fail
      refine HY.out.mono ?_
      rintro e w2 ⟨A', m', c', rfl, ho, hb⟩
      have HO := Lib.hid (owns_weak ho hI.out.2.size)
      have HB := Lib.hid (hI.out.2.trans (hb.mono hI.out.2.size))
      clear ho hb
      go_wp2
      go_ret2
      exact ⟨A', m', c', rfl, by unfold packed; rw [H.out.len, Nat.mul_comm i]; exact HO.out, HB.out⟩
end Go.Proofs.Ytbfnaigefmdcdaa

namespace Go.Cor
/-- what Pack hands out of numbers that fit -/
def packr (k : Nat) (us : List Int) : List Int × Int := if 1024 < us.length then ([], 7) else (packed k us, 0)
end Go.Cor
namespace Go.Proofs.Ytbfnaigefmdcdaa
open Go.RowKit Go.Cor Go.Free

set_option maxRecDepth 100000 in
set_option maxHeartbeats 2000000 in
theorem refPack_any (A : Option Addr) (n c : Nat) (us : List Int) (k : Nat) (w : World) (h : Rd w .u64 A n c us) (hi : In .u64 us) (hk : k ≤ 64) (hf : Fitl k us) :
    Calls Try.prog 54 #[.int .i64 k, .slice A n c] w (RetPair w.heap.size 5 .u8 w (packr k us)) := by
  have hw := fun w => rwide_any (k : Int) w
  rw [show decide (0 ≤ (k : Int) ∧ (k : Int) ≤ 64) = true by simp; omega] at hw
  have HW := Lib.hid hw
  have H := Lib.hid h
  have HI := Lib.hid hi
  have HF := Lib.hid hf
  have HU := Lib.hid (show packr k us = if 1024 < n then ([], 7) else (packed k us, 0) by unfold packr; rw [h.len])
  clear h hw hi hf
  by_cases hn : 1024 < n
  · go_enter Try.func54, Try.ntmps54
    go_wp2_with fail
    refine (HW.out _).mono ?_
    rintro e w' ⟨rfl, rfl⟩
    go_wp2
    go_ret2
    exact ⟨none, 0, 0, by rw [HU.out, if_pos hn]; rfl, by rw [HU.out, if_pos hn]; exact owns_nil _ _ _ _, Below.refl _ _⟩
  go_enter Try.func54, Try.ntmps54
  go_wp2_with fail
  refine (HW.out _).mono ?_
  rintro e w' ⟨rfl, rfl⟩
  go_wp2_with fail
  go_loopg [6, 7] n (fun g v6 v7 wr => ∃ i : Nat, v7 = .int .i64 i ∧ g = n - i ∧ i ≤ n ∧ ∃ A' m c', v6 = .slice A' m c' ∧ m = k * i ∧ Hid (wr.ownsRow w.heap.size 4 1 (.slice A' m c') m ((bitl k (us.take i)).map .bool) ∧ Below w.heap.size w wr))
  case atStart => exact ⟨0, rfl, by omega, by omega, none, 0, 0, rfl, by simp, Lib.hid ⟨⟨rfl, .inl ⟨rfl, rfl⟩⟩, Below.refl _ _⟩⟩
  case round =>
    obtain ⟨i, rfl, rfl, hi, A', m, c', rfl, hm, hI⟩ := hrel
    by_cases hlt : i < n
    · obtain ⟨b', o, rfl, hbl, hc⟩ := (H.out.below hI.out.2).get (by omega)
      have hcell := hc i hlt
      have hl := H.out.len
      have e1 := bitl_snoc k (l := us) (i := i) (by omega)
      rw [List.getD_eq_getElem?_getD] at hcell
      have hmem : us[i]?.getD 0 ∈ us := by rw [List.getElem?_eq_getElem (by omega)]; exact List.getElem_mem _
      have hx := HI.out _ hmem
      have hx2 := HF.out _ hmem
      obtain ⟨x, hxe⟩ : ∃ x, us[i]?.getD 0 = x := ⟨_, rfl⟩
      rw [hxe] at hcell e1 hx hx2
      obtain ⟨x, rfl⟩ := Int.eq_ofNat_of_zero_le hx2.1
      rw [Int.toNat_natCast] at e1 hx2
      have hmb : m ≤ 65536 := by rw [hm]; exact Nat.mul_le_mul hk (show i ≤ 1024 by omega)
      have hff := fun w => refFits_any x k hk hx.2 w
      rw [decide_eq_true hx2.2] at hff
      have HFF := Lib.hid hff
      have HBI := Lib.hid (fun w => refBits_any x k hk hx.2 w)
      have E1 := Lib.hid e1
      have HM := Lib.hid hm
      clear hc hl e1 hmem hx hx2 hxe hff hm
      go_wp2_with fail
      refine (HFF.out _).mono ?_
      rintro e w' ⟨rfl, rfl⟩
      go_wp2_with fail
      refine (HBI.out _).mono ?_
      rintro e w2 ⟨A2, m2, c2, rfl, ho2, hb2⟩
      obtain rfl : m2 = k := by have := ho2.1; simp [bitsOf_len] at this; exact this.symm
      have HR2 := Lib.hid (RdV.own ho2)
      have HO := Lib.hid (owns_keep (S := fun _ _ => True) hI.out.1 (.of_below hb2) fun _ _ _ => trivial)
      have HB := Lib.hid (hI.out.2.trans (hb2.mono hI.out.2.size))
      clear ho2 hb2
      go_wp2_with (at_builtin; refine wpList_append_r rfl rfl elemBool HO.out rfl HR2.out rfl (bool_one _) (by omega) (by omega) HB.out.size ?_; intro A3 c3 w3 hown hg _)
      have HB3 := Lib.hid (below_grown HB.out HO.out hg HB.out.size)
      have hown' := hown
      rw [← List.map_append, E1.out] at hown'
      have HO3 := Lib.hid hown'
      clear hown hown' hg
      go_roundg (n - (i + 1))
      case measure => omega
      case rel => exact ⟨i + 1, by go_num, rfl, by omega, A3, _, c3, rfl, by rw [HM.out, Nat.mul_add, Nat.mul_one], Lib.hid ⟨HO3.out, HB3.out⟩⟩
    · obtain rfl : i = n := by omega
      have ho := hI.out.1
      rw [List.take_of_length_le (by have := H.out.len; omega)] at ho
      have hmb : m ≤ 65536 := by rw [hm]; exact Nat.mul_le_mul hk (show i ≤ 1024 by omega)
      have HY := Lib.hid (refBytes_any _ _ _ _ _ (RdV.own ho) (by omega))
      have HU' := Lib.hid (show packr k us = (leb (nbs (bitl k us)) (octets m), 0) by rw [HU.out, if_neg hn, nbs_bitl HF.out, packed, H.out.len, hm, Nat.mul_comm])
      clear ho hm
      go_wp2_with fail
      refine HY.out.mono ?_
      rintro e w2 ⟨A2, m2, c2, rfl, ho2, hb2⟩
      have HO := Lib.hid (owns_weak ho2 hI.out.2.size)
      have HB := Lib.hid (hI.out.2.trans (hb2.mono hI.out.2.size))
      clear ho2 hb2
      go_wp2
      go_ret2
      exact ⟨A2, m2, c2, by rw [HU'.out]; rfl, by rw [HU'.out]; exact HO.out, HB.out⟩
end Go.Proofs.Ytbfnaigefmdcdaa
