/-
  DeltaLine: for every input the law returns true. No condition.
-/
import Derived.ChangeOld
import Derived.Test.YtkbcmblgieoleaaG30
namespace Go.Cor
open Go Go.RowKit
/-- numbers at equal steps, going round -/
def line (f s : Int) (n : Nat) : List Int := (List.range n).map fun i : Nat => w64 (f + s * (i : Int))
theorem line_len (f s : Int) (n : Nat) : (line f s n).length = n := by simp [line]
theorem line_succ (f s : Int) (n : Nat) : line f s (n + 1) = line f s n ++ [w64 (f + s * (n : Int))] := by simp [line, List.range_succ]
theorem line_get (f s : Int) {n i : Nat} (h : i < n) : (line f s n)[i]?.getD 0 = w64 (f + s * (i : Int)) := by simp [line, h]
theorem line_in (f s : Int) (n : Nat) : ∀ x ∈ line f s n, I64 x := by
  intro x hx
  obtain ⟨i, _, rfl⟩ := List.mem_map.1 hx
  exact w64_bd _
theorem w64_next (f s : Int) (i : Nat) : w64 (w64 (f + s * (i : Int)) + s) = w64 (f + s * ((i + 1 : Nat) : Int)) := by
  rw [show f + s * ((i + 1 : Nat) : Int) = f + s * (i : Int) + s by rw [Int.natCast_add, Int.mul_add]; simp; omega]
  obtain ⟨a, ha⟩ : ∃ a, f + s * (i : Int) = a := ⟨_, rfl⟩
  rw [ha]; unfold w64; omega
theorem w64_diff (a s : Int) (hs : I64 s) : w64 (w64 (a + s) - w64 a) = s := by
  obtain ⟨h1, h2⟩ := hs; unfold w64; omega
theorem line_deltas {f s : Int} (hs : I64 s) (k : Nat) : deltas (line f s (k + 1)) = List.replicate k s := by
  unfold deltas
  rw [line_len, Nat.add_sub_cancel]
  apply List.ext_getElem
  · simp
  intro i h1 h2
  simp only [List.length_map, List.length_range] at h1
  simp only [List.getElem_map, List.getElem_range, List.getElem_replicate]
  unfold delta
  rw [line_get f s (by omega), line_get f s (by omega)]
  rw [show f + s * ((i + 1 : Nat) : Int) = f + s * (i : Int) + s by rw [Int.natCast_add, Int.mul_add]; simp; omega]
  exact w64_diff _ _ hs
theorem minOf_rep (s : Int) : ∀ k, minOf s (List.replicate k s) = s
  | 0 => rfl
  | k + 1 => by
    unfold minOf; rw [List.replicate_succ, List.foldl_cons, Int.min_self]
    exact minOf_rep s k
theorem least_rep {s : Int} {k : Nat} (h : 0 < k) : least (List.replicate k s) = s := by
  unfold least
  rw [show (List.replicate k s)[0]?.getD 0 = s by simp [h]]
  exact minOf_rep s k
theorem offsets_rep (s : Int) (k : Nat) : offsets s (List.replicate k s) = List.replicate k 0 := by
  unfold offsets; rw [List.map_replicate]; simp [wu64]
theorem most_zero (k : Nat) : most (List.replicate k 0) = 0 := by
  have h := most_fit (l := List.replicate k 0) (fun u hu => by rw [List.eq_of_mem_replicate hu]; omega)
  unfold most
  have : ∀ k, (List.replicate k (0 : Int)).foldl (fun m v => max m (bw v)) 0 = 0 := by
    intro k
    induction k with
    | zero => rfl
    | succ k ih =>
      rw [List.replicate_succ, List.foldl_cons, show max (0 : Int) (bw 0) = 0 by decide +kernel]
      exact ih
  exact this k
theorem dpacks_zero : ∀ (n k : Nat), k = n → dpacks (List.replicate k 0) = [] := by
  intro n
  induction n using Nat.strongRecOn with
  | ind n ih =>
    rintro k rfl
    by_cases h : k = 0
    · subst h; exact dpacks_nil
    · have hne : List.replicate k (0 : Int) ≠ [] := by simp [h]
      rw [dpacks_step hne, List.take_replicate, List.drop_replicate, most_zero, ih (k - 32) (by omega) _ rfl, List.append_nil]
      refine List.eq_nil_of_length_eq_zero ?_
      rw [packed_len]; simp [octets]
theorem dpart_rep {s : Int} {k : Nat} (h : 0 < k) : (dpart (List.replicate k s)).length = (vput (zig s).toNat).length + (k + 31) / 32 := by
  unfold dpart
  rw [least_rep h, offsets_rep, dpacks_zero _ _ rfl, List.append_nil, List.length_append, dheads_len k _ (by simp)]
theorem drest_rep (s : Int) : ∀ (n k : Nat), k = n → (drest (List.replicate k s)).length = (k + 127) / 128 * (vput (zig s).toNat).length + (k / 128 * 4 + (k % 128 + 31) / 32) := by
  intro n
  induction n using Nat.strongRecOn with
  | ind n ih =>
    rintro k rfl
    by_cases h : k = 0
    · subst h; simp [drest_nil]
    · have hne : List.replicate k s ≠ [] := by simp [h]
      rw [drest_step hne, List.take_replicate, List.drop_replicate, List.length_append, dpart_rep (by omega), ih (k - 128) (by omega) _ rfl]
      obtain ⟨V, hV⟩ : ∃ V, (vput (zig s).toNat).length = V := ⟨_, rfl⟩
      rw [hV]
      have e : (k + 127) / 128 = (k - 128 + 127) / 128 + 1 := by omega
      rw [e, Nat.add_mul, Nat.one_mul]
      omega
theorem line_form {f s : Int} (hf : I64 f) (hs : I64 s) (k : Nat) : (dform (line f s (k + 1))).length = (vput (zig f).toNat).length + ((k + 127) / 128 * (vput (zig s).toNat).length + (k / 128 * 4 + (k % 128 + 31) / 32)) := by
  have hne : line f s (k + 1) ≠ [] := fun e => by have := congrArg List.length e; rw [line_len] at this; simp at this
  rw [dform_eq hne, List.length_append, line_deltas hs, drest_rep s _ _ rfl, line_get f s (by omega)]
  rw [show f + s * ((0 : Nat) : Int) = f by simp, w64_in f hf.1 hf.2]
end Go.Cor
namespace Go.Proofs.Ytkbcmblgieoleaa
open Go.RowKit Go.Cor Go.Free

set_option maxRecDepth 100000 in
set_option maxHeartbeats 4000000 in
theorem DeltaLine_walk (W : World) (f : Int) (hf : Fits .i64 f) (s : Int) (hs : Fits .i64 s) (m : Int) (hm : Fits .u16 m) :
    Calls Try.prog 4 #[.int .i64 f, .int .i64 s, .int .u16 m] W fun e w' => e = .returned (.bool true) ∧ Below W.heap.size W w' := by
  have hm0 : 0 ≤ m := hm.1
  have hm1 : m ≤ 65535 := hm.2
  by_cases h1 : m < 1
  · clear hf hs
    go_enter Try.func4, Try.ntmps4
    have hd : decide (m < 1) = true := by simp; omega
    go_wp2
    go_ret
    exact ⟨rfl, Below.refl _ _⟩
  by_cases h2 : 1024 < m
  · clear hf hs
    go_enter Try.func4, Try.ntmps4
    have hd : decide (m < 1) = false := by simp; omega
    have hd2 : decide (1024 < m) = true := by simp; omega
    go_wp2
    go_ret
    exact ⟨rfl, Below.refl _ _⟩
  obtain ⟨k, hk⟩ : ∃ k : Nat, m = ((k + 1 : Nat) : Int) := ⟨(m - 1).toNat, by omega⟩
  subst hk
  have hk1 : k ≤ 1023 := by omega
  have hlf := line_form hf hs k
  have hzf := zig_nonneg f
  have hzs := zig_nonneg s
  have hzfm := zig_max f hf.1 hf.2
  have hzsm := zig_max s hs.1 hs.2
  have hgf := fun w => refZig_any f w hf.1 hf.2
  have hgs := fun w => refZig_any s w hs.1 hs.2
  obtain ⟨zf, hzfe⟩ := Int.eq_ofNat_of_zero_le hzf
  obtain ⟨zs, hzse⟩ := Int.eq_ofNat_of_zero_le hzs
  rw [hzfe] at hlf hzfm hgf
  rw [hzse] at hlf hzsm hgs
  simp only [Int.toNat_natCast] at hlf
  have hpf := fun w => refVPut_any zf w hzfm
  have hps := fun w => refVPut_any zs w hzsm
  have hvf := vput_len_u64 zf (by omega)
  have hvs := vput_len_u64 zs (by omega)
  obtain ⟨F, hF⟩ : ∃ F, vput zf = F := ⟨_, rfl⟩
  obtain ⟨S, hS⟩ : ∃ S, vput zs = S := ⟨_, rfl⟩
  rw [hF] at hlf hpf hvf
  rw [hS] at hlf hps hvs
  have hsz := fun w A c h => deltaS.c w A (k + 1) c (line f s (k + 1)) h (line_in f s _) (by omega)
  rw [tak_all, line_len, show blk ((k + 1 : Nat) : Int) = true from decide_eq_true (by omega), if_pos rfl] at hsz
  have hl0 : w64 (f + s * ((0 : Nat) : Int)) = f := by rw [show f + s * ((0 : Nat) : Int) = f by simp]; exact w64_in f hf.1 hf.2
  have hnx := w64_next f s
  have hlr := line_succ f s
  obtain ⟨hf1, hf2⟩ := hf
  obtain ⟨hs1, hs2⟩ := hs
  obtain ⟨Z, hZ⟩ : ∃ Z, (dform (line f s (k + 1))).length = Z := ⟨_, rfl⟩
  rw [hZ] at hlf hsz
  obtain ⟨Fl, hFl⟩ : ∃ n, F.length = n := ⟨_, rfl⟩
  obtain ⟨Sl, hSl⟩ : ∃ n, S.length = n := ⟨_, rfl⟩
  rw [hFl] at hvf hlf
  rw [hSl] at hvs hlf
  have hq : (k + 127) / 128 ≤ 8 := by omega
  obtain ⟨q, hqe⟩ : ∃ q, (k + 127) / 128 = q := ⟨_, rfl⟩
  rw [hqe] at hq hlf
  have hqS : q * Sl ≤ 8 * 10 := Nat.mul_le_mul hq hvs
  have hqc : (q : Int) * (Sl : Int) = ((q * Sl : Nat) : Int) := by simp
  obtain ⟨P, hP⟩ : ∃ P, q * Sl = P := ⟨_, rfl⟩
  rw [hP] at hqS hqc hlf
  have hkq : ((k : Int) + 127) / 128 = (q : Int) := by omega
  obtain ⟨r, hr⟩ : ∃ r, k / 128 = r := ⟨_, rfl⟩
  obtain ⟨t, ht⟩ : ∃ t, k % 128 = t := ⟨_, rfl⟩
  obtain ⟨u, hu⟩ : ∃ u, (t + 31) / 32 = u := ⟨_, rfl⟩
  rw [hr, ht, hu] at hlf
  have hkr : (k : Int) / 128 = (r : Int) := by omega
  have hkt : (k : Int) % 128 = (t : Int) := by omega
  have hku : ((t : Int) + 31) / 32 = (u : Int) := by omega
  have hfin : ((Z : Int) == (Fl : Int) + (P : Int) + ((r : Int) * 4 + (u : Int))) = true := by simp; omega
  have hr8 : r ≤ 8 := by omega
  have ht8 : t ≤ 127 := by omega
  have hu8 : u ≤ 4 := by omega
  have HGF := Lib.hid (And.intro hgf hpf)
  have HGS := Lib.hid (And.intro hgs hps)
  have HSZ := Lib.hid hsz
  have HLN := Lib.hid (And.intro hl0 (And.intro hnx hlr))
  have HFS := Lib.hid (And.intro hFl hSl)
  have HA := Lib.hid (And.intro hkq (And.intro hqc (And.intro hkr (And.intro hkt (And.intro hku hfin)))))
  have hd1 : decide (((k + 1 : Nat) : Int) < 1) = false := by simp; omega
  have hd2 : decide ((1024 : Int) < ((k + 1 : Nat) : Int)) = false := by simp; omega
  clear hm hzf hzs hgf hgs hzfe hzse hpf hps hF hS hsz hZ hl0 hnx hlr hlf hFl hSl hq hqe hqc hP hkq hr ht hu hkr hkt hku hfin h1 h2 hd1 hd2 hm0 hm1
  obtain ⟨N, hN⟩ : ∃ N, k + 1 = N := ⟨_, rfl⟩
  rw [hN] at HSZ ⊢
  have hN1 : 1 ≤ N := by omega
  have hN2 : N ≤ 1024 := by omega
  have hNk : (N : Int) - 1 = (k : Int) := by omega
  have HN := Lib.hid (And.intro hN hNk)
  have hd1 : decide ((N : Int) < 1) = false := by simp; omega
  have hd2 : decide ((1024 : Int) < (N : Int)) = false := by simp; omega
  clear hN hNk
  go_enter Try.func4, Try.ntmps4
  go_wp2_with fail
  go_loopg [7, 8, 9] N (fun gg v7 v8 v9 wr => ∃ (i : Nat) (A7 : Option Addr) (c7 : Nat) (y : Int), v9 = .int .i64 i ∧ i ≤ N ∧ gg = N - i ∧ v7 = .slice A7 i c7 ∧ v8 = .int .i64 y ∧ -9223372036854775808 ≤ y ∧ y ≤ 9223372036854775807 ∧ Hid (y = w64 (f + s * (i : Int)) ∧ Owns wr W.heap.size 2 .i64 A7 i c7 (line f s i) ∧ Below W.heap.size W wr))
  case atStart => exact ⟨0, none, 0, f, rfl, by omega, rfl, rfl, rfl, hf1, hf2, Lib.hid ⟨HLN.out.1.symm, owns_nil _ _ _ _, Below.refl _ _⟩⟩
  case round =>
    obtain ⟨i, A7, c7, y, rfl, hi, rfl, rfl, rfl, hy1, hy2, hI⟩ := hrel
    by_cases hlt : i < N
    · have hdi : decide (i < N) = true := by simp; omega
      obtain ⟨y2, hy⟩ : ∃ y2, w64 (y + s) = y2 := ⟨_, rfl⟩
      have hw : IntKind.i64.wrap (y + s) = y2 := by rw [← hy]; exact wrapi64 _
      have hy2b := w64_bd (y + s)
      rw [hy] at hy2b
      have HY := Lib.hid hy
      clear hy
      go_wp2_with (at_builtin; refine wpList_append_r rfl rfl elemI64 (hI.out.2.1.alloc _) rfl (RdV.one (Box.new _ _ _)) rfl one_one (by omega) (by omega) (by have := hI.out.2.2.size; simp; omega) ?_; intro A2 c2 w3 hown hg _; have HG := Lib.hid (And.intro (owns_snoc hown) (below_grown (hI.out.2.2.alloc hI.out.2.2.size _) (hI.out.2.1.alloc _) hg (by have := hI.out.2.2.size; simp; omega))); clear hown hg)
      go_roundg (N - (i + 1))
      case measure => omega
      case rel => exact ⟨i + 1, A2, c2, y2, by go_num, by omega, rfl, rfl, rfl, hy2b.1, hy2b.2, Lib.hid ⟨by rw [← HY.out, hI.out.1]; exact HLN.out.2.1 i, by rw [HLN.out.2.2, ← hI.out.1]; exact HG.out.1, HG.out.2⟩⟩
    · obtain rfl : i = N := by omega
      have hdi : decide (i < i) = false := by simp
      have hNk := HN.out.2
      have hkq := HA.out.1
      have hqc := HA.out.2.1
      have hkr := HA.out.2.2.1
      have hkt := HA.out.2.2.2.1
      have hku := HA.out.2.2.2.2.1
      have hfin := HA.out.2.2.2.2.2
      go_wp2_with fail
      refine (HGF.out.1 _).mono ?_
      rintro e w1 ⟨rfl, rfl⟩
      go_wp2_with fail
      refine (HGF.out.2 _).mono ?_
      rintro e w2 ⟨A2, n2, c2, rfl, ho2, hb2⟩
      obtain rfl : Fl = n2 := by have := row_len ho2; have := HFS.out.1; omega
      have HB2 := Lib.hid (hI.out.2.2.trans (hb2.mono hI.out.2.2.size))
      have HL2 := Lib.hid (Owns.below hI.out.2.1 hb2)
      clear ho2 hb2
      go_wp2_with fail
      refine (HGS.out.1 _).mono ?_
      rintro e w3 ⟨rfl, rfl⟩
      go_wp2_with fail
      refine (HGS.out.2 _).mono ?_
      rintro e w3 ⟨A3, n3, c3, rfl, ho3, hb3⟩
      obtain rfl : Sl = n3 := by have := row_len ho3; have := HFS.out.2; omega
      have HB3 := Lib.hid (HB2.out.trans (hb3.mono HB2.out.size))
      have HL3 := Lib.hid (Owns.below HL2.out hb3)
      clear ho3 hb3
      go_wp2_with fail
      refine (HSZ.out _ _ _ (Rd.own HL3.out)).mono ?_
      rintro e w4 ⟨rfl, hb4⟩
      have HB4 := Lib.hid (HB3.out.trans (hb4.mono HB3.out.size))
      clear hb4
      go_wp2_with fail
      refine (awake12 _).mono ?_
      rintro e w5 ⟨rfl, hb5⟩
      go_wp2
      go_ret
      exact ⟨rfl, HB4.out.trans (hb5.mono HB4.out.size)⟩

namespace deltaLine
open Go.ChangeShapes Go.WideShapes Go.ChangeAt Go.RowKit Go.Cor
set_option linter.unusedVariables false

set_option maxRecDepth 100000 in
theorem lifted (os : Os) (started : os.Started) (H : Type) (enc : TypeId × Value → H) :
    ReturnsInHanded {} Try.checked os 4 .any (Rows.deltaLineSpec.pre6 enc Try.prog Try.f4 Rows.deltaLineRow.domain false) (Rows.deltaLineSpec.post enc Try.prog Try.f4 false true false false) := by
  refine returnsInHanded_of_change (C := Try.checked) (by kernel_rfl : ownKnob Try.prog.godebug = none) started (by kernel_rfl) Try.func4
    (ChangeSpec.witness6 (enc := enc) (C := Try.checked) false ⟨#[], #[.int .i64 0, .int .i64 0, .int .u16 0], []⟩ 8 (by kernel_rfl) (by kernel_rfl) (by kernel_rfl) (by kernel_rfl)) ?_
  intro W base args ds gs before hval0 hW hcnd _
  have hval : ∀ (j : Nat) t v, Try.f4.params[j]? = some t → args[j]? = some v → Value.okWide Try.prog W .any base t v := hval0
  have hW' := hW
  obtain ⟨p, q, hA0, hV, rfl, hfz, hnd⟩ := hW
  have hA : DataW.TrodAll enc Try.prog W 0 (fun _ => true) true Try.f4.params.toList args.toList ds p := hA0
  rw [Try.params4] at hA hval
  obtain ⟨v0, vs0, d0, ds0, p0, q0, hargs, rfl, rfl, h0, r0⟩ := trodAll_cons hA
  obtain ⟨v1, vs1, d1, ds1, p1, q1, rfl, rfl, rfl, h1, r1⟩ := trodAll_cons r0
  obtain ⟨v2, vs2, d2, ds2, p2, q2, rfl, rfl, rfl, h2, r2⟩ := trodAll_cons r1
  obtain ⟨rfl, rfl, rfl⟩ := trodAll_nil r2
  obtain rfl : args = #[v0, v1, v2] := by cases args; simp_all
  obtain ⟨rfl, rfl⟩ := trodVars_none hV
  obtain ⟨a0, rfl, rfl, rfl, w0⟩ := open_int Try.underlying2 (hval 0 2 v0 rfl rfl) h0
  obtain ⟨a1, rfl, rfl, rfl, w1⟩ := open_int Try.underlying2 (hval 1 2 v1 rfl rfl) h1
  obtain ⟨a2, rfl, rfl, rfl, w2⟩ := open_int Try.underlying29 (hval 2 29 v2 rfl rfl) h2
  clear hA0 hval0
  refine (DeltaLine_walk W a0 (fits_of_wf w0) a1 (fits_of_wf w1) a2 (fits_of_wf w2)).mono fun e W' ⟨he, bel⟩ => ?_
  subst he
  exact ⟨_, rfl, _, _, _, [], _, [], hW', trodAll_mk1 (shut_bool Try.underlying4 _), (trodAll_cons_mk (shut_int Try.underlying2 w0) (trodAll_cons_mk (shut_int Try.underlying2 w1) (trodAll_cons_mk (shut_int Try.underlying29 w2) trodAll_mk0))), rfl, bel.frame _, fun h => by cases h⟩

theorem proved : Rows.DeltaLineSaid :=
  OpenClaim.holds_of_wide 4 Try.f4 rfl rfl rfl rfl rfl rfl rfl ⟨rfl, rfl, rfl, rfl, rfl⟩ rfl rfl rfl rfl rfl (by kernel_rfl) Try.func4 (by kernel_rfl)
    (of_decide_eq_true (by kernel_rfl)) (by unfold Func.isWrapper; first | (rw [if_pos (by decide +kernel)]; kernel_rfl) | (rw [if_neg (by decide +kernel)]; exact ⟨rfl, rfl⟩))
    (fun os started H enc _ => lifted os started H enc)
#print axioms proved
end deltaLine
end Go.Proofs.Ytkbcmblgieoleaa
