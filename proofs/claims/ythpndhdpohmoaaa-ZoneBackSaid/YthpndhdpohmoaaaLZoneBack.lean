/-
  ZoneBack: for every input the law returns true; the arguments read behind the call as they read before. No condition.
-/
import Derived.Test.YthpndhdpohmoaaaZoneP
import Derived.Test.YthpndhdpohmoaaaZoneB
import Derived.ChangeOld
namespace Go.Cor
theorem zload_nil {ys : List Int} (h : (zload ys).2 ≠ 0) : (zload ys).1 = [] := by
  unfold zload at h ⊢
  by_cases h1 : ys.length < 4
  · rw [if_pos h1]
  · rw [if_neg h1] at h ⊢
    by_cases h2 : (zl (num (ys.take 4)).toNat (ys.drop 4)).2.2 = 0
    · rw [if_neg (by simp [h2])] at h ⊢
      by_cases h3 : 4 + (zl (num (ys.take 4)).toNat (ys.drop 4)).2.1 < ys.length
      · rw [if_pos h3]
      · rw [if_neg h3] at h; exact absurd rfl h
    · rw [if_pos h2]
end Go.Cor
namespace Go.Proofs.Ythpndhdpohmoaaa
open Go.RowKit Go.Cor Go.Free

set_option maxRecDepth 100000 in
set_option maxHeartbeats 4000000 in
theorem ZoneBack_walk (W : World) (A : Option Addr) (n c : Nat) (zs : List Zn) (h : RdZ W A n c zs) (hz : ∀ z ∈ zs, ZFit z) (B : Option Addr) (m d : Nat) (ys : List Int) (h' : Rd W .u8 B m d ys) (hi' : In .u8 ys) :
    Calls Try.prog 11 #[.slice A n c, .slice B m d] W fun e w' => e = .returned (.bool true) ∧ Below W.heap.size W w' := by
  by_cases hn : 40 < n
  · clear h hz h' hi'
    go_enter Try.func11, Try.ntmps11
    go_wp2
    go_ret
    exact ⟨rfl, Below.refl _ _⟩
  by_cases hm : 1000 < m
  · clear h hz h' hi'
    go_enter Try.func11, Try.ntmps11
    go_wp2
    go_ret
    exact ⟨rfl, Below.refl _ _⟩
  have hby : By ys := fun x hx => hi' x hx
  have hcnt := zload_count ys
  have hlen := h'.len
  have hlz := rdZ_len h
  have hst : ∀ w A c, RdZ w A n c zs → Calls Try.prog 49 #[.slice A n c] w (ZStore w.heap.size 5 w zs) := fun w A c h => store_any A n c zs w h (by omega)
  have hld := fun w h => load_any w B m d ys h (by omega) hby
  have hl2 : ∀ (q : Int) (xs : List Int), zstore zs = (xs, q) → q = 0 → ∀ w A m c, Rd w .u8 A m c xs → Calls Try.prog 51 #[.slice A m c] w fun e w' => ∃ A' c', e = .returned (.tuple #[.slice A' n c', .int .i64 0]) ∧ RdZ w' A' n c' zs ∧ Below w.heap.size w w' := by
    intro q xs hq h0 w A m c h
    subst h0
    have hr : zs.all zright = true := by
      unfold zstore at hq; split at hq
      · assumption
      · simp at hq
    have hx : xs = zst zs := by unfold zstore at hq; rw [if_pos hr] at hq; exact ((Prod.mk.inj hq).1).symm
    subst hx
    have hby : By (zst zs) := fun x hx => zst_bytes zs x hx
    have hzl := zst_len zs
    have h1 := h.len
    have := load_any w A m c (zst zs) h (by omega) hby
    refine this.mono ?_
    rintro e w' ⟨A', m', c', rfl, ho, hb⟩
    rw [zload_zst hz hr (by omega)] at ho ⊢
    have hm' : zs.length = m' := rdZ_len (RdV.own ho)
    obtain rfl : m' = n := by omega
    exact ⟨A', c', rfl, RdV.own ho, hb⟩
  unfold ZStore at hst
  unfold ZLoad at hld
  obtain ⟨s1, hs1⟩ : ∃ s, (zstore zs).1 = s := ⟨_, rfl⟩
  obtain ⟨s2, hs2⟩ : ∃ s, (zstore zs).2 = s := ⟨_, rfl⟩
  have hs : s2 = 0 ∨ s2 = 4 := by rw [← hs2]; unfold zstore; split <;> simp
  obtain ⟨l1, hl1⟩ : ∃ s, (zload ys).1 = s := ⟨_, rfl⟩
  obtain ⟨l2, hl2'⟩ : ∃ s, (zload ys).2 = s := ⟨_, rfl⟩
  have hzz : l2 = 0 → zstore l1 = (ys, 0) := fun hq => by rw [← hl1]; exact zstore_zload hby (by rw [hl2', hq])
  have hnil : l2 ≠ 0 → l1 = [] := fun hq => by rw [← hl1]; exact zload_nil (by rw [hl2']; exact hq)
  have hl2 := hl2 s2 s1 (by rw [← hs1, ← hs2])
  rw [hs1, hs2] at hst
  rw [hl1, hl2'] at hld
  rw [hl1] at hcnt
  have HST := Lib.hid hst
  have HLD := Lib.hid hld
  have HL2 := Lib.hid hl2
  have HOWN := Lib.hid (own_any A n c zs W h (by omega))
  have H := Lib.hid h
  have H' := Lib.hid h'
  have HC := Lib.hid (show l1.length ≤ 1000 by omega)
  have HN := Lib.hid (show n ≤ 40 by omega)
  have HM := Lib.hid (show m ≤ 1000 by omega)
  have HZZ := Lib.hid hzz
  have HNIL := Lib.hid hnil
  clear h hz h' hi' hby hcnt hlen hlz hst hld hl2 hs1 hs2 hl1 hl2' hzz hnil
  go_enter Try.func11, Try.ntmps11
  go_wp2_with fail
  refine HOWN.out.mono ?_
  rintro e w1 ⟨A1, c1, rfl, ho1, hb1⟩
  have HO1 := Lib.hid (show RdZ w1 A1 n c1 zs from RdV.own ho1)
  have HB1 := Lib.hid hb1
  clear ho1 hb1
  go_wp2_with fail
  refine (HST.out w1 A1 c1 HO1.out).mono ?_
  rintro e w2 ⟨A2, m2, c2, rfl, ho2, hb2⟩
  have HO2 := Lib.hid (Rd.own ho2)
  have HB2 := Lib.hid (HB1.out.trans (hb2.mono HB1.out.size))
  clear ho2 hb2 HO1 HB1
  rcases hs with rfl | rfl
  · go_wp2_with fail
    refine (HL2.out (by simp) w2 A2 m2 c2 HO2.out).mono ?_
    rintro e w3 ⟨A3, c3, rfl, ho3, hb3⟩
    have HO3 := Lib.hid ho3
    have HB3 := Lib.hid (HB2.out.trans (hb3.mono HB2.out.size))
    clear ho3 hb3 HB2
    have HSM := Lib.hid (same25_any A3 A n c3 c zs w3 HO3.out (H.out.below HB3.out) (by have := HN.out; omega))
    go_wp2_with fail
    refine HSM.out.mono ?_
    rintro e w4 ⟨rfl, hb4⟩
    have HB4 := Lib.hid (HB3.out.trans (hb4.mono HB3.out.size))
    clear hb4 HB3 HSM HO3
    go_wp2_with fail
    refine (HLD.out _ (H'.out.below HB4.out)).mono ?_
    rintro e w5 ⟨A5, m5, c5, rfl, ho5, hb5⟩
    have hm5 : l1.length = m5 := rdZ_len (RdV.own ho5)
    have HO5 := Lib.hid (show RdZ w5 A5 m5 c5 l1 from RdV.own ho5)
    have HB5 := Lib.hid (HB4.out.trans (hb5.mono HB4.out.size))
    clear ho5 hb5 HB4
    by_cases hq : l2 = 0
    · subst hq
      have hs6 := store_any A5 m5 c5 l1 w5 HO5.out (by have := HC.out; omega)
      unfold ZStore at hs6
      rw [HZZ.out rfl] at hs6
      have HS6 := Lib.hid hs6
      clear hs6 hm5
      go_wp2_with fail
      refine HS6.out.mono ?_
      rintro e w6 ⟨A6, m6, c6, rfl, ho6, hb6⟩
      have HB6 := Lib.hid (HB5.out.trans (hb6.mono HB5.out.size))
      have hcv := conv_bytes (Rd.own ho6) 38 5 9 Try.underlying38 Try.underlying5 Try.underlying9
      have hcv2 := conv_bytes (H'.out.below HB6.out) 38 5 9 Try.underlying38 Try.underlying5 Try.underlying9
      clear ho6 hb6 HS6 HB5
      go_wp2_with fail
      refine (awake25 _).mono ?_
      rintro e w7 ⟨rfl, hb7⟩
      have HB7 := Lib.hid (HB6.out.trans (hb7.mono HB6.out.size))
      clear hb7
      go_wp2
      go_ret
      exact ⟨rfl, HB7.out⟩
    · have hl0 := HNIL.out hq
      subst hl0
      obtain rfl : m5 = 0 := by simpa using hm5.symm
      clear hm5
      go_wp2_with fail
      refine (awake25 _).mono ?_
      rintro e w7 ⟨rfl, hb7⟩
      have HB7 := Lib.hid (HB5.out.trans (hb7.mono HB5.out.size))
      clear hb7
      go_wp2
      go_ret
      exact ⟨rfl, HB7.out⟩
  · have HB4 := HB2
    have w4 := w2
    go_wp2_with fail
    refine (HLD.out _ (H'.out.below HB4.out)).mono ?_
    rintro e w5 ⟨A5, m5, c5, rfl, ho5, hb5⟩
    have hm5 : l1.length = m5 := rdZ_len (RdV.own ho5)
    have HO5 := Lib.hid (show RdZ w5 A5 m5 c5 l1 from RdV.own ho5)
    have HB5 := Lib.hid (HB4.out.trans (hb5.mono HB4.out.size))
    clear ho5 hb5 HB4
    by_cases hq : l2 = 0
    · subst hq
      have hs6 := store_any A5 m5 c5 l1 w5 HO5.out (by have := HC.out; omega)
      unfold ZStore at hs6
      rw [HZZ.out rfl] at hs6
      have HS6 := Lib.hid hs6
      clear hs6 hm5
      go_wp2_with fail
      refine HS6.out.mono ?_
      rintro e w6 ⟨A6, m6, c6, rfl, ho6, hb6⟩
      have HB6 := Lib.hid (HB5.out.trans (hb6.mono HB5.out.size))
      have hcv := conv_bytes (Rd.own ho6) 38 5 9 Try.underlying38 Try.underlying5 Try.underlying9
      have hcv2 := conv_bytes (H'.out.below HB6.out) 38 5 9 Try.underlying38 Try.underlying5 Try.underlying9
      clear ho6 hb6 HS6 HB5
      go_wp2_with fail
      refine (awake25 _).mono ?_
      rintro e w7 ⟨rfl, hb7⟩
      have HB7 := Lib.hid (HB6.out.trans (hb7.mono HB6.out.size))
      clear hb7
      go_wp2
      go_ret
      exact ⟨rfl, HB7.out⟩
    · have hl0 := HNIL.out hq
      subst hl0
      obtain rfl : m5 = 0 := by simpa using hm5.symm
      clear hm5
      go_wp2_with fail
      refine (awake25 _).mono ?_
      rintro e w7 ⟨rfl, hb7⟩
      have HB7 := Lib.hid (HB5.out.trans (hb7.mono HB5.out.size))
      clear hb7
      go_wp2
      go_ret
      exact ⟨rfl, HB7.out⟩

namespace zoneBack
open Go.ChangeShapes Go.WideShapes Go.ChangeAt Go.RowKit Go.Cor
set_option linter.unusedVariables false

set_option maxRecDepth 100000 in
theorem lifted (os : Os) (started : os.Started) (H : Type) (enc : TypeId × Value → H) :
    ReturnsInHanded {} Try.checked os 11 .any (Rows.zoneBackSpec.pre6 enc Try.prog Try.f11 Rows.zoneBackRow.domain false) (Rows.zoneBackSpec.post enc Try.prog Try.f11 false true false false) := by
  refine returnsInHanded_of_change (C := Try.checked) (by kernel_rfl : ownKnob Try.prog.godebug = none) started (by kernel_rfl) Try.func11
    (ChangeSpec.witness6 (enc := enc) (C := Try.checked) false ⟨#[], #[.slice none 0 0, .slice none 0 0], []⟩ 8 (by kernel_rfl) (by kernel_rfl) (by kernel_rfl) (by kernel_rfl)) ?_
  intro W base args ds gs before hval0 hW hcnd _
  have hval : ∀ (j : Nat) t v, Try.f11.params[j]? = some t → args[j]? = some v → Value.okWide Try.prog W .any base t v := hval0
  have hW' := hW
  obtain ⟨p, q, hA0, hV, rfl, hfz, hnd⟩ := hW
  have hA : DataW.TrodAll enc Try.prog W 0 (fun _ => true) true Try.f11.params.toList args.toList ds p := hA0
  rw [Try.params11] at hA hval
  obtain ⟨v0, vs0, d0, ds0, p0, q0, hargs, rfl, rfl, h0, r0⟩ := trodAll_cons hA
  obtain ⟨v1, vs1, d1, ds1, p1, q1, rfl, rfl, rfl, h1, r1⟩ := trodAll_cons r0
  obtain ⟨rfl, rfl, rfl⟩ := trodAll_nil r1
  obtain rfl : args = #[v0, v1] := by cases args; simp_all
  obtain ⟨rfl, rfl⟩ := trodVars_none hV
  obtain ⟨a0, len0, cap0, rfl⟩ := okWide_slice Try.underlying31 (hval 0 31 v0 rfl rfl)
  have k0 := h0
  have lt0 : ∀ x ∈ p0, x.block < W.heap.size := by obtain ⟨m, hm⟩ := k0; exact DataW.trod_lt m _ _ _ hm
  obtain ⟨x0, g0, b0⟩ : ∃ zs, RdZ W a0 len0 cap0 zs ∧ ∀ z ∈ zs, ZFit z := by
    obtain ⟨fuel, hf⟩ := h0
    obtain ⟨A, n, c, zs, hcs, h1, h2⟩ := open_zones Try.underlying31 Try.underlying29 (by kernel_rfl) rfl rfl rfl rfl (by kernel_rfl) (by kernel_rfl) (by kernel_rfl) (by kernel_rfl) Try.underlying3 Try.underlying2 Try.underlying2 Try.underlying2 hf
    simp [Value.cells] at hcs
    obtain ⟨rfl, rfl, rfl⟩ := hcs
    exact ⟨zs, h1, h2⟩
  obtain ⟨a1, len1, cap1, rfl⟩ := okWide_slice Try.underlying38 (hval 1 38 v1 rfl rfl)
  have k1 := h1
  have lt1 : ∀ x ∈ p1, x.block < W.heap.size := by obtain ⟨m, hm⟩ := k1; exact DataW.trod_lt m _ _ _ hm
  obtain ⟨x1, g1, b1⟩ : ∃ xs, Rd W .u8 a1 len1 cap1 xs ∧ In .u8 xs := by
    obtain ⟨fuel, hf⟩ := h1
    rcases open_ints Try.underlying38 Try.underlying5 (by kernel_rfl) hf with ⟨hcs, _⟩ | ⟨x, l, c, zs, hcs, _, hl, hm, hz, _, hcell, hwz⟩
    · simp [Value.cells] at hcs
      obtain ⟨rfl, rfl, rfl⟩ := hcs
      exact ⟨[], Rd.nilv _ _, fun _ h => by cases h⟩
    · simp [Value.cells] at hcs
      obtain ⟨rfl, rfl, rfl⟩ := hcs
      exact Rd.of_row hl hm hz hcell hwz
  clear hA0 hval0
  refine (ZoneBack_walk W a0 len0 cap0 x0 g0 b0 a1 len1 cap1 x1 g1 b1).mono fun e W' ⟨he, bel⟩ => ?_
  subst he
  exact ⟨_, rfl, _, _, _, [], _, [], hW', trodAll_mk1 (shut_bool Try.underlying4 _), (trodAll_cons_mk (Below.trod (by kernel_rfl : laidOutB Try.prog = true) (by kernel_rfl) (of_decide_eq_true (by kernel_rfl)) k0 bel lt0) (trodAll_cons_mk (Below.trod (by kernel_rfl : laidOutB Try.prog = true) (by kernel_rfl) (of_decide_eq_true (by kernel_rfl)) k1 bel lt1) trodAll_mk0)), rfl, bel.frame _, fun h => by cases h⟩

theorem proved : Rows.ZoneBackSaid :=
  OpenClaim.holds_of_wide 11 Try.f11 rfl rfl rfl rfl rfl rfl rfl ⟨rfl, rfl, rfl, rfl, rfl⟩ rfl rfl rfl rfl rfl (by kernel_rfl) Try.func11 (by kernel_rfl)
    (of_decide_eq_true (by kernel_rfl)) (by unfold Func.isWrapper; first | (rw [if_pos (by decide +kernel)]; kernel_rfl) | (rw [if_neg (by decide +kernel)]; exact ⟨rfl, rfl⟩))
    (fun os started H enc _ => lifted os started H enc)
#print axioms proved
end zoneBack
end Go.Proofs.Ythpndhdpohmoaaa
