/-
  ZoneStores: for every input the law returns true; the arguments read behind the call as they read before. No condition.
-/
import Derived.Test.YthpndhdpohmoaaaZoneP
import Derived.ChangeOld
namespace Go.Proofs.Ythpndhdpohmoaaa
open Go.RowKit Go.Cor Go.Free

set_option maxRecDepth 100000 in
set_option maxHeartbeats 4000000 in
theorem ZoneStores_walk (W : World) (A : Option Addr) (n c : Nat) (zs : List Zn) (h : RdZ W A n c zs) (hz : ∀ z ∈ zs, ZFit z) (B : Option Addr) (m d : Nat) (ys : List Int) (h' : Rd W .u8 B m d ys) (hi' : In .u8 ys) :
    Calls Try.prog 10 #[.slice A n c, .slice B m d] W fun e w' => e = .returned (.bool true) ∧ Below W.heap.size W w' := by
  by_cases hn : 40 < n
  · clear h hz h' hi'
    go_enter Try.func10, Try.ntmps10
    go_wp2
    go_ret
    exact ⟨rfl, Below.refl _ _⟩
  by_cases hm : 1000 < m
  · clear h hz h' hi'
    go_enter Try.func10, Try.ntmps10
    go_wp2
    go_ret
    exact ⟨rfl, Below.refl _ _⟩
  have hby : By ys := fun x hx => hi' x hx
  have hcnt := zload_count ys
  have hlen := h'.len
  have hst : ∀ w A c, RdZ w A n c zs → Calls Try.prog 49 #[.slice A n c] w (ZStore w.heap.size 5 w zs) := fun w A c h => store_any A n c zs w h (by omega)
  have hrs := fun w h => refStore_any A n c zs w h (by omega)
  have hld := fun w h => load_any w B m d ys h (by omega) hby
  have hrl := fun w h => refLoad_any w B m d ys h (by omega) hby
  unfold ZStore at hst hrs
  unfold ZLoad at hld hrl
  obtain ⟨s1, hs1⟩ : ∃ s, (zstore zs).1 = s := ⟨_, rfl⟩
  obtain ⟨s2, hs2⟩ : ∃ s, (zstore zs).2 = s := ⟨_, rfl⟩
  obtain ⟨l1, hl1⟩ : ∃ s, (zload ys).1 = s := ⟨_, rfl⟩
  obtain ⟨l2, hl2⟩ : ∃ s, (zload ys).2 = s := ⟨_, rfl⟩
  rw [hs1, hs2] at hst hrs
  rw [hl1, hl2] at hld hrl
  rw [hl1] at hcnt
  have HST := Lib.hid hst
  have HRS := Lib.hid hrs
  have HLD := Lib.hid hld
  have HRL := Lib.hid hrl
  have HOWN := Lib.hid (own_any A n c zs W h (by omega))
  have H := Lib.hid h
  have H' := Lib.hid h'
  have HC := Lib.hid (show l1.length ≤ 1000 by omega)
  clear h hz h' hi' hby hcnt hlen hst hrs hld hrl hs1 hs2 hl1 hl2
  go_enter Try.func10, Try.ntmps10
  go_wp2_with fail
  refine HOWN.out.mono ?_
  rintro e w1 ⟨A1, c1, rfl, ho1, hb1⟩
  have HO1 := Lib.hid (show RdZ w1 A1 n c1 zs from RdV.own ho1)
  have HB1 := Lib.hid hb1
  clear ho1 hb1
  go_wp2_with fail
  refine (HST.out w1 A1 c1 HO1.out).mono ?_
  rintro e w2 ⟨A2, m2, c2, rfl, ho2, hb2⟩
  have HO2 := Lib.hid (Rd.own ho2)
  have HB2 := Lib.hid (HB1.out.trans (hb2.mono HB1.out.size))
  clear ho2 hb2 HO1 HB1
  go_wp2_with fail
  refine (HRS.out w2 (H.out.below HB2.out)).mono ?_
  rintro e w3 ⟨A3, m3, c3, rfl, ho3, hb3⟩
  have HO3 := Lib.hid (Rd.own ho3)
  have HO2' := Lib.hid (HO2.out.below hb3)
  have HB3 := Lib.hid (HB2.out.trans (hb3.mono HB2.out.size))
  clear ho3 hb3 HO2 HB2
  go_wp2_with fail
  refine (HLD.out w3 (H'.out.below HB3.out)).mono ?_
  rintro e w4 ⟨A4, m4, c4, rfl, ho4, hb4⟩
  have hm4 : l1.length = m4 := rdZ_len (RdV.own ho4)
  have HO4 := Lib.hid (show RdZ w4 A4 m4 c4 l1 from RdV.own ho4)
  have HO2'' := Lib.hid (HO2'.out.below hb4)
  have HO3' := Lib.hid (HO3.out.below hb4)
  have HB4 := Lib.hid (HB3.out.trans (hb4.mono HB3.out.size))
  clear ho4 hb4 HO2' HO3 HB3
  go_wp2_with fail
  refine (HRL.out w4 (H'.out.below HB4.out)).mono ?_
  rintro e w5 ⟨A5, m5, c5, rfl, ho5, hb5⟩
  have hm5 : l1.length = m5 := rdZ_len (RdV.own ho5)
  obtain rfl : m5 = m4 := by omega
  have HO5 := Lib.hid (show RdZ w5 A5 m5 c5 l1 from RdV.own ho5)
  have HO4' := Lib.hid (show RdZ w5 A4 m5 c4 l1 from HO4.out.below hb5)
  have hcv := conv_bytes (HO2''.out.below hb5) 38 5 9 Try.underlying38 Try.underlying5 Try.underlying9
  have hcv2 := conv_bytes (HO3'.out.below hb5) 38 5 9 Try.underlying38 Try.underlying5 Try.underlying9
  have HB5 := Lib.hid (HB4.out.trans (hb5.mono HB4.out.size))
  have HSM := Lib.hid (same25_any A4 A5 m5 c4 c5 l1 w5 HO4'.out HO5.out (by have := HC.out; omega))
  clear ho5 hb5 HO2'' HO3' HB4 hm4 hm5
  go_wp2_with fail
  refine HSM.out.mono ?_
  rintro e w6 ⟨rfl, hb6⟩
  have HB6 := Lib.hid (HB5.out.trans (hb6.mono HB5.out.size))
  clear hb6 hcv hcv2
  go_wp2_with fail
  refine (awake25 _).mono ?_
  rintro e w7 ⟨rfl, hb7⟩
  have HB7 := Lib.hid (HB6.out.trans (hb7.mono HB6.out.size))
  clear hb7
  go_wp2
  go_ret
  exact ⟨rfl, HB7.out⟩

namespace zoneStores
open Go.ChangeShapes Go.WideShapes Go.ChangeAt Go.RowKit Go.Cor
set_option linter.unusedVariables false

set_option maxRecDepth 100000 in
theorem lifted (os : Os) (started : os.Started) (H : Type) (enc : TypeId × Value → H) :
    ReturnsInHanded {} Try.checked os 10 .any (Rows.zoneStoresSpec.pre6 enc Try.prog Try.f10 Rows.zoneStoresRow.domain false) (Rows.zoneStoresSpec.post enc Try.prog Try.f10 false true false false) := by
  refine returnsInHanded_of_change (C := Try.checked) (by kernel_rfl : ownKnob Try.prog.godebug = none) started (by kernel_rfl) Try.func10
    (ChangeSpec.witness6 (enc := enc) (C := Try.checked) false ⟨#[], #[.slice none 0 0, .slice none 0 0], []⟩ 8 (by kernel_rfl) (by kernel_rfl) (by kernel_rfl) (by kernel_rfl)) ?_
  intro W base args ds gs before hval0 hW hcnd _
  have hval : ∀ (j : Nat) t v, Try.f10.params[j]? = some t → args[j]? = some v → Value.okWide Try.prog W .any base t v := hval0
  have hW' := hW
  obtain ⟨p, q, hA0, hV, rfl, hfz, hnd⟩ := hW
  have hA : DataW.TrodAll enc Try.prog W 0 (fun _ => true) true Try.f10.params.toList args.toList ds p := hA0
  rw [Try.params10] at hA hval
  obtain ⟨v0, vs0, d0, ds0, p0, q0, hargs, rfl, rfl, h0, r0⟩ := trodAll_cons hA
  obtain ⟨v1, vs1, d1, ds1, p1, q1, rfl, rfl, rfl, h1, r1⟩ := trodAll_cons r0
  obtain ⟨rfl, rfl, rfl⟩ := trodAll_nil r1
  obtain rfl : args = #[v0, v1] := by cases args; simp_all
  obtain ⟨rfl, rfl⟩ := trodVars_none hV
  obtain ⟨a0, len0, cap0, rfl⟩ := okWide_slice Try.underlying31 (hval 0 31 v0 rfl rfl)
  have k0 := h0
  have lt0 : ∀ x ∈ p0, x.block < W.heap.size := by obtain ⟨m, hm⟩ := k0; exact DataW.trod_lt m _ _ _ hm
  obtain ⟨x0, g0, b0⟩ : ∃ zs, RdZ W a0 len0 cap0 zs ∧ ∀ z ∈ zs, ZFit z := by
    obtain ⟨fuel, hf⟩ := h0
    obtain ⟨A, n, c, zs, hcs, h1, h2⟩ := open_zones Try.underlying31 Try.underlying29 (by kernel_rfl) rfl rfl rfl rfl (by kernel_rfl) (by kernel_rfl) (by kernel_rfl) (by kernel_rfl) Try.underlying3 Try.underlying2 Try.underlying2 Try.underlying2 hf
    simp [Value.cells] at hcs
    obtain ⟨rfl, rfl, rfl⟩ := hcs
    exact ⟨zs, h1, h2⟩
  obtain ⟨a1, len1, cap1, rfl⟩ := okWide_slice Try.underlying38 (hval 1 38 v1 rfl rfl)
  have k1 := h1
  have lt1 : ∀ x ∈ p1, x.block < W.heap.size := by obtain ⟨m, hm⟩ := k1; exact DataW.trod_lt m _ _ _ hm
  obtain ⟨x1, g1, b1⟩ : ∃ xs, Rd W .u8 a1 len1 cap1 xs ∧ In .u8 xs := by
    obtain ⟨fuel, hf⟩ := h1
    rcases open_ints Try.underlying38 Try.underlying5 (by kernel_rfl) hf with ⟨hcs, _⟩ | ⟨x, l, c, zs, hcs, _, hl, hm, hz, _, hcell, hwz⟩
    · simp [Value.cells] at hcs
      obtain ⟨rfl, rfl, rfl⟩ := hcs
      exact ⟨[], Rd.nilv _ _, fun _ h => by cases h⟩
    · simp [Value.cells] at hcs
      obtain ⟨rfl, rfl, rfl⟩ := hcs
      exact Rd.of_row hl hm hz hcell hwz
  clear hA0 hval0
  refine (ZoneStores_walk W a0 len0 cap0 x0 g0 b0 a1 len1 cap1 x1 g1 b1).mono fun e W' ⟨he, bel⟩ => ?_
  subst he
  exact ⟨_, rfl, _, _, _, [], _, [], hW', trodAll_mk1 (shut_bool Try.underlying4 _), (trodAll_cons_mk (Below.trod (by kernel_rfl : laidOutB Try.prog = true) (by kernel_rfl) (of_decide_eq_true (by kernel_rfl)) k0 bel lt0) (trodAll_cons_mk (Below.trod (by kernel_rfl : laidOutB Try.prog = true) (by kernel_rfl) (of_decide_eq_true (by kernel_rfl)) k1 bel lt1) trodAll_mk0)), rfl, bel.frame _, fun h => by cases h⟩

theorem proved : Rows.ZoneStoresSaid :=
  OpenClaim.holds_of_wide 10 Try.f10 rfl rfl rfl rfl rfl rfl rfl ⟨rfl, rfl, rfl, rfl, rfl⟩ rfl rfl rfl rfl rfl (by kernel_rfl) Try.func10 (by kernel_rfl)
    (of_decide_eq_true (by kernel_rfl)) (by unfold Func.isWrapper; first | (rw [if_pos (by decide +kernel)]; kernel_rfl) | (rw [if_neg (by decide +kernel)]; exact ⟨rfl, rfl⟩))
    (fun os started H enc _ => lifted os started H enc)
#print axioms proved
end zoneStores
end Go.Proofs.Ythpndhdpohmoaaa
