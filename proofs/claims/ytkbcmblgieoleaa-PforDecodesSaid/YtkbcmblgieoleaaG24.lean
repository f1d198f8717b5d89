/-
  Chapter 11, the reference: form, Encode.
  Chapter 11: Encode.
-/
import Derived.Test.YtkbcmblgieoleaaG5
import Derived.Test.YtkbcmblgieoleaaG14
import Derived.Test.YtkbcmblgieoleaaG20
import Derived.Test.YtkbcmblgieoleaaG23
namespace Go.Cor
open Go Go.RowKit
/-- rows that the call owns, in blocks apart -/
def Apt (v u : Value) : Prop := ∀ g, v.ownBlock = some g → u.ownBlock ≠ some g
theorem Apt.symm {v u : Value} (h : Apt v u) : Apt u v := fun g e e2 => h g e2 e
theorem Apt.grow {w : World} {B : Nat} {E : TypeId} {size : Nat} {v v' u : Value} {n : Nat} {xs : List Value} (h : Apt v u) (hat : v'.ownBlock = v.ownBlock ∨ v'.ownBlock = some w.heap.size) (hu : w.ownsRow B E size u n xs) : Apt v' u := by
  intro g e e2
  rcases hat with h1 | h1
  · exact h g (h1 ▸ e) e2
  · have := (hu.lt g e2).2
    rw [h1] at e; injection e with e; omega
theorem Apt.none (u : Value) : Apt (.slice none 0 0) u := fun g e => by simp [Value.ownBlock] at e
theorem owns_beside {w w' : World} {B : Nat} {E : TypeId} {size : Nat} {v u : Value} {n : Nat} {xs : List Value} (h : w.ownsRow B E size v n xs) (hg : w.grownBy w' u.ownBlock) (ha : Apt v u) : w'.ownsRow B E size v n xs := by
  obtain ⟨hl, h2⟩ := h
  refine ⟨hl, ?_⟩
  rcases h2 with h2 | ⟨g, c, cur, rfl, hB, hgc, hr⟩
  · exact .inl h2
  · exact .inr ⟨g, c, cur, rfl, hB, (hg.block g (lt_of_block hgc) (fun e => ha g rfl e.symm)).trans hgc, hr⟩
theorem lows_snoc (k : Nat) {us : List Int} {i : Nat} (h : i < us.length) : lows k (us.take i) ++ [((flo k (us[i]?.getD 0) : Nat) : Int)] = lows k (us.take (i + 1)) := map_take_snoc (l := us) (fun u => ((flo k u : Nat) : Int)) h
end Go.Cor
namespace Go.Proofs.Ytkbcmblgieoleaa
open Go.RowKit Go.Cor Go.Free

set_option maxRecDepth 100000 in
set_option maxHeartbeats 8000000 in
theorem refForm_any (f : Int) (A : Option Addr) (n c : Nat) (us : List Int) (k : Nat) (w : World) (h : Rd w .u64 A n c us) (hu : In .u64 us) (hn : n ≤ 1024) (hk : k ≤ 64) :
    Calls Try.prog 78 #[.int .i64 f, .slice A n c, .int .i64 k] w (RetRow w.heap.size 5 .u8 w (fcut (wu64 f).toNat k us)) := by
  have hl := h.len
  have hex := fun pre x => exc_in (k := k) (pre := pre) (x := x) hu (by omega)
  have hml := marks_len (exc_u64 (k := k) hu 0 (by omega))
  have hel := exc_len_le k us 0
  have hvl := vput_len_u64 (exc k 0 us).length (by omega)
  have HEX := Lib.hid hex
  have hf0 : 0 ≤ wu64 f ∧ wu64 f < 18446744073709551616 := by unfold wu64; omega
  obtain ⟨F, hF⟩ := Int.eq_ofNat_of_zero_le hf0.1
  have ef : IntKind.u64.wrap f = (F : Int) := by rw [← hF]; unfold wu64; simp only [wrapu64]
  have hF64 : (F : Int) ≤ 18446744073709551615 := by omega
  have HF := Lib.hid (show (wu64 f).toNat = F by rw [hF]; rfl)
  have H := Lib.hid h
  have HU := Lib.hid hu
  have HEL := Lib.hid (And.intro hel (And.intro hml (And.intro hl hvl)))
  have ek : IntKind.u8.wrap (k : Int) = (k : Int) := wrapu8_in _ (by omega) (by omega)
  clear h hu hl hex hml hel hvl hf0 hF
  go_enter Try.func78, Try.ntmps78
  go_wp2_with fail
  go_loopg [7, 8, 9, 10, 11] n (fun gg v7 v8 v9 v10 v11 wr => ∃ (i g e m : Nat) (A7 A8 : Option Addr) (c7 c8 : Nat), v11 = .int .i64 i ∧ i ≤ n ∧ gg = n - i ∧ v10 = .int .i64 g ∧ g ≤ i ∧ v9 = .int .i64 e ∧ e ≤ i ∧ v7 = .slice A7 m c7 ∧ m ≤ 30000 ∧ v8 = .slice A8 i c8 ∧ Hid (∃ pre : List (Nat × Nat), e = pre.length ∧ exc k 0 us = pre ++ exc k g (us.drop i) ∧ Below w.heap.size w wr ∧ Owns wr w.heap.size 5 .u8 A7 m c7 (marks pre) ∧ Owns wr w.heap.size 32 .u64 A8 i c8 (lows k (us.take i)) ∧ Apt (.slice A7 m c7) (.slice A8 i c8)))
  case atStart => exact ⟨0, 0, 0, 0, none, none, 0, 0, rfl, by omega, by omega, rfl, by omega, rfl, by omega, rfl, by omega, rfl, Lib.hid ⟨[], rfl, by simp, Below.refl _ _, owns_nil _ _ _ _, owns_nil _ _ _ _, Apt.none _⟩⟩
  case round =>
    obtain ⟨i, g, e, m, A7, A8, c7, c8, rfl, hi, rfl, rfl, hg, rfl, he, rfl, hm, rfl, hI⟩ := hrel
    obtain ⟨wo, rfl⟩ : ∃ wo, wo = wr := ⟨_, rfl⟩
    obtain ⟨pre, hpe, hex, hbl, ho7, ho8, hap⟩ := hI.out
    by_cases hlt : i < n
    · obtain ⟨b', o, rfl, hbl', hc⟩ := (H.out.below hbl).get (by omega)
      have hcell := hc i hlt
      have hl := HEL.out.2.2.1
      rw [List.getD_eq_getElem?_getD] at hcell
      have hx := HU.out (us[i]?.getD 0) (by rw [List.getElem?_eq_getElem (by omega)]; exact List.getElem_mem _)
      obtain ⟨x, hxe⟩ := Int.eq_ofNat_of_zero_le hx.1
      have hls := lows_snoc k (us := us) (i := i) (by omega)
      have hfh : fhi k (us[i]?.getD 0) = x / 2 ^ k := by rw [hxe]; rfl
      have hfl : flo k (us[i]?.getD 0) = x % 2 ^ k := by rw [hxe]; rfl
      rw [hfl] at hls
      rw [hxe] at hcell hx
      have hct := fun w => refCut_any x k hk hx.2 w
      have hz := exc_zero (k := k) (g := g) (us := us) (i := i) (by omega)
      have hm1 := exc_more (k := k) (g := g) (us := us) (i := i) (by omega)
      have ha := exc_at (k := k) (g := g) (us := us) (i := i) (by omega) hex
      rw [hfh] at hz hm1 ha
      have hh : x / 2 ^ k ≤ x := Nat.div_le_self _ _
      obtain ⟨y, hy⟩ : ∃ y, x / 2 ^ k = y := ⟨_, rfl⟩
      obtain ⟨z, hz'⟩ : ∃ z, x % 2 ^ k = z := ⟨_, rfl⟩
      rw [hy] at hz hm1 ha hct hh
      rw [hz'] at hct hls
      have hml := row_len ho7
      have HCT := Lib.hid hct
      have HE := Lib.hid (And.intro hpe (And.intro hml (And.intro hex hbl)))
      have HZ := Lib.hid (And.intro hz (And.intro hm1 ha))
      have HO7 := Lib.hid ho7
      have HO8 := Lib.hid ho8
      have HAP := Lib.hid hap
      have HLS := Lib.hid hls
      have hxu := hx.2
      clear hc hI hpe hex hbl hz hm1 ha hct hxe hfh hfl hx hy hz' hl ho7 ho8 hap hls hml
      by_cases h0 : y = 0
      · subst h0
        go_wp2_with fail
        refine (HCT.out _).mono ?_
        rintro e' w1 ⟨rfl, rfl⟩
        go_wp2_with (at_builtin; refine wpList_append_r rfl rfl elemU64 (HO8.out.alloc _) rfl (RdV.one (Box.new _ _ _)) rfl one_one (by omega) (by omega) (by have := HE.out.2.2.2.size; simp; omega) ?_; intro A9 c9 w2 hown hgr hat; have HW2 := Lib.hid (And.intro (owns_snoc hown) (And.intro (below_grown (HE.out.2.2.2.alloc HE.out.2.2.2.size _) (HO8.out.alloc _) hgr (by have := HE.out.2.2.2.size; simp; omega)) (And.intro (owns_beside (HO7.out.alloc _) hgr HAP.out) (Apt.grow HAP.out.symm hat (HO7.out.alloc _)).symm))); clear hown hgr hat)
        go_roundg (n - (i + 1))
        case measure => omega
        case rel => exact ⟨i + 1, g + 1, e, m, A7, A9, c7, c9, by go_num, by omega, rfl, by go_num, by omega, rfl, by omega, rfl, hm, rfl, Lib.hid ⟨pre, HE.out.1, by rw [HE.out.2.2.1]; first | rw [HZ.out.1 rfl] | rw [HZ.out.1 trivial], HW2.out.2.1, HW2.out.2.2.1, by rw [← HLS.out]; exact HW2.out.1, HW2.out.2.2.2⟩⟩
      · have hpx := HZ.out.2.2 h0
        have hin := HEX.out _ _ hpx
        have hsn := marks_snoc pre (g, y)
        have hpl := hpx.length_le
        have hv1 := vput_len_u64 g (by omega)
        have hv2 := vput_len_u64 y (by omega)
        have hp1 := fun w => refVPut_any g w (by omega)
        have hp2 := fun w => refVPut_any y w (by omega)
        have hne : ((y : Int) == 0) = false := by simp [h0]
        have hpm2 : m ≤ 20480 := by have := hin.2.2.2.1; have := HE.out.2.1; omega
        have HP := Lib.hid (And.intro hp1 hp2)
        have HSL := Lib.hid (And.intro hsn (And.intro hv1 hv2))
        clear hp1 hp2 hpx hin hsn hpl hv1 hv2
        go_wp2_with fail
        refine (HCT.out _).mono ?_
        rintro e' w1 ⟨rfl, rfl⟩
        go_wp2_with (at_builtin; refine wpList_append_r rfl rfl elemU64 (HO8.out.alloc _) rfl (RdV.one (Box.new _ _ _)) rfl one_one (by omega) (by omega) (by have := HE.out.2.2.2.size; simp; omega) ?_; intro A9 c9 w2 hown hgr hat; have HW2 := Lib.hid (And.intro (owns_snoc hown) (And.intro (below_grown (HE.out.2.2.2.alloc HE.out.2.2.2.size _) (HO8.out.alloc _) hgr (by have := HE.out.2.2.2.size; simp; omega)) (And.intro (owns_beside (HO7.out.alloc _) hgr HAP.out) (Apt.grow HAP.out.symm hat (HO7.out.alloc _)).symm))); clear hown hgr hat)
        refine (HP.out.1 _).mono ?_
        rintro e' w3 ⟨A1, n1, c1, rfl, ho1, hb1⟩
        have hn1 : n1 ≤ 10 := by have h1 := row_len ho1; have := HSL.out.2.1; omega
        have HW3 := Lib.hid (And.intro (Owns.below HW2.out.1 hb1) (And.intro (HW2.out.2.1.trans (hb1.mono HW2.out.2.1.size)) (And.intro (Owns.below HW2.out.2.2.1 hb1) (Rd.own ho1))))
        clear ho1 hb1
        go_wp2_with (at_builtin; refine wpList_append_r rfl rfl elemU8 HW3.out.2.2.1 rfl (Rd.toV HW3.out.2.2.2) rfl ints_one (by omega) (by omega) HW3.out.2.1.size ?_; intro A3 c3 w4 hown hgr hat; have HW4 := Lib.hid (And.intro (owns_app hown) (And.intro (below_grown HW3.out.2.1 HW3.out.2.2.1 hgr HW3.out.2.1.size) (And.intro (owns_beside HW3.out.1 hgr HW2.out.2.2.2.symm) (Apt.grow HW2.out.2.2.2 hat HW3.out.1)))); clear hown hgr hat)
        refine (HP.out.2 _).mono ?_
        rintro e' w5 ⟨A2, n2, c2, rfl, ho2, hb2⟩
        have hn2 : n2 ≤ 10 := by have h1 := row_len ho2; have := HSL.out.2.2; omega
        have HW5 := Lib.hid (And.intro (Owns.below HW4.out.1 hb2) (And.intro (HW4.out.2.1.trans (hb2.mono HW4.out.2.1.size)) (And.intro (Owns.below HW4.out.2.2.1 hb2) (Rd.own ho2))))
        clear ho2 hb2
        go_wp2_with (at_builtin; refine wpList_append_r rfl rfl elemU8 HW5.out.1 rfl (Rd.toV HW5.out.2.2.2) rfl ints_one (by omega) (by omega) HW5.out.2.1.size ?_; intro A4 c4 w6 hown hgr hat; have HW6 := Lib.hid (And.intro (owns_app hown) (And.intro (below_grown HW5.out.2.1 HW5.out.1 hgr HW5.out.2.1.size) (And.intro (owns_beside HW5.out.2.2.1 hgr HW4.out.2.2.2.symm) (Apt.grow HW4.out.2.2.2 hat HW5.out.2.2.1)))); clear hown hgr hat)
        go_roundg (n - (i + 1))
        case measure => omega
        case rel =>
          refine ⟨i + 1, 0, e + 1, m + n1 + n2, A4, A9, c4, c9, by go_num, by omega, rfl, rfl, by omega, by go_num, by omega, rfl, by omega, rfl, Lib.hid ⟨pre ++ [(g, y)], by rw [HE.out.1]; simp, by rw [HE.out.2.2.1, HZ.out.2.1 h0]; simp, HW6.out.2.1, ?_, by rw [← HLS.out]; exact HW6.out.2.2.1, HW6.out.2.2.2⟩⟩
          rw [HSL.out.1, ← List.append_assoc]; exact HW6.out.1
    · obtain rfl : i = n := by omega
      have hl := HEL.out.2.2.1
      rw [List.drop_of_length_le (by omega), exc, List.append_nil] at hex
      rw [List.take_of_length_le (by omega)] at ho8
      have hml := row_len ho7
      have hmk := HEL.out.2.1
      have hvl := HEL.out.2.2.2
      have hpl := HEL.out.1
      rw [hex] at hmk hvl hpl
      rw [← hpe] at hvl
      have hoc : octets (i * k) ≤ 8192 := by
        have : i * k ≤ i * 64 := Nat.mul_le_mul_left _ hk
        unfold octets; omega
      have hkl : (packed k (lows k us)).length ≤ 8192 := by rw [packed_len, lows_len, hl]; exact hoc
      have hm2 : m ≤ 20480 := by omega
      have hpk := fun w1 (hb : Below wo.heap.size wo w1) => refPack_any A8 i c8 (lows k us) k w1 (Rd.own (Owns.below ho8 hb)) (fun u hu => by obtain ⟨v, hv, rfl⟩ := List.mem_map.1 hu; have h1 := HU.out v hv; have h2 : flo k v ≤ v.toNat := Nat.mod_le _ _; have h3 : 0 ≤ v := h1.1; have h4 : v ≤ 18446744073709551615 := h1.2; exact ⟨(by show (0 : Int) ≤ _; omega), (by show _ ≤ (18446744073709551615 : Int); omega)⟩) hk (lows_fit k us)
      rw [show packr k (lows k us) = (packed k (lows k us), 0) by unfold packr; rw [if_neg (by rw [lows_len]; omega)]] at hpk
      have hres : fcut (wu64 f).toNat k us = (((leb F 8 ++ [(k : Int)]) ++ vput e) ++ marks pre) ++ packed k (lows k us) := by unfold fcut fbod; rw [HF.out, hex, hpe]; simp
      obtain ⟨P, hP⟩ : ∃ P, packed k (lows k us) = P := ⟨_, rfl⟩
      rw [hP] at hkl hpk hres
      have HPK := Lib.hid hpk
      have HRES := Lib.hid hres
      have HPT := Lib.hid (fun w => refPut_any F 8 w hF64 (by omega))
      have HVP := Lib.hid (fun w => refVPut_any e w (by omega))
      have HN := Lib.hid (And.intro hvl hkl)
      have HBL := Lib.hid hbl
      have HO7 := Lib.hid (Rd.own ho7)
      clear hl hex hml hmk hvl hpl hoc hkl hpk hres hP hbl ho7 ho8 hap hI hpe
      go_wp2_with fail
      refine (HPT.out _).mono ?_
      rintro e' w1 ⟨A1, n1, c1, rfl, ho1, hb1⟩
      obtain rfl : n1 = 8 := by have h1 := row_len ho1; rw [leb_len] at h1; omega
      have HO1 := Lib.hid ho1
      have HB1 := Lib.hid hb1
      clear ho1 hb1
      go_wp2_with (at_builtin; refine wpList_append_r rfl rfl elemU8 (HO1.out.alloc _) rfl (RdV.one (Box.new _ _ _)) rfl one_one (by omega) (by omega) (by have := HB1.out.size; simp; omega) ?_; intro A2 c2 w2 hown hgr _; have HW2 := Lib.hid (And.intro (owns_snoc hown) (below_grown (HB1.out.alloc HB1.out.size _) (HO1.out.alloc _) hgr (by have := HB1.out.size; simp; omega))); clear hown hgr)
      refine (HVP.out _).mono ?_
      rintro e' w3 ⟨A3, n3, c3, rfl, ho3, hb3⟩
      have hn3 : n3 ≤ 10 := by have h1 := row_len ho3; have := HN.out.1; omega
      have HW3 := Lib.hid (And.intro (Owns.below HW2.out.1 hb3) (And.intro (HW2.out.2.trans (hb3.mono HW2.out.2.size)) (Rd.own ho3)))
      clear ho3 hb3
      go_wp2_with (at_builtin; first
        | (refine wpList_append_r rfl rfl elemU8 HW3.out.1 rfl (Rd.toV HW3.out.2.2) rfl ints_one (by omega) (by omega) HW3.out.2.1.size ?_; intro A4 c4 w4 hown hgr _; have HW4 := Lib.hid (And.intro (owns_app hown) (below_grown HW3.out.2.1 HW3.out.1 hgr HW3.out.2.1.size)); clear hown hgr HW3)
        | (refine wpList_append_r rfl rfl elemU8 HW4.out.1 rfl (Rd.toV (HO7.out.below HW4.out.2)) rfl ints_one (by omega) (by omega) HW4.out.2.size ?_; intro A5 c5 w5 hown hgr _; have HW5 := Lib.hid (And.intro (owns_app hown) (below_grown HW4.out.2 HW4.out.1 hgr HW4.out.2.size)); clear hown hgr HW4))
      refine (HPK.out _ HW5.out.2).mono ?_
      rintro e' w6 ⟨A6, n6, c6, rfl, ho6, hb6⟩
      have hn6 : n6 ≤ 8192 := by have h1 := row_len ho6; simp only at h1; have := HN.out.2; omega
      have HW6 := Lib.hid (And.intro (Owns.below HW5.out.1 hb6) (And.intro (HW5.out.2.trans (hb6.mono HW5.out.2.size)) (Rd.own ho6)))
      clear ho6 hb6
      go_wp2_with (at_builtin; refine wpList_append_r rfl rfl elemU8 HW6.out.1 rfl (Rd.toV HW6.out.2.2) rfl ints_one (by omega) (by omega) HW6.out.2.1.size ?_; intro A7 c7 w7 hown hgr _; have HW7 := Lib.hid (And.intro (owns_app hown) (below_grown HW6.out.2.1 HW6.out.1 hgr HW6.out.2.1.size)); clear hown hgr)
      go_ret
      exact ⟨_, _, _, rfl, by rw [HRES.out]; exact owns_weak HW7.out.1 HBL.out.size, HBL.out.trans (HW7.out.2.mono HBL.out.size)⟩

set_option maxRecDepth 100000 in
set_option maxHeartbeats 8000000 in
theorem refFEncode_any (A : Option Addr) (n c : Nat) (xs : List Int) (w : World) (h : Rd w .i64 A n c xs) (hi : In .i64 xs) (hn : n ≤ 1100) :
    Calls Try.prog 30 #[.slice A n c] w (RetRow w.heap.size 5 .u8 w (fform xs)) := by
  have hl := h.len
  by_cases hbig : 1024 < n
  · have HF := Lib.hid (show fform xs = [] by unfold fform; rw [if_pos (by omega)])
    clear h hi hl
    go_enter Try.func30, Try.ntmps30
    go_wp2
    go_ret
    exact ⟨none, 0, 0, rfl, by rw [HF.out]; exact owns_nil _ _ _ _, Below.refl _ _⟩
  have hF : fform xs = fcut (wu64 (least xs)).toNat (fbest (offsets (least xs) xs)) (offsets (least xs) xs) := fform_eq (by omega)
  have HLE := Lib.hid (fun w h => refLeast_any A n c xs w h (by omega))
  have HOF := Lib.hid (fun w h => refOffsets_any (least xs) A n c xs w h (by omega))
  have hui := offsets_in (least xs) xs
  have hul : (offsets (least xs) xs).length = n := by simp [offsets, hl]
  obtain ⟨lo, hlo⟩ : ∃ lo, least xs = lo := ⟨_, rfl⟩
  rw [hlo] at HLE HOF hF hui hul
  obtain ⟨us, hus⟩ : ∃ us, offsets lo xs = us := ⟨_, rfl⟩
  rw [hus] at HOF hF hui hul
  have hbb := fbest_best us
  have HF := Lib.hid (And.intro hF hbb)
  have HU := Lib.hid (And.intro hui hul)
  have H := Lib.hid h
  have hfl := fun k (hk : k ≤ 64) => flen_le (k := k) hui (by omega) hk
  have HFL := Lib.hid hfl
  clear h hi hl hF hlo hus hui hul hbb hfl
  go_enter Try.func30, Try.ntmps30
  go_wp2_with fail
  refine (HLE.out _ H.out).mono ?_
  rintro e w1 ⟨rfl, rfl⟩
  go_wp2_with fail
  refine (HOF.out _ H.out).mono ?_
  rintro e w1 ⟨A1, n1, c1, rfl, ho1, hb1⟩
  obtain rfl : n1 = n := by have h1 := row_len ho1; have := HU.out.2; omega
  have HO1 := Lib.hid (Rd.own ho1)
  have HB1 := Lib.hid hb1
  clear ho1 hb1
  go_wp2_with fail
  go_loopg [5, 6] 65 (fun gg v5 v6 wr => ∃ j b : Nat, v6 = .int .i64 ((j : Int) - 1) ∧ j ≤ 64 ∧ gg = j + 1 ∧ v5 = .int .i64 b ∧ b ≤ 64 ∧ Hid (Best (flen us) j 64 b ∧ Below w1.heap.size w1 wr))
  case atStart => exact ⟨64, 64, rfl, by omega, rfl, rfl, by omega, Lib.hid ⟨best_one _ _, Below.refl _ _⟩⟩
  case round =>
    obtain ⟨j, b, rfl, hj, rfl, rfl, hb, hI⟩ := hrel
    obtain ⟨wo, rfl⟩ : ∃ wo, wo = wr := ⟨_, rfl⟩
    by_cases hlt : 0 < j
    · obtain ⟨i, rfl⟩ : ∃ i, j = i + 1 := ⟨j - 1, by omega⟩
      have hi' : ((i + 1 : Nat) : Int) - 1 = (i : Int) := by omega
      rw [hi']
      have h1 := fun w hb => refFLen_any A1 n1 c1 us i w hb HU.out.1 (by omega) (by omega)
      have h2 := fun w hb => refFLen_any A1 n1 c1 us b w hb HU.out.1 (by omega) (by omega)
      have hl1 := HFL.out i (by omega)
      have hl2 := HFL.out b (by omega)
      have hbd := best_down hI.out.1
      obtain ⟨x, hx⟩ : ∃ x, flen us i = x := ⟨_, rfl⟩
      obtain ⟨y, hy⟩ : ∃ y, flen us b = y := ⟨_, rfl⟩
      rw [hx] at h1 hl1 hbd
      rw [hy] at h2 hl2 hbd
      have HH := Lib.hid (And.intro h1 h2)
      have HBD := Lib.hid hbd
      have HBO := Lib.hid hI.out.2
      clear h1 h2 hbd hx hy hI hi'
      go_wp2_with fail
      refine (HH.out.1 _ (HO1.out.below HBO.out)).mono ?_
      rintro e w2 ⟨rfl, hb2⟩
      have HB2 := Lib.hid (HBO.out.trans (hb2.mono HBO.out.size))
      clear hb2
      by_cases hxy : x ≤ y
      · have hd : decide ((x : Int) ≤ (y : Int)) = true := by simp; omega
        have HBD2 := Lib.hid (show Best (flen us) i 64 i by have := HBD.out; rwa [if_pos hxy] at this)
        go_wp2_with fail
        refine (HH.out.2 _ (HO1.out.below HB2.out)).mono ?_
        rintro e w3 ⟨rfl, hb3⟩
        have HB3 := Lib.hid (HB2.out.trans (hb3.mono HB2.out.size))
        clear hb3
        go_wp2_with fail
        go_roundg (i + 1)
        case measure => omega
        case rel => exact ⟨i, i, by go_num, by omega, rfl, rfl, by omega, Lib.hid ⟨HBD2.out, HB3.out⟩⟩
      · have hd : decide ((x : Int) ≤ (y : Int)) = false := by simp; omega
        have HBD2 := Lib.hid (show Best (flen us) i 64 b by have := HBD.out; rwa [if_neg hxy] at this)
        go_wp2_with fail
        refine (HH.out.2 _ (HO1.out.below HB2.out)).mono ?_
        rintro e w3 ⟨rfl, hb3⟩
        have HB3 := Lib.hid (HB2.out.trans (hb3.mono HB2.out.size))
        clear hb3
        go_wp2_with fail
        go_roundg (i + 1)
        case measure => omega
        case rel => exact ⟨i, b, by go_num, by omega, rfl, rfl, by omega, Lib.hid ⟨HBD2.out, HB3.out⟩⟩
    · obtain rfl : j = 0 := by omega
      have he := best_eq hI.out.1 HF.out.2
      have hff := refForm_any lo A1 n1 c1 us b wo (HO1.out.below hI.out.2) HU.out.1 (by omega) hb
      rw [he, ← HF.out.1] at hff
      rw [← he] at hff
      have HFF := Lib.hid hff
      have HBO := Lib.hid (HB1.out.trans (hI.out.2.mono HB1.out.size))
      clear hff he hI
      go_wp2_with fail
      refine HFF.out.mono ?_
      rintro e w2 ⟨A2, n2, c2, rfl, ho2, hb2⟩
      go_wp2
      go_ret
      exact ⟨A2, n2, c2, rfl, owns_weak ho2 HBO.out.size, HBO.out.trans (hb2.mono HBO.out.size)⟩
end Go.Proofs.Ytkbcmblgieoleaa

namespace Go.Proofs.Ytkbcmblgieoleaa
open Go.RowKit Go.Cor Go.Free
attribute [local go_sem] Oper.semAt_some

set_option maxRecDepth 100000 in
set_option maxHeartbeats 8000000 in
theorem fEncode_any (w : World) (A : Option Addr) (n c : Nat) (xs : List Int) (h : Rd w .i64 A n c xs) (hi : In .i64 xs) (hn : n ≤ 1100) :
    Calls Try.prog 27 #[.agg #[], .slice A n c] w (EncG w.heap.size w tkAll fform xs) := by
  have hk : tak tkAll xs = blk n := by rw [tak_all, h.len]
  have hkw : wrg tkAll xs = if blk n then 0 else 7 := by rw [wrg_all, h.len]
  have hw := fun w h => wrongG pforT A n c xs w h hi hn
  rw [hkw] at hw
  have HK := Lib.hid hk
  have HKW := Lib.hid hkw
  obtain ⟨q, hq⟩ : ∃ q, blk n = q := ⟨_, rfl⟩
  rw [hq] at hw HK HKW
  have HW := Lib.hid hw
  cases q with
  | false =>
    have H := Lib.hid h
    clear hw hq h hi hk hkw
    go_enter Try.func27, Try.ntmps27
    go_wp2_with fail
    refine (HW.out _ (H.out.alloc _)).mono ?_
    rintro e w1 ⟨rfl, hb⟩
    go_wp2
    go_ret2
    exact ⟨none, 0, 0, by rw [HKW.out]; rfl, by rw [HK.out]; exact owns_nil _ _ _ _, ((Below.refl _ _).alloc (Nat.le_refl _) _).trans (hb.mono (by simp))⟩
  | true =>
    have hN := of_decide_eq_true hq
    have hlen := h.len
    have hn2 : n ≤ 1024 := by omega
    have hn0 : 0 < n := by omega
    have hfe := fform_eq (xs := xs) (by omega)
    have HO := Lib.hid (fun w h => foffs_any A n c xs w h (by omega))
    unfold RetOff at HO
    have hin := offsets_in (least xs) xs
    have hul : (offsets (least xs) xs).length = n := by simp [offsets, hlen]
    have hfb := wu64_bd (least xs)
    have hli : Fits .i64 (least xs) := hi _ (least_mem (fun e => by rw [e] at hlen; simp at hlen; omega))
    have hk64 := (fbest_le _ (offsets_fit (least xs) xs)).1
    obtain ⟨f0, hf0⟩ : ∃ f, least xs = f := ⟨_, rfl⟩
    rw [hf0] at HO hin hul hfe hfb hli hk64
    obtain ⟨us, hus⟩ : ∃ us, offsets f0 xs = us := ⟨_, rfl⟩
    rw [hus] at HO hin hul hfe hk64
    have hbest := fun A c w h => best_any A n c us w h hin hn2 hn0
    obtain ⟨k, hke⟩ : ∃ k, fbest us = k := ⟨_, rfl⟩
    rw [hke] at hbest hfe hk64
    obtain ⟨L, hL⟩ : ∃ L, flen us k = L := ⟨_, rfl⟩
    rw [hL] at hbest
    have HB := Lib.hid hbest
    obtain ⟨f, hff⟩ := Int.eq_ofNat_of_zero_le hfb.1
    rw [hff, Int.toNat_natCast] at hfe
    have efu : IntKind.u64.wrap f0 = (f : Int) := by rw [← hff]; unfold wu64; rw [wrapu64]
    have hf64 : (f : Int) ≤ 18446744073709551615 := by omega
    have HFE := Lib.hid hfe
    have HUL := Lib.hid (And.intro hul hin)
    have H := Lib.hid h
    have ek : IntKind.u8.wrap (k : Int) = (k : Int) := wrapu8_in _ (by omega) (by omega)
    clear hw hq hk h hi hlen hN hn hkw hfe hin hul hfb hli hf0 hus hke hL hbest hff
    refine (callsIn_wide (n := 0)).1 (callsIn_of_wp_marks (F := Fence.wide) Try.func27 rfl trivial ?_ rfl)
    simp only [Try.ntmps27, List.size_toArray, List.length_cons, List.length_nil, Nat.reduceAdd, Nat.reduceSub, Array.replicate_succ, Array.replicate_zero, List.push_toArray, List.append_toArray, List.nil_append, List.cons_append]
    gi_wp2_with (first
      | (refine ⟨trivial, rfl, ?_⟩; gi_at_call 57; refine (callsIn_wide.2 (HW.out _ (H.out.alloc _))).mono ?_; rintro e w1 ⟨rfl, hb1⟩; have HB1 := Lib.hid (((Below.refl w.heap.size w).alloc (Nat.le_refl _) (.cells #[] 24)).trans (hb1.mono (by simp))); clear hb1)
      | (refine ⟨trivial, rfl, ?_⟩; gi_at_call 35; refine (callsIn_wide.2 (HO.out _ (H.out.below HB1.out))).mono ?_; rintro e w2 ⟨A2, n2, c2, rfl, ho2, hb2⟩; obtain rfl : n2 = n := (by have := row_len ho2; have := HUL.out.1; omega); have HO2 := Lib.hid (owns_weak ho2 HB1.out.size); have HB2 := Lib.hid (HB1.out.trans (hb2.mono HB1.out.size)); clear ho2 hb2)
      | (refine ⟨trivial, rfl, ?_⟩; gi_at_call 36; refine (callsIn_wide.2 (HB.out _ _ _ (Rd.own HO2.out))).mono ?_; rintro e w3 ⟨rfl, hb3⟩; have HO3 := Lib.hid (Owns.below HO2.out hb3); have HB3 := Lib.hid (HB2.out.trans (hb3.mono HB2.out.size)); clear hb3)
      | (refine ⟨trivial, rfl, ?_⟩; gi_at_call 73; refine (callsIn_wide.2 (exceptions_any _ _ _ _ _)).mono ?_; rintro e w3 ⟨rfl, rfl⟩))
    obtain ⟨g, rfl, hgB, hgl⟩ := owns_addr HO3.out hn0
    obtain ⟨p, hp⟩ : ∃ p, w3.heap.size = p := ⟨_, rfl⟩
    obtain ⟨W0, hW0⟩ : ∃ W0, (((w3.alloc (.cells #[.slice none 0 0] 30)).alloc (.cells #[.int .i64 0] 3)).alloc (.cells #[.slice (some ⟨g, 0, none⟩) n2 c2] 51)).alloc (.cells #[.int .i64 k] 3) = W0 := ⟨_, rfl⟩
    have hs0 : W0.heap.size = p + 4 := by rw [← hW0, ← hp]; simp
    have hb0 : Box W0 p 30 (.slice none 0 0) := by rw [← hW0, ← hp]; exact (((Box.new _ _ _).alloc _).alloc _).alloc _
    have hb1 : Box W0 (p + 1) 3 (.int .i64 0) := by
      rw [← hW0, ← hp]; have h1 := ((Box.new (w3.alloc (.cells #[.slice none 0 0] 30)) 3 (.int .i64 0)).alloc (.cells #[.slice (some ⟨g, 0, none⟩) n2 c2] 51)).alloc (.cells #[.int .i64 k] 3); rwa [World.size_alloc] at h1
    have hb2 : Box W0 (p + 2) 51 (.slice (some ⟨g, 0, none⟩) n2 c2) := by
      rw [← hW0, ← hp]; have h1 := (Box.new ((w3.alloc (.cells #[.slice none 0 0] 30)).alloc (.cells #[.int .i64 0] 3)) 51 (.slice (some ⟨g, 0, none⟩) n2 c2)).alloc (.cells #[.int .i64 k] 3); rwa [World.size_alloc, World.size_alloc] at h1
    have hb3 : Box W0 (p + 3) 3 (.int .i64 k) := by
      rw [← hW0, ← hp]; have h1 := Box.new (((w3.alloc (.cells #[.slice none 0 0] 30)).alloc (.cells #[.int .i64 0] 3)).alloc (.cells #[.slice (some ⟨g, 0, none⟩) n2 c2] 51)) 3 (.int .i64 k); rwa [World.size_alloc, World.size_alloc, World.size_alloc] at h1
    have hwp : w.heap.size ≤ p := by rw [← hp]; exact HB3.out.size
    have hbl : Below w.heap.size w W0 := by
      have hsz := HB3.out.size
      rw [← hW0]; exact (((HB3.out.alloc hsz _).alloc (by simp; omega) _).alloc (by simp; omega) _).alloc (by simp; omega) _
    have hoz : Owns W0 w.heap.size 32 .u64 (some ⟨g, 0, none⟩) n2 c2 us := by rw [← hW0]; exact (((HO3.out.alloc _).alloc _).alloc _).alloc _
    rw [hp] at hgl ⊢
    rw [show p + 1 + 1 = p + 2 from rfl, show p + 2 + 1 = p + 3 from rfl, hW0]
    have hit := exc_iter g 0 c2 n2 k us (p + 2) (p + 3) W0 (Rd.own hoz) HUL.out.2 hb2 hb3 hn2 hk64
    have HEX := Lib.hid (fun pre x => exc_in (k := k) (pre := pre) (x := x) HUL.out.2 (by have := HUL.out.1; omega))
    clear HO3 HB3 HO2 HB2 HB1 hW0 hp
    refine wpIn_range (w0 := W0) (encs := excE) rfl (enters_f Try.func115 (by kernel_rfl) rfl) hit (Keep.refl _ _) (fun k hk => by omega) (fun k hk => hk.elim) (fun _ => rfl)
      (fun pre W => (∃ A m c, Box W p 30 (.slice A m c) ∧ Owns W (p + 4) 5 .u8 A m c (marks pre)) ∧ Box W (p + 1) 3 (.int .i64 (pre.length : Nat)) ∧ Owns W w.heap.size 32 .u64 (some ⟨g, 0, none⟩) n2 c2 us ∧ Below w.heap.size w W) ?stab ?start ?round ?done
    case stab =>
      rintro pre W W' ⟨⟨A, m, c, h1, h2⟩, h3, h4, h5⟩ hk
      exact ⟨⟨A, m, c, h1.keep hk ⟨fun h => h, fun h => h1.cells h.2⟩, owns_keep h2 hk (fun g' _ hc => ⟨fun h => h, fun h => hc h.2⟩)⟩, h3.keep hk ⟨fun h => h, fun h => h3.cells h.2⟩, owns_keep h4 hk (fun g' _ hc => ⟨fun h => h, fun h => hc h.2⟩), h5.trans (below_keep hk (by have := h5.size; omega) (fun k hk => ⟨fun h => h, fun h => by omega⟩))⟩
    case start => exact ⟨⟨none, 0, 0, hb0, owns_nil _ _ _ _⟩, hb1, hoz, hbl⟩
    case round =>
      intro l pre x W hpre hI hsz
      obtain ⟨h1, h2, h3, h4, h5⟩ := HEX.out pre x hpre
      have hms := marks_snoc pre x
      obtain ⟨gp, v⟩ := x
      simp only at h1 h2 h5 hms
      have HMS := Lib.hid hms
      have HI1 := Lib.hid hI
      have hWp : p + 4 ≤ W.heap.size := by omega
      have hv1 := vput_len_u64 gp (by omega)
      have HV1 := Lib.hid hv1
      clear hpre hms hI hsz hit hoz hb0 hb1 hb2 hb3 hbl hs0 hv1
      unfold excE
      gi_wp2
      refine ⟨Keep.refl _ _, HI1.out, ?_⟩
      rintro W2 ⟨⟨A', m', c', b11, o11⟩, b12, oz, bl⟩ hst
      have hW2 : p + 4 ≤ W2.heap.size := by have := hst.size; omega
      have c11 := cell_of_one b11
      have hm' : m' ≤ 20480 := by have q1 := row_len o11; omega
      have hp1 := put_any A' m' c' (marks pre) gp W2 (Rd.own o11) (by omega) h1
      have HP1 := Lib.hid hp1
      have HP2 := Lib.hid (fun w A n c h hn => put_any A n c (marks pre ++ vput gp) v w h hn h2)
      have B11 := Lib.hid b11
      have B12 := Lib.hid b12
      have BL := Lib.hid bl
      have OZ := Lib.hid oz
      have HML := Lib.hid h4
      clear b11 b12 bl oz o11 hst HI1 hp1 h4
      gi_wp2_with (refine ⟨trivial, rfl, ?_⟩; gi_at_call 58; first
        | (refine CallsIn.inRound l (callsIn_wide.2 (HP1.out.mono ?_)); rintro e w5 ⟨A5, m5, c5, rfl, ho5, hb5⟩; have hr5 := Lib.hid (Rd.own ho5); have hm5 : m5 ≤ 20490 := (by have q1 := row_len ho5; have q2 := HV1.out; have q3 := HML.out; rw [List.length_append] at q1; omega); have HB5 := Lib.hid hb5; clear ho5 hb5 HP1)
        | (refine CallsIn.inRound l (callsIn_wide.2 ((HP2.out _ _ _ _ hr5.out (by omega)).mono ?_)); rintro e w6 ⟨A6, m6, c6, rfl, ho6, hb6⟩; have hb56 : Below W2.heap.size W2 w6 := HB5.out.trans (hb6.mono HB5.out.size); have b11' := B11.out.below hb56 (lt_of_block B11.out); have b12' := B12.out.below hb56 (lt_of_block B12.out); have c11' := cell_of_one b11'; have f11' := free_of_one b11'; have c12' := cell_of_one b12'; have f12' := free_of_one b12'; have ho6' := owns_weak ho6 HB5.out.size))
      rw [List.append_assoc, ← HMS.out] at ho6
      have ho6'' : Owns w6 (p + 4) 5 .u8 A6 m6 c6 (marks (pre ++ [(gp, v)])) := owns_weak ho6 (by have := HB5.out.size; omega)
      have nb : ∀ q, q < p + 4 → (Value.slice A6 m6 c6).ownBlock ≠ some q := fun q hq e => by have := (ho6''.lt q e).1; omega
      have b11s := one_setCell (u := .slice A6 m6 c6) b11'
      have b12s := b12'.far (p := ⟨p, 0, none⟩) (by simp) (.slice A6 m6 c6)
      refine ⟨?_, ⟨A6, m6, c6, ?_, ?_⟩, ?_, ?_, ?_⟩
      · refine RoundKeep.trans (.of_below hb56) (RoundKeep.trans (.setCell _ ?_ _) (.setCell _ ?_ _))
        · rintro (h | h)
          · simp only at h; omega
          · exact b11'.cells h
        · rintro (h | h)
          · simp only at h; omega
          · exact b12s.cells h
      · exact Box.far b11s (p := ⟨p + 1, 0, none⟩) (by simp) _
      · exact ownsRow_setCell_other (ownsRow_setCell_other ho6'' (a := ⟨p, 0, none⟩) (nb p (by omega)) _) (a := ⟨p + 1, 0, none⟩) (nb (p + 1) (by omega)) _
      · have h1 := one_setCell (u := .int .i64 ((pre.length : Int) + 1)) b12s
        rw [List.length_append, List.length_singleton, show ((pre.length + 1 : Nat) : Int) = (pre.length : Int) + 1 by omega]
        exact h1
      · have gn : ∀ q, p ≤ q → (Value.slice (some (⟨g, 0, none⟩ : Addr)) n2 c2).ownBlock ≠ some q := fun q hq e => by have : g = q := (by simpa [Value.ownBlock] using e); omega
        exact ownsRow_setCell_other (ownsRow_setCell_other (Owns.below OZ.out hb56) (a := ⟨p, 0, none⟩) (gn p (by omega)) _) (a := ⟨p + 1, 0, none⟩) (gn (p + 1) (by omega)) _
      · exact ((BL.out.trans (hb56.mono BL.out.size)).setCell (p := ⟨p, 0, none⟩) (by simp only; omega) _).setCell (p := ⟨p + 1, 0, none⟩) (by simp only; omega) _
    case done =>
      rintro D W hD ⟨⟨A', m', c', h1, h2⟩, h3, h4, h5⟩ hK
      have c11 := cell_of_one h1
      have c12 := cell_of_one h3
      have hps := lt_of_block h3
      have HOM := Lib.hid h2
      have HZ := Lib.hid h4
      have H5 := Lib.hid h5
      have HK' := Lib.hid hK
      have HB1' := Lib.hid h1
      have HB2' := Lib.hid h3
      have hwD : w.heap.size ≤ D := by omega
      clear h1 h2 h3 h4 h5 hK hit hoz hb0 hb1 hb2 hb3 hbl hs0
      gi_wp2
      refine (wpIn_wide (n := 0)).2 ?_
      go_loopg [15, 53] n2 (fun gg v15 v53 wr => ∃ (i : Nat) (B1 : Option Addr) (d1 : Nat), v53 = .int .i64 i ∧ i ≤ n2 ∧ gg = n2 - i ∧ v15 = .slice B1 i d1 ∧ Hid (Owns wr W.heap.size 32 .u64 B1 i d1 (lows k (us.take i)) ∧ Below W.heap.size W wr))
      case atStart => exact ⟨0, none, 0, rfl, by omega, rfl, rfl, Lib.hid ⟨owns_nil _ _ _ _, Below.refl _ _⟩⟩
      case round =>
        obtain ⟨i, B1, d1, rfl, hi, rfl, rfl, hI⟩ := hrel
        by_cases hlt : i < n2
        · obtain ⟨b', o', e', hbl', hc⟩ := ((Rd.own HZ.out).below hI.out.2).get (by omega)
          obtain ⟨e1, e2⟩ := addr_inj e'
          subst e1 e2
          have hcell := hc i hlt
          have hmem : us[i]?.getD 0 ∈ us := by rw [List.getElem?_eq_getElem (by have := HUL.out.1; omega)]; exact List.getElem_mem _
          have hxu := HUL.out.2 _ hmem
          rw [List.getD_eq_getElem?_getD, Nat.zero_add] at hcell
          have e3 : lows k (us.take i) ++ [((flo k (us[i]?.getD 0) : Nat) : Int)] = lows k (us.take (i + 1)) := map_take_snoc (l := us) (k := i) (fun u => ((flo k u : Nat) : Int)) (by have := HUL.out.1; omega)
          obtain ⟨x, hx⟩ := Int.eq_ofNat_of_zero_le hxu.1
          rw [hx] at hcell e3 hxu
          rw [show flo k (x : Int) = x % 2 ^ k from rfl] at e3
          have HLO := Lib.hid (fun w => low_any x k hk64 hxu.2 w)
          obtain ⟨y, hy⟩ : ∃ y, x % 2 ^ k = y := ⟨_, rfl⟩
          rw [hy] at e3 HLO
          have E3 := Lib.hid e3
          clear hc hmem e' hx e3 hy hxu
          go_wp2_with fail
          refine (HLO.out _).mono ?_
          rintro e w4 ⟨rfl, rfl⟩
          go_wp2_with (at_builtin; refine wpList_append_r rfl rfl elemU64 (hI.out.1.alloc _) rfl (RdV.one (Box.new _ _ _)) rfl one_one (by omega) (by omega) (by have := hI.out.2.size; simp; omega) ?_; intro A5 c5 w5 hown hg5 _)
          have HB5 := Lib.hid (below_grown (hI.out.2.alloc hI.out.2.size _) (hI.out.1.alloc _) hg5 (by have := hI.out.2.size; simp; omega))
          have HO5 := Lib.hid (owns_snoc hown)
          clear hown hg5
          go_roundg (n2 - (i + 1))
          case measure => omega
          case rel => exact ⟨i + 1, A5, c5, by go_num, by omega, rfl, rfl, Lib.hid ⟨by rw [← E3.out]; exact HO5.out, HB5.out⟩⟩
        · obtain rfl : i = n2 := by omega
          have hlo := hI.out.1
          rw [List.take_of_length_le (by have := HUL.out.1; omega)] at hlo
          have hlf := lows_fit k us
          have hll := lows_len k us
          have hlu : In .u64 (lows k us) := by
            intro y hy
            have h1 := hlf y hy
            have h2 : (2 : Nat) ^ k ≤ 2 ^ 64 := pow_mono2 hk64
            have h3 : (2 : Nat) ^ 64 = 18446744073709551616 := by decide
            exact ⟨h1.1, by omega⟩
          have hpk := pack_any B1 i d1 (lows k us) k wr (Rd.own hlo) hlu hn2 hk64 hlf
          have hpl := packed_len k (lows k us)
          rw [hll, HUL.out.1] at hpl
          have hpl2 : (packed k (lows k us)).length ≤ 8192 := by
            rw [hpl]
            have : i * k ≤ i * 64 := Nat.mul_le_mul_left _ hk64
            unfold octets; omega
          have HPK := Lib.hid hpk
          have HPL := Lib.hid hpl2
          have hpt := fun w => Put64_any none 0 0 [] f w (Rd.nilv _ _) (by omega) hf64
          have HPT := Lib.hid hpt
          clear hlo hlf hll hlu hpk hpl hpl2 hpt
          go_wp2_with fail
          refine (wpIn_wide (n := 0)).2 ?_
          go_wp2_with fail
          refine HPK.out.mono ?_
          rintro e w4 ⟨A4, m4, c4, rfl, ho4, hb4⟩
          have HO4 := Lib.hid ho4
          have HB4 := Lib.hid (hI.out.2.trans (hb4.mono hI.out.2.size))
          clear ho4 hb4
          go_wp2_with fail
          refine (HPT.out _).mono ?_
          rintro e w5 ⟨A5, m5, c5, rfl, ho5, hb5⟩
          rw [List.nil_append] at ho5
          obtain rfl : m5 = 8 := by have q1 := row_len ho5; rw [leb_len] at q1; exact q1.symm
          have HB5 := Lib.hid (HB4.out.trans (hb5.mono HB4.out.size))
          have HO5 := Lib.hid (owns_weak ho5 HB4.out.size)
          have HN5 := Lib.hid (show ∀ b, (Value.slice A5 8 c5).ownBlock = some b → w4.heap.size ≤ b from fun b e => (ho5.lt b e).1)
          have HO4' := Lib.hid (owns_weak (Owns.below HO4.out hb5) hI.out.2.size)
          clear ho5 hb5
          go_wp2_with (at_builtin; refine wpList_append_r rfl rfl elemU8 (HO5.out.alloc _) rfl (RdV.one (Box.new _ _ _)) rfl one_one (by omega) (by omega) (by have := HB5.out.size; simp; omega) ?_; intro A6 c6 w6 hown hg6 hat6)
          have hb46 := HO4'.out
          have hr4 : Rd w6 .u8 A4 m4 c4 (packed k (lows k us)) := ((Rd.own HO4'.out).alloc _).keep hg6.size fun b hb ⟨o', ho'⟩ => hg6.block b hb fun e => by
            subst ho'
            have q1 := (HO5.out.lt b e.symm).1
            have q2 := (HO4.out.lt b rfl).2
            have q3 := (HN5.out b e.symm)
            omega
          have hb6 : Below W.heap.size W w6 := below_grown (HB5.out.alloc HB5.out.size _) (HO5.out.alloc _) hg6 (by have := HB5.out.size; simp; omega)
          have ho6 := owns_snoc hown
          have hm4 : m4 ≤ 8192 := by have q1 := row_len HO4.out; have := HPL.out; omega
          have hmp := marks_len (exc_u64 (k := k) HUL.out.2 0 (by have := HUL.out.1; omega))
          have hel := exc_len_le k us 0
          have hul := HUL.out.1
          obtain ⟨e, hee⟩ : ∃ e, (exc k 0 us).length = e := ⟨_, rfl⟩
          rw [hee] at hmp hel c12
          have he4 : e ≤ 1024 := by omega
          have hmr := row_len HOM.out
          have hm' : m' ≤ 20480 := by omega
          have hve := vput_len_u64 e (by omega)
          have hpv := fun w h => put_any A6 9 c6 (leb f 8 ++ [(k : Int)]) e w h (by omega) (by omega)
          have hrm : Rd w6 .u8 A' m' c' (marks (exc k 0 us)) := (Rd.own HOM.out).below hb6
          have hll : (leb f 8 ++ [(k : Int)]).length = 9 := by rw [List.length_append, leb_len]; rfl
          obtain ⟨hd, hhd⟩ : ∃ hd, leb f 8 ++ [(k : Int)] ++ vput e = hd := ⟨_, rfl⟩
          have hdl : hd.length = 9 + (vput e).length := by rw [← hhd, List.length_append, hll]
          rw [hhd] at hpv
          obtain ⟨mk, hmk⟩ : ∃ mk, marks (exc k 0 us) = mk := ⟨_, rfl⟩
          rw [hmk] at hrm hmr
          have hd19 : hd.length ≤ 19 := by omega
          have hmk2 : mk.length ≤ 20480 := by omega
          have HR4 := Lib.hid hr4
          have HB6 := Lib.hid hb6
          have HO6 := Lib.hid ho6
          have HPV := Lib.hid hpv
          have HRM := Lib.hid hrm
          have HFIN := Lib.hid (show fform xs = hd ++ mk ++ packed k (lows k us) by
            rw [HFE.out]; unfold fcut fbod; rw [hee, hmk, ← hhd]; simp [List.append_assoc])
          have hW6 : W.heap.size ≤ w6.heap.size := hb6.size
          clear hb46 hr4 hb6 ho6 hmp hel hul hee hmr hve hpv hrm hll hhd hdl hmk hown hg6 hat6 c11
          have c11 := cell_of_one HB1'.out
          refine wp_region_freeS 6 5 (fun k => k == 3 || k == 4) (by kernel_rfl) (by kernel_rfl) (by kernel_rfl) (by decide) rfl ?_
          refine chainS_hard (step_val (.slice A6 9 c6) (S := [20]) rfl ?_) (by decide) rfl (hard_eq _ _) ?_
          · intro ρ w' hE hB hs
            have h20 : ρ (.tmp 20) = .slice A6 9 c6 := hs 20 (by decide)
            clear hs
            refine if_t (by rfl) ?_
            (go_simp <;> exact wrapi64_in _ (by omega) (by omega))
          refine chainS_hard (step_val (.int .i64 (e : Int)) (S := [12]) rfl ?_) (by decide) rfl (hard_eq _ _) ?_
          · intro ρ w' hE hB hs
            have h12 : ρ (.tmp 12) = .pointer (some ⟨p + 1, 0, none⟩) := hs 12 (by decide)
            clear hs
            refine if_t (by rfl) ?_
            have hcl := ((HB6.out.trans (hB.mono hW6)).cell (p := ⟨p + 1, 0, none⟩) hps).trans c12
            go_simp
          refine chainS_hard (step_val (.int .u64 (e : Int)) (S := [78]) rfl ?_) (by decide) rfl (hard_eq _ _) ?_
          · intro ρ w' hE hB hs
            have h78 : ρ (.tmp 78) = .int .i64 (e : Int) := hs 78 (by decide)
            clear hs
            refine if_t (by rfl) ?_
            (go_simp <;> exact wrapu64_in _ (by omega) (by omega))
          refine chainS_soft (step_static (OwF w6.heap.size 5 .u8 hd) (OwF.stable _ _ _ _) (S := [77, 79]) rfl (Go.Cor.enters_f Try.func58 (by kernel_rfl) rfl) rfl ?_) (by decide) rfl ?_
          · intro ρ w' hE hB hs
            have h77 : ρ (.tmp 77) = .slice A6 9 c6 := hs 77 (by decide)
            have h79 : ρ (.tmp 79) = .int .u64 (e : Int) := hs 79 (by decide)
            clear hs
            refine ⟨(by rfl), ?_⟩
            simp only [List.map_toArray, List.map_cons, List.map_nil, h77, h79]
            refine (HPV.out _ ((Rd.own HO6.out).below hB)).mono ?_
            rintro e w3 ⟨A7, n7, c7, rfl, ho, hb⟩
            exact ⟨_, rfl, hb, A7, n7, c7, rfl, owns_weak ho hB.size⟩
          refine chainS_soft (step_fact (RdF .u8 mk) (RdF.stable _ _) (S := [11]) rfl ?_) (by decide) rfl ?_
          · intro ρ w' hE hB hs
            have h11 : ρ (.tmp 11) = .pointer (some ⟨p, 0, none⟩) := hs 11 (by decide)
            clear hs
            refine if_t (by rfl) ?_
            have hcl := ((HB6.out.trans (hB.mono hW6)).cell (p := ⟨p, 0, none⟩) (by have := hps; show p < _; omega)).trans c11
            exact ⟨.slice A' m' c', by go_simp, A', m', c', rfl, HRM.out.below hB⟩
          refine chainS_append (base := w6.heap.size) (k := .u8) (xs := hd) (ys := mk) (S := [80, 81]) rfl elemU8 rfl rfl rfl ?_ (by omega) (by omega) ?_
          · intro ρ w' hE hB hs
            have h80 : (OwF w6.heap.size 5 .u8 hd) (ρ (.tmp 80)) w' := hs 80 (by decide)
            have h81 : (RdF .u8 mk) (ρ (.tmp 81)) w' := hs 81 (by decide)
            clear hs
            refine ⟨(by rfl), ?_⟩
            exact ⟨h80, h81⟩
          intro w1 hB1
          simp only [List.reverse_cons, List.reverse_nil, List.nil_append, List.cons_append, Go.Free.Ends, forall_eq, Act.put, List.setIfInBounds_toArray, List.set_cons_zero, List.set_cons_succ]
          rintro _ _ _ _ _ ⟨A8, m8, c8, rfl, ho8⟩
          have hm8 : m8 ≤ 20499 := by have q1 := row_len ho8; rw [List.length_append] at q1; omega
          have HO8 := Lib.hid ho8
          have HR8 := Lib.hid (HR4.out.below hB1)
          have HB8 := Lib.hid (HB6.out.trans (hB1.mono hW6))
          have hW8 : w6.heap.size ≤ w1.heap.size := hB1.size
          clear ho8 hB1 c11 c12
          go_wp2_with (at_builtin; refine wpList_append_r rfl rfl elemU8 HO8.out rfl (Rd.toV HR8.out) rfl ints_one (by omega) (by omega) hW8 ?_; intro A9 c9 w9 hown hg9 hat9)
          have hb9 : Below W.heap.size W w9 := HB8.out.trans ((below_grown (Below.refl w1.heap.size w1 |>.mono hW8) HO8.out hg9 hW8).mono hW6)
          have hK9 := (hb9.block D (lt_of_block HK'.out)).trans HK'.out
          have hbw : Below w.heap.size w w9 := H5.out.trans (hb9.mono H5.out.size)
          have ho9 := owns_app hown
          rw [← HFIN.out] at ho9
          have HO9 := Lib.hid (owns_weak ho9 (Nat.le_trans H5.out.size hW6))
          have HK9 := Lib.hid hK9
          have HBW := Lib.hid hbw
          clear hown hg9 hat9 hb9 hK9 hbw ho9
          gi_wp2
          refine leaves_mark HK9.out (results_tmp2 rfl _ _ _) ⟨_, m8 + m4, c9, by rw [HKW.out]; rfl, ?_, ?_⟩
          · rw [HK.out, if_pos rfl]
            exact owns_keep HO9.out (S := fun W k => ¬ NonCell W k) (.putObj _ (fun h => h ⟨_, HK9.out, rfl⟩) _) (fun _ _ h => h)
          · exact HBW.out.trans (below_keep (S := fun _ k => k < w.heap.size) (.putObj _ (by omega) _) (by have := HBW.out.size; omega) (fun k hk => hk))
theorem pforE : Encer 24 27 tkAll fform :=
  ⟨mf_encode, enters_f Try.func27 (by kernel_rfl) rfl, fEncode_any⟩
end Go.Proofs.Ytkbcmblgieoleaa
