/-
  Chapter 11, the reference: form, Encode.
  Chapter 12: the reference's Encode.
-/
import Derived.Test.YtkbcmblgieoleaaG9
import Derived.Test.YtkbcmblgieoleaaG22
import Derived.Test.YtkbcmblgieoleaaG28
import Derived.Test.YtkbcmblgieoleaaG30
namespace Go.Cor
open Go Go.RowKit
/-- rows that the call owns, in blocks apart -/
def Apt (v u : Value) : Prop := ∀ g, v.ownBlock = some g → u.ownBlock ≠ some g
theorem Apt.symm {v u : Value} (h : Apt v u) : Apt u v := fun g e e2 => h g e2 e
theorem Apt.grow {w : World} {B : Nat} {E : TypeId} {size : Nat} {v v' u : Value} {n : Nat} {xs : List Value} (h : Apt v u) (hat : v'.ownBlock = v.ownBlock ∨ v'.ownBlock = some w.heap.size) (hu : w.ownsRow B E size u n xs) : Apt v' u := by
  intro g e e2
  rcases hat with h1 | h1
  · exact h g (h1 ▸ e) e2
  · have := (hu.lt g e2).2
    rw [h1] at e; injection e with e; omega
theorem Apt.none (u : Value) : Apt (.slice none 0 0) u := fun g e => by simp [Value.ownBlock] at e
theorem owns_beside {w w' : World} {B : Nat} {E : TypeId} {size : Nat} {v u : Value} {n : Nat} {xs : List Value} (h : w.ownsRow B E size v n xs) (hg : w.grownBy w' u.ownBlock) (ha : Apt v u) : w'.ownsRow B E size v n xs := by
  obtain ⟨hl, h2⟩ := h
  refine ⟨hl, ?_⟩
  rcases h2 with h2 | ⟨g, c, cur, rfl, hB, hgc, hr⟩
  · exact .inl h2
  · exact .inr ⟨g, c, cur, rfl, hB, (hg.block g (lt_of_block hgc) (fun e => ha g rfl e.symm)).trans hgc, hr⟩
theorem lows_snoc (k : Nat) {us : List Int} {i : Nat} (h : i < us.length) : lows k (us.take i) ++ [((flo k (us[i]?.getD 0) : Nat) : Int)] = lows k (us.take (i + 1)) := map_take_snoc (l := us) (fun u => ((flo k u : Nat) : Int)) h
end Go.Cor
namespace Go.Proofs.Ytkbcmblgieoleaa
open Go.RowKit Go.Cor Go.Free

set_option maxRecDepth 100000 in
set_option maxHeartbeats 8000000 in
theorem refForm_any (f : Int) (A : Option Addr) (n c : Nat) (us : List Int) (k : Nat) (w : World) (h : Rd w .u64 A n c us) (hu : In .u64 us) (hn : n ≤ 1024) (hk : k ≤ 64) :
    Calls Try.prog 78 #[.int .i64 f, .slice A n c, .int .i64 k] w (RetRow w.heap.size 5 .u8 w (fcut (wu64 f).toNat k us)) := by
  have hl := h.len
  have hex := fun pre x => exc_in (k := k) (pre := pre) (x := x) hu (by omega)
  have hml := marks_len (exc_u64 (k := k) hu 0 (by omega))
  have hel := exc_len_le k us 0
  have hvl := vput_len_u64 (exc k 0 us).length (by omega)
  have HEX := Lib.hid hex
  have hf0 : 0 ≤ wu64 f ∧ wu64 f < 18446744073709551616 := by unfold wu64; omega
  obtain ⟨F, hF⟩ := Int.eq_ofNat_of_zero_le hf0.1
  have ef : IntKind.u64.wrap f = (F : Int) := by rw [← hF]; unfold wu64; simp only [wrapu64]
  have hF64 : (F : Int) ≤ 18446744073709551615 := by omega
  have HF := Lib.hid (show (wu64 f).toNat = F by rw [hF]; rfl)
  have H := Lib.hid h
  have HU := Lib.hid hu
  have HEL := Lib.hid (And.intro hel (And.intro hml (And.intro hl hvl)))
  have ek : IntKind.u8.wrap (k : Int) = (k : Int) := wrapu8_in _ (by omega) (by omega)
  clear h hu hl hex hml hel hvl hf0 hF
  go_enter Try.func78, Try.ntmps78
  go_wp2_with fail
  go_loopg [7, 8, 9, 10, 11] n (fun gg v7 v8 v9 v10 v11 wr => ∃ (i g e m : Nat) (A7 A8 : Option Addr) (c7 c8 : Nat), v11 = .int .i64 i ∧ i ≤ n ∧ gg = n - i ∧ v10 = .int .i64 g ∧ g ≤ i ∧ v9 = .int .i64 e ∧ e ≤ i ∧ v7 = .slice A7 m c7 ∧ m ≤ 30000 ∧ v8 = .slice A8 i c8 ∧ Hid (∃ pre : List (Nat × Nat), e = pre.length ∧ exc k 0 us = pre ++ exc k g (us.drop i) ∧ Below w.heap.size w wr ∧ Owns wr w.heap.size 5 .u8 A7 m c7 (marks pre) ∧ Owns wr w.heap.size 32 .u64 A8 i c8 (lows k (us.take i)) ∧ Apt (.slice A7 m c7) (.slice A8 i c8)))
  case atStart => exact ⟨0, 0, 0, 0, none, none, 0, 0, rfl, by omega, by omega, rfl, by omega, rfl, by omega, rfl, by omega, rfl, Lib.hid ⟨[], rfl, by simp, Below.refl _ _, owns_nil _ _ _ _, owns_nil _ _ _ _, Apt.none _⟩⟩
  case round =>
    obtain ⟨i, g, e, m, A7, A8, c7, c8, rfl, hi, rfl, rfl, hg, rfl, he, rfl, hm, rfl, hI⟩ := hrel
    obtain ⟨wo, rfl⟩ : ∃ wo, wo = wr := ⟨_, rfl⟩
    obtain ⟨pre, hpe, hex, hbl, ho7, ho8, hap⟩ := hI.out
    by_cases hlt : i < n
    · obtain ⟨b', o, rfl, hbl', hc⟩ := (H.out.below hbl).get (by omega)
      have hcell := hc i hlt
      have hl := HEL.out.2.2.1
      rw [List.getD_eq_getElem?_getD] at hcell
      have hx := HU.out (us[i]?.getD 0) (by rw [List.getElem?_eq_getElem (by omega)]; exact List.getElem_mem _)
      obtain ⟨x, hxe⟩ := Int.eq_ofNat_of_zero_le hx.1
      have hls := lows_snoc k (us := us) (i := i) (by omega)
      have hfh : fhi k (us[i]?.getD 0) = x / 2 ^ k := by rw [hxe]; rfl
      have hfl : flo k (us[i]?.getD 0) = x % 2 ^ k := by rw [hxe]; rfl
      rw [hfl] at hls
      rw [hxe] at hcell hx
      have hct := fun w => refCut_any x k hk hx.2 w
      have hz := exc_zero (k := k) (g := g) (us := us) (i := i) (by omega)
      have hm1 := exc_more (k := k) (g := g) (us := us) (i := i) (by omega)
      have ha := exc_at (k := k) (g := g) (us := us) (i := i) (by omega) hex
      rw [hfh] at hz hm1 ha
      have hh : x / 2 ^ k ≤ x := Nat.div_le_self _ _
      obtain ⟨y, hy⟩ : ∃ y, x / 2 ^ k = y := ⟨_, rfl⟩
      obtain ⟨z, hz'⟩ : ∃ z, x % 2 ^ k = z := ⟨_, rfl⟩
      rw [hy] at hz hm1 ha hct hh
      rw [hz'] at hct hls
      have hml := row_len ho7
      have HCT := Lib.hid hct
      have HE := Lib.hid (And.intro hpe (And.intro hml (And.intro hex hbl)))
      have HZ := Lib.hid (And.intro hz (And.intro hm1 ha))
      have HO7 := Lib.hid ho7
      have HO8 := Lib.hid ho8
      have HAP := Lib.hid hap
      have HLS := Lib.hid hls
      have hxu := hx.2
      clear hc hI hpe hex hbl hz hm1 ha hct hxe hfh hfl hx hy hz' hl ho7 ho8 hap hls hml
      by_cases h0 : y = 0
      · subst h0
        go_wp2_with fail
        refine (HCT.out _).mono ?_
        rintro e' w1 ⟨rfl, rfl⟩
        go_wp2_with (at_builtin; refine wpList_append_r rfl rfl elemU64 (HO8.out.alloc _) rfl (RdV.one (Box.new _ _ _)) rfl one_one (by omega) (by omega) (by have := HE.out.2.2.2.size; simp; omega) ?_; intro A9 c9 w2 hown hgr hat; have HW2 := Lib.hid (And.intro (owns_snoc hown) (And.intro (below_grown (HE.out.2.2.2.alloc HE.out.2.2.2.size _) (HO8.out.alloc _) hgr (by have := HE.out.2.2.2.size; simp; omega)) (And.intro (owns_beside (HO7.out.alloc _) hgr HAP.out) (Apt.grow HAP.out.symm hat (HO7.out.alloc _)).symm))); clear hown hgr hat)
        go_roundg (n - (i + 1))
        case measure => omega
        case rel => exact ⟨i + 1, g + 1, e, m, A7, A9, c7, c9, by go_num, by omega, rfl, by go_num, by omega, rfl, by omega, rfl, hm, rfl, Lib.hid ⟨pre, HE.out.1, by rw [HE.out.2.2.1]; first | rw [HZ.out.1 rfl] | rw [HZ.out.1 trivial], HW2.out.2.1, HW2.out.2.2.1, by rw [← HLS.out]; exact HW2.out.1, HW2.out.2.2.2⟩⟩
      · have hpx := HZ.out.2.2 h0
        have hin := HEX.out _ _ hpx
        have hsn := marks_snoc pre (g, y)
        have hpl := hpx.length_le
        have hv1 := vput_len_u64 g (by omega)
        have hv2 := vput_len_u64 y (by omega)
        have hp1 := fun w => refVPut_any g w (by omega)
        have hp2 := fun w => refVPut_any y w (by omega)
        have hne : ((y : Int) == 0) = false := by simp [h0]
        have hpm2 : m ≤ 20480 := by have := hin.2.2.2.1; have := HE.out.2.1; omega
        have HP := Lib.hid (And.intro hp1 hp2)
        have HSL := Lib.hid (And.intro hsn (And.intro hv1 hv2))
        clear hp1 hp2 hpx hin hsn hpl hv1 hv2
        go_wp2_with fail
        refine (HCT.out _).mono ?_
        rintro e' w1 ⟨rfl, rfl⟩
        go_wp2_with (at_builtin; refine wpList_append_r rfl rfl elemU64 (HO8.out.alloc _) rfl (RdV.one (Box.new _ _ _)) rfl one_one (by omega) (by omega) (by have := HE.out.2.2.2.size; simp; omega) ?_; intro A9 c9 w2 hown hgr hat; have HW2 := Lib.hid (And.intro (owns_snoc hown) (And.intro (below_grown (HE.out.2.2.2.alloc HE.out.2.2.2.size _) (HO8.out.alloc _) hgr (by have := HE.out.2.2.2.size; simp; omega)) (And.intro (owns_beside (HO7.out.alloc _) hgr HAP.out) (Apt.grow HAP.out.symm hat (HO7.out.alloc _)).symm))); clear hown hgr hat)
        refine (HP.out.1 _).mono ?_
        rintro e' w3 ⟨A1, n1, c1, rfl, ho1, hb1⟩
        have hn1 : n1 ≤ 10 := by have h1 := row_len ho1; have := HSL.out.2.1; omega
        have HW3 := Lib.hid (And.intro (Owns.below HW2.out.1 hb1) (And.intro (HW2.out.2.1.trans (hb1.mono HW2.out.2.1.size)) (And.intro (Owns.below HW2.out.2.2.1 hb1) (Rd.own ho1))))
        clear ho1 hb1
        go_wp2_with (at_builtin; refine wpList_append_r rfl rfl elemU8 HW3.out.2.2.1 rfl (Rd.toV HW3.out.2.2.2) rfl ints_one (by omega) (by omega) HW3.out.2.1.size ?_; intro A3 c3 w4 hown hgr hat; have HW4 := Lib.hid (And.intro (owns_app hown) (And.intro (below_grown HW3.out.2.1 HW3.out.2.2.1 hgr HW3.out.2.1.size) (And.intro (owns_beside HW3.out.1 hgr HW2.out.2.2.2.symm) (Apt.grow HW2.out.2.2.2 hat HW3.out.1)))); clear hown hgr hat)
        refine (HP.out.2 _).mono ?_
        rintro e' w5 ⟨A2, n2, c2, rfl, ho2, hb2⟩
        have hn2 : n2 ≤ 10 := by have h1 := row_len ho2; have := HSL.out.2.2; omega
        have HW5 := Lib.hid (And.intro (Owns.below HW4.out.1 hb2) (And.intro (HW4.out.2.1.trans (hb2.mono HW4.out.2.1.size)) (And.intro (Owns.below HW4.out.2.2.1 hb2) (Rd.own ho2))))
        clear ho2 hb2
        go_wp2_with (at_builtin; refine wpList_append_r rfl rfl elemU8 HW5.out.1 rfl (Rd.toV HW5.out.2.2.2) rfl ints_one (by omega) (by omega) HW5.out.2.1.size ?_; intro A4 c4 w6 hown hgr hat; have HW6 := Lib.hid (And.intro (owns_app hown) (And.intro (below_grown HW5.out.2.1 HW5.out.1 hgr HW5.out.2.1.size) (And.intro (owns_beside HW5.out.2.2.1 hgr HW4.out.2.2.2.symm) (Apt.grow HW4.out.2.2.2 hat HW5.out.2.2.1)))); clear hown hgr hat)
        go_roundg (n - (i + 1))
        case measure => omega
        case rel =>
          refine ⟨i + 1, 0, e + 1, m + n1 + n2, A4, A9, c4, c9, by go_num, by omega, rfl, rfl, by omega, by go_num, by omega, rfl, by omega, rfl, Lib.hid ⟨pre ++ [(g, y)], by rw [HE.out.1]; simp, by rw [HE.out.2.2.1, HZ.out.2.1 h0]; simp, HW6.out.2.1, ?_, by rw [← HLS.out]; exact HW6.out.2.2.1, HW6.out.2.2.2⟩⟩
          rw [HSL.out.1, ← List.append_assoc]; exact HW6.out.1
    · obtain rfl : i = n := by omega
      have hl := HEL.out.2.2.1
      rw [List.drop_of_length_le (by omega), exc, List.append_nil] at hex
      rw [List.take_of_length_le (by omega)] at ho8
      have hml := row_len ho7
      have hmk := HEL.out.2.1
      have hvl := HEL.out.2.2.2
      have hpl := HEL.out.1
      rw [hex] at hmk hvl hpl
      rw [← hpe] at hvl
      have hoc : octets (i * k) ≤ 8192 := by
        have : i * k ≤ i * 64 := Nat.mul_le_mul_left _ hk
        unfold octets; omega
      have hkl : (packed k (lows k us)).length ≤ 8192 := by rw [packed_len, lows_len, hl]; exact hoc
      have hm2 : m ≤ 20480 := by omega
      have hpk := fun w1 (hb : Below wo.heap.size wo w1) => refPack_any A8 i c8 (lows k us) k w1 (Rd.own (Owns.below ho8 hb)) (fun u hu => by obtain ⟨v, hv, rfl⟩ := List.mem_map.1 hu; have h1 := HU.out v hv; have h2 : flo k v ≤ v.toNat := Nat.mod_le _ _; have h3 : 0 ≤ v := h1.1; have h4 : v ≤ 18446744073709551615 := h1.2; exact ⟨(by show (0 : Int) ≤ _; omega), (by show _ ≤ (18446744073709551615 : Int); omega)⟩) hk (lows_fit k us)
      rw [show packr k (lows k us) = (packed k (lows k us), 0) by unfold packr; rw [if_neg (by rw [lows_len]; omega)]] at hpk
      have hres : fcut (wu64 f).toNat k us = (((leb F 8 ++ [(k : Int)]) ++ vput e) ++ marks pre) ++ packed k (lows k us) := by unfold fcut fbod; rw [HF.out, hex, hpe]; simp
      obtain ⟨P, hP⟩ : ∃ P, packed k (lows k us) = P := ⟨_, rfl⟩
      rw [hP] at hkl hpk hres
      have HPK := Lib.hid hpk
      have HRES := Lib.hid hres
      have HPT := Lib.hid (fun w => refPut_any F 8 w hF64 (by omega))
      have HVP := Lib.hid (fun w => refVPut_any e w (by omega))
      have HN := Lib.hid (And.intro hvl hkl)
      have HBL := Lib.hid hbl
      have HO7 := Lib.hid (Rd.own ho7)
      clear hl hex hml hmk hvl hpl hoc hkl hpk hres hP hbl ho7 ho8 hap hI hpe
      go_wp2_with fail
      refine (HPT.out _).mono ?_
      rintro e' w1 ⟨A1, n1, c1, rfl, ho1, hb1⟩
      obtain rfl : n1 = 8 := by have h1 := row_len ho1; rw [leb_len] at h1; omega
      have HO1 := Lib.hid ho1
      have HB1 := Lib.hid hb1
      clear ho1 hb1
      go_wp2_with (at_builtin; refine wpList_append_r rfl rfl elemU8 (HO1.out.alloc _) rfl (RdV.one (Box.new _ _ _)) rfl one_one (by omega) (by omega) (by have := HB1.out.size; simp; omega) ?_; intro A2 c2 w2 hown hgr _; have HW2 := Lib.hid (And.intro (owns_snoc hown) (below_grown (HB1.out.alloc HB1.out.size _) (HO1.out.alloc _) hgr (by have := HB1.out.size; simp; omega))); clear hown hgr)
      refine (HVP.out _).mono ?_
      rintro e' w3 ⟨A3, n3, c3, rfl, ho3, hb3⟩
      have hn3 : n3 ≤ 10 := by have h1 := row_len ho3; have := HN.out.1; omega
      have HW3 := Lib.hid (And.intro (Owns.below HW2.out.1 hb3) (And.intro (HW2.out.2.trans (hb3.mono HW2.out.2.size)) (Rd.own ho3)))
      clear ho3 hb3
      go_wp2_with (at_builtin; first
        | (refine wpList_append_r rfl rfl elemU8 HW3.out.1 rfl (Rd.toV HW3.out.2.2) rfl ints_one (by omega) (by omega) HW3.out.2.1.size ?_; intro A4 c4 w4 hown hgr _; have HW4 := Lib.hid (And.intro (owns_app hown) (below_grown HW3.out.2.1 HW3.out.1 hgr HW3.out.2.1.size)); clear hown hgr HW3)
        | (refine wpList_append_r rfl rfl elemU8 HW4.out.1 rfl (Rd.toV (HO7.out.below HW4.out.2)) rfl ints_one (by omega) (by omega) HW4.out.2.size ?_; intro A5 c5 w5 hown hgr _; have HW5 := Lib.hid (And.intro (owns_app hown) (below_grown HW4.out.2 HW4.out.1 hgr HW4.out.2.size)); clear hown hgr HW4))
      refine (HPK.out _ HW5.out.2).mono ?_
      rintro e' w6 ⟨A6, n6, c6, rfl, ho6, hb6⟩
      have hn6 : n6 ≤ 8192 := by have h1 := row_len ho6; simp only at h1; have := HN.out.2; omega
      have HW6 := Lib.hid (And.intro (Owns.below HW5.out.1 hb6) (And.intro (HW5.out.2.trans (hb6.mono HW5.out.2.size)) (Rd.own ho6)))
      clear ho6 hb6
      go_wp2_with (at_builtin; refine wpList_append_r rfl rfl elemU8 HW6.out.1 rfl (Rd.toV HW6.out.2.2) rfl ints_one (by omega) (by omega) HW6.out.2.1.size ?_; intro A7 c7 w7 hown hgr _; have HW7 := Lib.hid (And.intro (owns_app hown) (below_grown HW6.out.2.1 HW6.out.1 hgr HW6.out.2.1.size)); clear hown hgr)
      go_ret
      exact ⟨_, _, _, rfl, by rw [HRES.out]; exact owns_weak HW7.out.1 HBL.out.size, HBL.out.trans (HW7.out.2.mono HBL.out.size)⟩

set_option maxRecDepth 100000 in
set_option maxHeartbeats 8000000 in
theorem refFEncode_any (A : Option Addr) (n c : Nat) (xs : List Int) (w : World) (h : Rd w .i64 A n c xs) (hi : In .i64 xs) (hn : n ≤ 1100) :
    Calls Try.prog 30 #[.slice A n c] w (RetRow w.heap.size 5 .u8 w (fform xs)) := by
  have hl := h.len
  by_cases hbig : 1024 < n
  · have HF := Lib.hid (show fform xs = [] by unfold fform; rw [if_pos (by omega)])
    clear h hi hl
    go_enter Try.func30, Try.ntmps30
    go_wp2
    go_ret
    exact ⟨none, 0, 0, rfl, by rw [HF.out]; exact owns_nil _ _ _ _, Below.refl _ _⟩
  have hF : fform xs = fcut (wu64 (least xs)).toNat (fbest (offsets (least xs) xs)) (offsets (least xs) xs) := fform_eq (by omega)
  have HLE := Lib.hid (fun w h => refLeast_any A n c xs w h (by omega))
  have HOF := Lib.hid (fun w h => refOffsets_any (least xs) A n c xs w h (by omega))
  have hui := offsets_in (least xs) xs
  have hul : (offsets (least xs) xs).length = n := by simp [offsets, hl]
  obtain ⟨lo, hlo⟩ : ∃ lo, least xs = lo := ⟨_, rfl⟩
  rw [hlo] at HLE HOF hF hui hul
  obtain ⟨us, hus⟩ : ∃ us, offsets lo xs = us := ⟨_, rfl⟩
  rw [hus] at HOF hF hui hul
  have hbb := fbest_best us
  have HF := Lib.hid (And.intro hF hbb)
  have HU := Lib.hid (And.intro hui hul)
  have H := Lib.hid h
  have hfl := fun k (hk : k ≤ 64) => flen_le (k := k) hui (by omega) hk
  have HFL := Lib.hid hfl
  clear h hi hl hF hlo hus hui hul hbb hfl
  go_enter Try.func30, Try.ntmps30
  go_wp2_with fail
  refine (HLE.out _ H.out).mono ?_
  rintro e w1 ⟨rfl, rfl⟩
  go_wp2_with fail
  refine (HOF.out _ H.out).mono ?_
  rintro e w1 ⟨A1, n1, c1, rfl, ho1, hb1⟩
  obtain rfl : n1 = n := by have h1 := row_len ho1; have := HU.out.2; omega
  have HO1 := Lib.hid (Rd.own ho1)
  have HB1 := Lib.hid hb1
  clear ho1 hb1
  go_wp2_with fail
  go_loopg [5, 6] 65 (fun gg v5 v6 wr => ∃ j b : Nat, v6 = .int .i64 ((j : Int) - 1) ∧ j ≤ 64 ∧ gg = j + 1 ∧ v5 = .int .i64 b ∧ b ≤ 64 ∧ Hid (Best (flen us) j 64 b ∧ Below w1.heap.size w1 wr))
  case atStart => exact ⟨64, 64, rfl, by omega, rfl, rfl, by omega, Lib.hid ⟨best_one _ _, Below.refl _ _⟩⟩
  case round =>
    obtain ⟨j, b, rfl, hj, rfl, rfl, hb, hI⟩ := hrel
    obtain ⟨wo, rfl⟩ : ∃ wo, wo = wr := ⟨_, rfl⟩
    by_cases hlt : 0 < j
    · obtain ⟨i, rfl⟩ : ∃ i, j = i + 1 := ⟨j - 1, by omega⟩
      have hi' : ((i + 1 : Nat) : Int) - 1 = (i : Int) := by omega
      rw [hi']
      have h1 := fun w hb => refFLen_any A1 n1 c1 us i w hb HU.out.1 (by omega) (by omega)
      have h2 := fun w hb => refFLen_any A1 n1 c1 us b w hb HU.out.1 (by omega) (by omega)
      have hl1 := HFL.out i (by omega)
      have hl2 := HFL.out b (by omega)
      have hbd := best_down hI.out.1
      obtain ⟨x, hx⟩ : ∃ x, flen us i = x := ⟨_, rfl⟩
      obtain ⟨y, hy⟩ : ∃ y, flen us b = y := ⟨_, rfl⟩
      rw [hx] at h1 hl1 hbd
      rw [hy] at h2 hl2 hbd
      have HH := Lib.hid (And.intro h1 h2)
      have HBD := Lib.hid hbd
      have HBO := Lib.hid hI.out.2
      clear h1 h2 hbd hx hy hI hi'
      go_wp2_with fail
      refine (HH.out.1 _ (HO1.out.below HBO.out)).mono ?_
      rintro e w2 ⟨rfl, hb2⟩
      have HB2 := Lib.hid (HBO.out.trans (hb2.mono HBO.out.size))
      clear hb2
      by_cases hxy : x ≤ y
      · have hd : decide ((x : Int) ≤ (y : Int)) = true := by simp; omega
        have HBD2 := Lib.hid (show Best (flen us) i 64 i by have := HBD.out; rwa [if_pos hxy] at this)
        go_wp2_with fail
        refine (HH.out.2 _ (HO1.out.below HB2.out)).mono ?_
        rintro e w3 ⟨rfl, hb3⟩
        have HB3 := Lib.hid (HB2.out.trans (hb3.mono HB2.out.size))
        clear hb3
        go_wp2_with fail
        go_roundg (i + 1)
        case measure => omega
        case rel => exact ⟨i, i, by go_num, by omega, rfl, rfl, by omega, Lib.hid ⟨HBD2.out, HB3.out⟩⟩
      · have hd : decide ((x : Int) ≤ (y : Int)) = false := by simp; omega
        have HBD2 := Lib.hid (show Best (flen us) i 64 b by have := HBD.out; rwa [if_neg hxy] at this)
        go_wp2_with fail
        refine (HH.out.2 _ (HO1.out.below HB2.out)).mono ?_
        rintro e w3 ⟨rfl, hb3⟩
        have HB3 := Lib.hid (HB2.out.trans (hb3.mono HB2.out.size))
        clear hb3
        go_wp2_with fail
        go_roundg (i + 1)
        case measure => omega
        case rel => exact ⟨i, b, by go_num, by omega, rfl, rfl, by omega, Lib.hid ⟨HBD2.out, HB3.out⟩⟩
    · obtain rfl : j = 0 := by omega
      have he := best_eq hI.out.1 HF.out.2
      have hff := refForm_any lo A1 n1 c1 us b wo (HO1.out.below hI.out.2) HU.out.1 (by omega) hb
      rw [he, ← HF.out.1] at hff
      rw [← he] at hff
      have HFF := Lib.hid hff
      have HBO := Lib.hid (HB1.out.trans (hI.out.2.mono HB1.out.size))
      clear hff he hI
      go_wp2_with fail
      refine HFF.out.mono ?_
      rintro e w2 ⟨A2, n2, c2, rfl, ho2, hb2⟩
      go_wp2
      go_ret
      exact ⟨A2, n2, c2, rfl, owns_weak ho2 HBO.out.size, HBO.out.trans (hb2.mono HBO.out.size)⟩
end Go.Proofs.Ytkbcmblgieoleaa

namespace Go.Cor
open Go Go.RowKit
/-- s[l:j], and what it reads in whatever world s reads so -/
theorem wpList_slice_lhW {P : Program} {w : World} {ops : Array Oper} {rest : List Oper} {o : Oper} {a : Act} {Q : Exit → Act → World → Prop} (hgd : o.guard = none) {s lo hi : Operand} {t : TypeId}
    (ho : o.op = .slice t s (some lo) (some hi) none) {e : TypeId} {z : Value} {bytes : Nat} (ht : ElemT P t e z 1 bytes) {A : Option Addr} {n c : Nat} (hnc : n ≤ c)
    (hs : a.eval s = .slice A n c) {kl kh : IntKind} {l j : Nat} (hl : a.eval lo = .int kl l) (hh : a.eval hi = .int kh j) (hlj : l ≤ j) (hj : j ≤ n)
    (h : ∀ A' c', (∀ (w' : World) (k : IntKind) (xs : List Int), Rd w' k A n c xs → Rd w' k A' (j - l) c' ((xs.drop l).take (j - l))) → wpList P ops Q rest (a.put o.dst (.slice A' (j - l) c')) w) : wpList P ops Q (o :: rest) a w := by
  refine wpList_plain hgd fun K hK => ?_
  unfold Oper.wp execOp
  simp only [ho, Option.map, hs, hl, hh, Sem.run_bind, run_lh ht A n c hlj (Nat.le_trans hj hnc), Result.andThen_ok, Sem.run_pure]
  exact hK _ _ (h _ _ fun w' k xs hr => hr.sliced hlj hj)
/-- behind an append onto v: another row of the call's own, apart from it -/
theorem beside {w w' : World} {B : Nat} {E : TypeId} {size : Nat} {v v' u : Value} {n : Nat} {xs : List Value} (h : w.ownsRow B E size u n xs) (hg : w.grownBy w' v.ownBlock) (hat : v'.ownBlock = v.ownBlock ∨ v'.ownBlock = some w.heap.size) (ha : Apt v u) :
    w'.ownsRow B E size u n xs ∧ Apt v' u := ⟨owns_beside h hg ha.symm, ha.grow hat h⟩
end Go.Cor
namespace Go.Proofs.Ytkbcmblgieoleaa
open Go.RowKit Go.Cor Go.Free

theorem refMin_any (a b : Int) (w : World) : Calls Try.prog 53 #[.int .i64 a, .int .i64 b] w fun e w' => e = .returned (.int .i64 (min a b)) ∧ w = w' := by
  go_enter Try.func53, Try.ntmps53
  by_cases h : a < b
  · have hd : decide (a < b) = true := by simp [h]
    have hm : min a b = a := by omega
    rw [hm]
    go_wp2
    go_ret
    exact ⟨rfl, rfl⟩
  · have hd : decide (a < b) = false := by simp; omega
    have hm : min a b = b := by omega
    rw [hm]
    go_wp2
    go_ret
    exact ⟨rfl, rfl⟩

set_option maxRecDepth 100000 in
set_option maxHeartbeats 16000000 in
theorem refDEncode_any (A : Option Addr) (n c : Nat) (xs : List Int) (w : World) (h : Rd w .i64 A n c xs) (hi : In .i64 xs) (hn : n ≤ 1100) :
    Calls Try.prog 32 #[.slice A n c] w (RetRow w.heap.size 5 .u8 w (dform xs)) := by
  have hlen := h.len
  by_cases h0 : n = 0
  · subst h0
    have HF := Lib.hid (show dform xs = [] by unfold dform; rw [if_pos (List.eq_nil_of_length_eq_zero hlen)])
    clear h hi hlen
    go_enter Try.func32, Try.ntmps32
    go_wp2
    go_ret
    exact ⟨none, 0, 0, rfl, by rw [HF.out]; exact owns_nil _ _ _ _, Below.refl _ _⟩
  have hn0 : 0 < n := by omega
  have hne0 : ((n : Int) == 0) = false := by simp [h0]
  obtain ⟨ba, o, rfl, hba, hcells⟩ := h.get hn0
  have hne : xs ≠ [] := fun e => by rw [e] at hlen; simp at hlen; omega
  have hfe := dform_eq hne
  have hx0 : Fits .i64 (xs[0]?.getD 0) := by rw [List.getElem?_eq_getElem (by omega)]; exact hi _ (List.getElem_mem _)
  have hc0 := hcells 0 hn0
  rw [List.getD_eq_getElem?_getD, Nat.add_zero] at hc0
  obtain ⟨x0, hx0e⟩ : ∃ x, xs[0]?.getD 0 = x := ⟨_, rfl⟩
  rw [hx0e] at hx0 hc0 hfe
  have hzz := zig_nonneg x0
  have hzm := zig_max x0 hx0.1 hx0.2
  have hzg := fun w => refZig_any x0 w hx0.1 hx0.2
  obtain ⟨z0, hz0⟩ := Int.eq_ofNat_of_zero_le hzz
  rw [hz0] at hzm hzg
  rw [hz0, Int.toNat_natCast] at hfe
  have hpt := fun w => refVPut_any z0 w hzm
  have hv0 := vput_len_u64 z0 (by omega)
  obtain ⟨H0, hH0⟩ : ∃ S, vput z0 = S := ⟨_, rfl⟩
  rw [hH0] at hpt hv0 hfe
  have hdd := fun w h => refDeltas_any (some ⟨ba, o, none⟩) n c xs w h (by omega)
  have hdl : (deltas xs).length = n - 1 := by simp [deltas, hlen]
  have hdi := deltas_i64 xs
  obtain ⟨ds, hds⟩ : ∃ ds, deltas xs = ds := ⟨_, rfl⟩
  rw [hds] at hdd hdl hdi hfe
  have HZ := Lib.hid (And.intro hzg hpt)
  have HD := Lib.hid hdd
  have HFE := Lib.hid hfe
  have HDL := Lib.hid (And.intro hdl hdi)
  have H := Lib.hid h
  clear h hi hlen hcells hne hfe hx0 hx0e hzz hzm hzg hz0 hpt hH0 hdd hdl hdi hds
  go_enter Try.func32, Try.ntmps32
  go_wp2_with fail
  refine (HZ.out.1 _).mono ?_
  rintro e w1 ⟨rfl, rfl⟩
  go_wp2_with fail
  refine (HZ.out.2 _).mono ?_
  rintro e w1 ⟨A1, m1, c1, rfl, ho1, hb1⟩
  have HO1 := Lib.hid ho1
  have HB1 := Lib.hid hb1
  clear ho1 hb1
  go_wp2_with fail
  refine (HD.out _ (H.out.below HB1.out)).mono ?_
  rintro e w2 ⟨A2, n2, c2, rfl, ho2, hb2⟩
  obtain rfl : n2 = n - 1 := by have h1 := row_len ho2; have h2 := HDL.out.1; omega
  obtain ⟨k, hk⟩ : ∃ k, n - 1 = k := ⟨_, rfl⟩
  rw [hk] at ho2 HDL ⊢
  have HDS := Lib.hid (And.intro (owns_weak ho2 HB1.out.size) (show Apt (.slice A1 m1 c1) (.slice A2 k c2) from fun g e e2 => by have h1 := (HO1.out.lt g e).2; have h2 := (ho2.lt g e2).1; omega))
  have HOB := Lib.hid (Owns.below HO1.out hb2)
  have HB2 := Lib.hid (HB1.out.trans (hb2.mono HB1.out.size))
  have hk2 : k ≤ 1100 := by omega
  clear ho2 hb2 HO1 HB1 hk
  go_wp2_with fail
  go_loopg [3, 5] (k + 128) (fun gg v3 v5 wr => ∃ (i q m : Nat) (A3 : Option Addr) (c3 : Nat), v5 = .int .i64 q ∧ q ≤ k + 128 ∧ gg = k + 128 - q ∧ v3 = .slice A3 m c3 ∧ Hid (128 * i = q ∧ Owns wr w.heap.size 5 .u8 A3 m c3 (H0 ++ prts dpart ds ((cks 128 k).take i)) ∧ Below w.heap.size w wr ∧ Owns wr w.heap.size 2 .i64 A2 k c2 ds ∧ Apt (.slice A3 m c3) (.slice A2 k c2)))
  case atStart => exact ⟨0, 0, m1, A1, c1, rfl, by omega, by omega, rfl, Lib.hid ⟨by omega, by simpa [prts] using HOB.out, HB2.out, HDS.out.1, HDS.out.2⟩⟩
  case round =>
    obtain ⟨i, q, m, A3, c3, rfl, hq, rfl, rfl, hI⟩ := hrel
    obtain ⟨wo, rfl⟩ : ∃ wo, wo = wr := ⟨_, rfl⟩
    by_cases hlt : q < k
    · have hd : decide (q < k) = true := by simp; omega
      have hiq := hI.out.1
      have hsn := cks_take_snoc (m := 128) (n := k) (i := i) (by omega) (by omega)
      rw [hiq] at hsn
      obtain ⟨t, ht⟩ : ∃ t, min 128 (k - q) = t := ⟨_, rfl⟩
      rw [ht] at hsn
      have ht0 : 0 < t := by omega
      have ht1 : t ≤ 128 := by omega
      have htk : q + t ≤ k := by omega
      have hmn := fun w => refMin_any ((q : Int) + 128) (k : Int) w
      rw [show min ((q : Int) + 128) (k : Int) = ((q + t : Nat) : Int) by omega] at hmn
      have hps := prts_snoc dpart ds ((cks 128 k).take i) (q, t)
      rw [hsn] at hps
      have hle := prts_le (f := dpart) (l := ds) (m := 128) (pre := (cks 128 k).take i) (by rw [HDL.out.1]; exact List.take_prefix _ _)
      have hdr := drest_len _ ds HDL.out.1 HDL.out.2
      rw [show chunked 128 dpart ds = drest ds from rfl] at hle
      simp only at hps
      obtain ⟨pp, hpp⟩ : ∃ pp, (ds.drop q).take t = pp := ⟨_, rfl⟩
      rw [hpp] at hps
      have hpl : pp.length = t := by rw [← hpp, List.length_take, List.length_drop, HDL.out.1]; omega
      have hpi : ∀ y ∈ pp, I64 y := by rw [← hpp]; exact fun y hy => HDL.out.2 y (List.mem_of_mem_drop (List.mem_of_mem_take hy))
      obtain ⟨Bs, hBs⟩ : ∃ B, H0 ++ prts dpart ds ((cks 128 k).take i) = B := ⟨_, rfl⟩
      have hBl : Bs.length ≤ 30010 := by rw [← hBs, List.length_append]; omega
      have hB2 : H0 ++ prts dpart ds ((cks 128 k).take (i + 1)) = Bs ++ dpart pp := by rw [hps, ← List.append_assoc, hBs]
      have hob := hI.out.2.1
      rw [hBs] at hob
      have hdp : dpart pp = vput (zig (least pp)).toNat ++ (dheads (offsets (least pp) pp) ++ dpacks (offsets (least pp) pp)) := rfl
      have hle2 := fun A c w h => refLeast_any A t c pp w h (by omega)
      have hof := fun A c w h => refOffsets_any (least pp) A t c pp w h (by omega)
      have hfi : I64 (least pp) := least_i64 hpi
      have hui := offsets_u64 (least pp) pp
      have hul : (offsets (least pp) pp).length = t := by simp [offsets, hpl]
      obtain ⟨f, hf⟩ : ∃ f, least pp = f := ⟨_, rfl⟩
      rw [hf] at hof hdp hfi hui hul hle2
      obtain ⟨us, hus⟩ : ∃ us, offsets f pp = us := ⟨_, rfl⟩
      rw [hus] at hof hdp hui hul
      have hzz := zig_nonneg f
      have hzm := zig_max f hfi.1 hfi.2
      have hzg := fun w => refZig_any f w hfi.1 hfi.2
      obtain ⟨z, hz⟩ := Int.eq_ofNat_of_zero_le hzz
      rw [hz] at hzm hzg
      rw [hz, Int.toNat_natCast] at hdp
      have hpt2 := fun w => refVPut_any z w hzm
      have hv := vput_len_u64 z (by omega)
      obtain ⟨Hz, hHz⟩ : ∃ V, vput z = V := ⟨_, rfl⟩
      rw [hHz] at hpt2 hv hdp
      have hpk := dpacks_len _ us hul hui
      have hml := row_len hob
      have hm2 : m ≤ 30010 := by omega
      have HMN := Lib.hid hmn
      have HLE := Lib.hid hle2
      have HOF := Lib.hid hof
      have HZ2 := Lib.hid (And.intro hzg hpt2)
      have HDP := Lib.hid (And.intro hdp hB2)
      have HUS := Lib.hid (And.intro hul (And.intro hui hpk))
      have HOB3 := Lib.hid hob
      have HPP := Lib.hid hpp
      have HV := Lib.hid (And.intro hv hiq)
      clear hiq hsn ht hmn hps hle hdr hpp hpl hpi hBs hB2 hob hdp hle2 hof hfi hui hul hf hus hzz hzm hzg hz hpt2 hv hHz hpk hml HZ HD H HOB
      go_wp2_with fail
      refine (HMN.out _).mono ?_
      rintro e w3 ⟨rfl, rfl⟩
      have hck := (Rd.own hI.out.2.2.2.1).cap
      go_wp2_with (refine wpList_slice_lhW (o := ⟨some 38, _, _, _, _, _⟩) rfl rfl elemI64 hck rfl (kl := .i64) (kh := .i64) (l := q) (j := q + t) rfl rfl (by omega) (by omega) ?_; intro A4 c4 hrd; rw [show q + t - q = t by omega] at hrd ⊢; have HRD := Lib.hid (show ∀ w', Owns w' w.heap.size 2 .i64 A2 k c2 ds → Rd w' .i64 A4 t c4 pp from fun w' h => (by have h1 := hrd w' _ _ (Rd.own h); rwa [HPP.out] at h1)); clear hrd)
      refine (HLE.out _ _ _ (HRD.out _ hI.out.2.2.2.1)).mono ?_
      rintro e w3 ⟨rfl, rfl⟩
      go_wp2_with fail
      refine (HZ2.out.1 _).mono ?_
      rintro e w3 ⟨rfl, rfl⟩
      go_wp2_with fail
      refine (HZ2.out.2 _).mono ?_
      rintro e w3 ⟨A5, m5, c5, rfl, ho5, hb5⟩
      have hm5 : m5 ≤ 10 := by have h1 := row_len ho5; have := HV.out.1; omega
      have HO5 := Lib.hid (Rd.own ho5)
      have HB5 := Lib.hid (hI.out.2.2.1.trans (hb5.mono hI.out.2.2.1.size))
      have HOB5 := Lib.hid (Owns.below HOB3.out hb5)
      have HDS5 := Lib.hid (Owns.below hI.out.2.2.2.1 hb5)
      clear ho5 hb5
      have hsz : w.heap.size ≤ w3.heap.size := HB5.out.size
      go_wp2_with (at_builtin; refine wpList_append_r rfl rfl elemU8 HOB5.out rfl (Rd.toV HO5.out) rfl ints_one (by omega) (by omega) hsz ?_; intro A6 c6 w4 hown hg hat; have HG := Lib.hid (And.intro (owns_app hown) (And.intro (below_grown HB5.out HOB5.out hg hsz) (beside HDS5.out hg hat hI.out.2.2.2.2))); clear hown hg hat)
      refine (HOF.out _ _ _ (HRD.out _ HG.out.2.2.1)).mono ?_
      rintro e w5 ⟨A8, n8, c8, rfl, ho8, hb8⟩
      obtain rfl : n8 = t := by have h1 := row_len ho8; have := HUS.out.1; omega
      have hsz8 : w.heap.size ≤ w4.heap.size := HG.out.2.1.size
      have HW5 := Lib.hid (And.intro (Owns.below HG.out.1 hb8) (And.intro (HG.out.2.1.trans (hb8.mono hsz8)) (And.intro (Owns.below HG.out.2.2.1 hb8) HG.out.2.2.2)))
      have HO8 := Lib.hid (And.intro (owns_weak ho8 hsz8) (show Apt (.slice A6 (m + m5) c6) (.slice A8 n8 c8) from fun g e e2 => by have h1 := (HG.out.1.lt g e).2; have h2 := (ho8.lt g e2).1; omega))
      obtain ⟨m6, hm6e⟩ : ∃ m6, m + m5 = m6 := ⟨_, rfl⟩
      rw [hm6e] at HW5 HO8 ⊢
      have hm6 : m6 ≤ 30020 := by omega
      clear ho8 hb8 hm6e HG HOB5 HDS5 HO5 HB5 HOB3 HLE HOF HZ2 HMN HRD
      go_wp2_with fail
      go_loopg [3, 9, 10] (n8 + 32) (fun gg v3 v9 v10 wr => ∃ (j r m3 m9 : Nat) (A3 A9 : Option Addr) (c3 c9 : Nat), v10 = .int .i64 r ∧ r ≤ n8 + 32 ∧ gg = n8 + 32 - r ∧ v3 = .slice A3 m3 c3 ∧ v9 = .slice A9 m9 c9 ∧ Hid (32 * j = r ∧ Owns wr w.heap.size 5 .u8 A3 m3 c3 (Bs ++ Hz ++ prts (fun x => [most x]) us ((cks 32 n8).take j)) ∧ Owns wr w.heap.size 5 .u8 A9 m9 c9 (prts (fun x => packed (most x).toNat x) us ((cks 32 n8).take j)) ∧ Below w.heap.size w wr ∧ Owns wr w.heap.size 2 .i64 A2 k c2 ds ∧ Owns wr w.heap.size 32 .u64 A8 n8 c8 us
        ∧ Apt (.slice A3 m3 c3) (.slice A2 k c2) ∧ Apt (.slice A3 m3 c3) (.slice A8 n8 c8) ∧ Apt (.slice A3 m3 c3) (.slice A9 m9 c9) ∧ Apt (.slice A9 m9 c9) (.slice A2 k c2) ∧ Apt (.slice A9 m9 c9) (.slice A8 n8 c8)))
      case atStart => exact ⟨0, 0, m6, 0, A6, none, c6, 0, rfl, by omega, by omega, rfl, rfl, Lib.hid ⟨by omega, by simpa [prts] using HW5.out.1, owns_nil _ _ _ _, HW5.out.2.1, HW5.out.2.2.1, Owns.below HO8.out.1 (Below.refl _ _), HW5.out.2.2.2, HO8.out.2, (Apt.none _).symm, Apt.none _, Apt.none _⟩⟩
      case round =>
        obtain ⟨j, r, m3, m9, A3', A9, c3', c9, rfl, hr, rfl, rfl, rfl, hJ⟩ := hrel
        obtain ⟨wq, rfl⟩ : ∃ wq, wq = wr := ⟨_, rfl⟩
        by_cases hlr : r < n8
        · have hd2 : decide (r < n8) = true := by simp; omega
          obtain ⟨hjr, hjb, hja, hjw, hjd, hju, ap1, ap2, ap3, ap4, ap5⟩ := hJ.out
          have hsn := cks_take_snoc (m := 32) (n := n8) (i := j) (by omega) (by omega)
          rw [hjr] at hsn
          obtain ⟨t, ht⟩ : ∃ t, min 32 (n8 - r) = t := ⟨_, rfl⟩
          rw [ht] at hsn
          have ht2 : 0 < t := by omega
          have ht3 : t ≤ 32 := by omega
          have htk2 : r + t ≤ n8 := by omega
          have hmn := fun w => refMin_any ((r : Int) + 32) (n8 : Int) w
          rw [show min ((r : Int) + 32) (n8 : Int) = ((r + t : Nat) : Int) by omega] at hmn
          have hle3 := prts_le (f := fun x => packed (most x).toNat x) (l := us) (m := 32) (pre := (cks 32 n8).take j) (by rw [HUS.out.1]; exact List.take_prefix _ _)
          rw [show chunked 32 (fun x => packed (most x).toNat x) us = dpacks us from rfl] at hle3
          have hln3 : ((cks 32 n8).take j).length ≤ 4 := by rw [List.length_take, cks_len]; omega
          have hsn3 := prts_snoc (fun x => packed (most x).toNat x) us ((cks 32 n8).take j) (r, t)
          have hsh3 := prts_snoc (fun x => [most x]) us ((cks 32 n8).take j) (r, t)
          have hlh3 := prts_one most us ((cks 32 n8).take j)
          rw [hsn] at hsn3 hsh3
          simp only at hsn3 hsh3
          obtain ⟨pq, hpq⟩ : ∃ pq, (us.drop r).take t = pq := ⟨_, rfl⟩
          rw [hpq] at hsn3 hsh3
          have hpqi : U64l pq := by rw [← hpq]; exact (HUS.out.2.1.drop r).take t
          have hpql : pq.length = t := by rw [← hpq, List.length_take, List.length_drop, HUS.out.1]; omega
          have hm := most_bd hpqi
          have hfit := most_fit (l := pq) (fun u hu => (hpqi u hu).1)
          have hmo := fun A c w h => refMost_any A t c pq w h (by omega) hpqi
          obtain ⟨kk, hkk⟩ := Int.eq_ofNat_of_zero_le hm.1
          rw [hkk] at hm hsn3 hmo hfit hsh3
          rw [Int.toNat_natCast] at hsn3 hfit
          have hk64 : kk ≤ 64 := by omega
          have ek : IntKind.u8.wrap (kk : Int) = (kk : Int) := wrapu8_in _ (by omega) (by omega)
          have hpkl : (packed kk pq).length ≤ 256 := by
            rw [packed_len, hpql]
            have : t * kk ≤ 32 * 64 := Nat.mul_le_mul ht3 hk64
            unfold octets; omega
          have hpa := fun A c w h => refPack_any A t c pq kk w h hpqi hk64 hfit
          rw [show packr kk pq = (packed kk pq, 0) by unfold packr; rw [if_neg (by omega)]] at hpa
          obtain ⟨PK, hPK⟩ : ∃ P, packed kk pq = P := ⟨_, rfl⟩
          rw [hPK] at hpkl hpa hsn3
          obtain ⟨P3, hP3⟩ : ∃ P, prts (fun x => packed (most x).toNat x) us ((cks 32 n8).take j) = P := ⟨_, rfl⟩
          obtain ⟨Q3, hQ3⟩ : ∃ P, Bs ++ Hz ++ prts (fun x => [most x]) us ((cks 32 n8).take j) = P := ⟨_, rfl⟩
          have hQ4 : Bs ++ Hz ++ prts (fun x => [most x]) us ((cks 32 n8).take (j + 1)) = Q3 ++ [(kk : Int)] := by rw [hsh3, ← List.append_assoc, hQ3]
          have hQl : Q3.length ≤ 40000 := by rw [← hQ3, List.length_append, List.length_append, hlh3]; have := HV.out.1; omega
          rw [hP3] at hle3 hsn3 hja
          rw [hQ3] at hjb
          have hP3b : P3.length ≤ 2000 := by have := HUS.out.2.2; omega
          have hmb3 := row_len hjb
          have hma3 := row_len hja
          have hm3l : m3 ≤ 40000 := by omega
          have hm9l : m9 ≤ 2000 := by omega
          have hcku := (Rd.own hju).cap
          have hszq : w.heap.size ≤ wq.heap.size := hjw.size
          have HMN := Lib.hid hmn
          have HMO := Lib.hid hmo
          have HPA := Lib.hid hpa
          have HPQ := Lib.hid hpq
          have HQ3 := Lib.hid (And.intro hsn3 (And.intro hQ4 hjr))
          have HPK := Lib.hid hpkl
          have HJB := Lib.hid hjb
          have HJA := Lib.hid hja
          have HJW := Lib.hid hjw
          have HJD := Lib.hid hjd
          have HJU := Lib.hid hju
          have HAP := Lib.hid (And.intro ap1 (And.intro ap2 (And.intro ap3 (And.intro ap4 ap5))))
          clear hjr hjb hja hjw hjd hju ap1 ap2 ap3 ap4 ap5 hsn ht hmn hle3 hln3 hsn3 hsh3 hlh3 hpq hpqi hpql hm hfit hmo hkk hpkl hpa hPK hP3 hQ3 hQ4 hQl hP3b hmb3 hma3 hJ
          go_wp2_with fail
          refine (HMN.out _).mono ?_
          rintro e w6 ⟨rfl, rfl⟩
          go_wp2_with (refine wpList_slice_lhW (o := ⟨some 62, _, _, _, _, _⟩) rfl rfl elemU64 hcku rfl (kl := .i64) (kh := .i64) (l := r) (j := r + t) rfl rfl (by omega) (by omega) ?_; intro A10 c10 hrd; rw [show r + t - r = t by omega] at hrd ⊢; have HRD := Lib.hid (show ∀ w', Owns w' w.heap.size 32 .u64 A8 n8 c8 us → Rd w' .u64 A10 t c10 pq from fun w' h => (by have h1 := hrd w' _ _ (Rd.own h); rwa [HPQ.out] at h1)); clear hrd)
          refine (HMO.out _ _ _ (HRD.out _ HJU.out)).mono ?_
          rintro e w6 ⟨rfl, rfl⟩
          go_wp2_with fail
          refine (HPA.out _ _ _ (HRD.out _ HJU.out)).mono ?_
          rintro e w6 ⟨A11, m11, c11, rfl, ho11, hb11⟩
          have hm11 : m11 ≤ 256 := by have h1 := row_len ho11; have := HPK.out; simp only at h1; omega
          have hw6 : Below w.heap.size w w6 := HJW.out.trans (hb11.mono hszq)
          have hszq6 : w.heap.size ≤ w6.heap.size := hw6.size
          have hap11 : Apt (.slice A3' m3 c3') (.slice A11 m11 c11) := fun g e e2 => by have h1 := (HJB.out.lt g e).2; have h2 := (ho11.lt g e2).1; omega
          have W6 := Lib.hid (And.intro (Owns.below HJB.out hb11) (And.intro (Owns.below HJA.out hb11) (And.intro (Owns.below HJD.out hb11) (And.intro (Owns.below HJU.out hb11) (And.intro (owns_weak ho11 hszq) hw6)))))
          have HAP11 := Lib.hid hap11
          clear ho11 hb11 hw6 hap11 HJB HJA HJD HJU HJW HRD HMO HPA HMN
          go_wp2_with (at_builtin; first
            | (refine wpList_append_r rfl rfl elemU8 (W6.out.1.alloc _) rfl (RdV.one (Box.new _ _ _)) rfl one_one (by omega) (by omega) (by simp; omega) ?_; intro A12 c12 w7 hown hg hat; have W7 := Lib.hid (And.intro (owns_snoc hown) (And.intro (beside (W6.out.2.1.alloc _) hg hat HAP.out.2.2.1) (And.intro (beside (W6.out.2.2.1.alloc _) hg hat HAP.out.1) (And.intro (beside (W6.out.2.2.2.1.alloc _) hg hat HAP.out.2.1) (And.intro (beside (W6.out.2.2.2.2.1.alloc _) hg hat HAP11.out) (below_grown (W6.out.2.2.2.2.2.alloc hszq6 _) (W6.out.1.alloc _) hg (by simp; omega))))))); have hszq7 : w.heap.size ≤ w7.heap.size := (W7.out.2.2.2.2.2).size; clear hown hg hat W6)
            | (refine wpList_append_r rfl rfl elemU8 W7.out.2.1.1 rfl (Rd.toV (Rd.own W7.out.2.2.2.2.1.1)) rfl ints_one (by omega) (by omega) hszq7 ?_; intro A13 c13 w8 hown hg hat; have W8 := Lib.hid (And.intro (owns_app hown) (And.intro (beside W7.out.1 hg hat W7.out.2.1.2.symm) (And.intro (beside W7.out.2.2.1.1 hg hat HAP.out.2.2.2.1) (And.intro (beside W7.out.2.2.2.1.1 hg hat HAP.out.2.2.2.2) (below_grown W7.out.2.2.2.2.2 W7.out.2.1.1 hg hszq7))))); clear hown hg hat))
          go_roundg (n8 + 32 - (r + 32))
          case measure => omega
          case rel =>
            refine ⟨j + 1, r + 32, m3 + 1, m9 + m11, A12, A13, c12, c13, by go_num, by omega, rfl, rfl, rfl, Lib.hid ⟨by have := HQ3.out.2.2; omega, ?_, ?_, W8.out.2.2.2.2, W8.out.2.2.1.1, W8.out.2.2.2.1.1, W7.out.2.2.1.2, W7.out.2.2.2.1.2, W8.out.2.1.2.symm, W8.out.2.2.1.2, W8.out.2.2.2.1.2⟩⟩
            · rw [HQ3.out.2.1]; exact W8.out.2.1.1
            · rw [HQ3.out.1]; exact W8.out.1
        · have hd2 : decide (r < n8) = false := by simp; omega
          obtain ⟨hjr, hjb, hja, hjw, hjd, hju, ap1, ap2, ap3, ap4, ap5⟩ := hJ.out
          have hall := cks_take_all (m := 32) (n := n8) (i := j) (by omega) (by omega)
          have hd3 := prts_all 32 (fun x => packed (most x).toNat x) us
          have hd4 := prts_all 32 (fun x => [most x]) us
          rw [HUS.out.1] at hd3 hd4
          rw [hall, hd4, show chunked 32 (fun x => [most x]) us = dheads us from rfl] at hjb
          rw [hall, hd3, show chunked 32 (fun x => packed (most x).toNat x) us = dpacks us from rfl] at hja
          have hhl := dheads_len _ us HUS.out.1
          obtain ⟨Q, hQ⟩ : ∃ Q, Bs ++ Hz ++ dheads us = Q := ⟨_, rfl⟩
          obtain ⟨P, hP⟩ : ∃ P, dpacks us = P := ⟨_, rfl⟩
          have hQl : Q.length ≤ 40000 := by rw [← hQ, List.length_append, List.length_append, hhl]; have := HV.out.1; omega
          have hPl : P.length ≤ 2000 := by have := HUS.out.2.2; rw [hP] at this; omega
          have HFIN := Lib.hid (show H0 ++ prts dpart ds ((cks 128 k).take (i + 1)) = Q ++ P by rw [HDP.out.2, HDP.out.1, ← hQ, ← hP]; simp [List.append_assoc])
          rw [hQ] at hjb
          rw [hP] at hja
          have hmb3 := row_len hjb
          have hma3 := row_len hja
          have hm3l : m3 ≤ 40000 := by omega
          have hm9l : m9 ≤ 2000 := by omega
          have hszq : w.heap.size ≤ wq.heap.size := hjw.size
          have HJB := Lib.hid hjb
          have HJA := Lib.hid (Rd.own hja)
          have HJW := Lib.hid (And.intro hjw (And.intro hjd ap1))
          clear hjr hjb hja hjw hjd hju ap1 ap2 ap3 ap4 ap5 hall hd3 hd4 hhl hQ hP hQl hPl hmb3 hma3 hJ
          go_wp2_with (at_builtin; refine wpList_append_r rfl rfl elemU8 HJB.out rfl (Rd.toV HJA.out) rfl ints_one (by omega) (by omega) hszq ?_; intro A12 c12 w7 hown hg hat; have W7 := Lib.hid (And.intro (owns_app hown) (And.intro (below_grown HJW.out.1 HJB.out hg hszq) (beside HJW.out.2.1 hg hat HJW.out.2.2))); clear hown hg hat)
          go_roundg (k + 128 - (q + 128))
          case measure => omega
          case rel => exact ⟨i + 1, q + 128, _, A12, c12, by go_num, by omega, rfl, rfl, Lib.hid ⟨by have := HV.out.2; omega, by rw [HFIN.out]; exact W7.out.1, W7.out.2.1, W7.out.2.2.1, W7.out.2.2.2⟩⟩
    · have hd : decide (q < k) = false := by simp; omega
      have hall := cks_take_all (m := 128) (n := k) (i := i) (by omega) (by have := hI.out.1; omega)
      have hpa := prts_all 128 dpart ds
      rw [HDL.out.1] at hpa
      have hob := hI.out.2.1
      rw [hall, hpa, show chunked 128 dpart ds = drest ds from rfl, ← HFE.out] at hob
      have HOB4 := Lib.hid hob
      clear hall hpa hob
      go_wp2
      go_ret
      exact ⟨A3, m, c3, rfl, HOB4.out, hI.out.2.2.1⟩
end Go.Proofs.Ytkbcmblgieoleaa
