/-
  Chapter 11: Decode's reading.
  Chapter 12: a part's deltas are read.
-/
import Derived.Test.YtkbcmblgieoleaaG12
import Derived.Test.YtkbcmblgieoleaaG14
import Derived.Test.YtkbcmblgieoleaaG16
import Derived.Test.YtkbcmblgieoleaaG20
import Derived.Test.YtkbcmblgieoleaaG22
import Derived.Test.YtkbcmblgieoleaaG24
namespace Go.Cor
open Go Go.RowKit
/-- ahead of a drawn region: the cells of a kept block -/
theorem cell_mod {T : Nat → Prop} {w w' : World} (h : Mod T w w') {b : Nat} {v : Value} {t : TypeId} (hb : Box w b t v) (hT : ¬ T b) : w'.cell? ⟨b, 0, none⟩ = some v := cell_of_one (hb.keep h hT)
theorem or_high (h x k : Nat) (hx : x < 2 ^ k) (hh : h * 2 ^ k + x < 18446744073709551616) : bits .or .u64 ((h : Int) * 2 ^ k) (x : Int) = ((h * 2 ^ k + x : Nat) : Int) := by
  have e : ((h : Int) * (2 : Int) ^ k) = ((2 ^ k * h : Nat) : Int) := by rw [Nat.mul_comm]; simp
  rw [e, bits_u64 .or (2 ^ k * h) x (by rw [Nat.mul_comm]; omega) (by omega)]
  simp only []
  rw [← Nat.two_pow_add_eq_or_of_lt hx, Nat.mul_comm]
theorem backs_w64 (f : Int) (us : List Int) : backs (w64 f) us = backs f us := by
  unfold backs; refine List.map_congr_left fun x _ => ?_
  unfold w64; omega
/-- high parts that leave room for the low ones -/
def Roomy (k : Nat) (H : List Int) : Prop := ∀ x ∈ H, 0 ≤ x ∧ x.toNat < 2 ^ (64 - k)
theorem fexc_room (n k : Nat) : ∀ (e a : Nat) (H b : List Int), Roomy k H → (fexc n k e a H b).2.2 = 0 → Roomy k (fexc n k e a H b).1
  | 0, a, H, b, hr, h => by simpa [fexc] using hr
  | e + 1, a, H, b, hr, h => by
    rw [fexc] at h ⊢
    by_cases h1 : (vget 0 b).2.2 ≠ 0
    · rw [if_pos h1] at h; exact absurd h h1
    rw [if_neg h1] at h ⊢
    by_cases h2 : n - a ≤ (vget 0 b).1.toNat
    · rw [if_pos h2] at h; simp at h
    rw [if_neg h2] at h ⊢
    by_cases h3 : (vget 0 (b.drop (vget 0 b).2.1.toNat)).2.2 ≠ 0
    · rw [if_pos h3] at h; exact absurd h h3
    rw [if_neg h3] at h ⊢
    by_cases h4 : (vget 0 (b.drop (vget 0 b).2.1.toNat)).1.toNat = 0 ∨ 64 < nbits (vget 0 (b.drop (vget 0 b).2.1.toNat)).1.toNat + k
    · rw [if_pos h4] at h; simp at h
    rw [if_neg h4] at h ⊢
    unfold dlift at h ⊢
    split at h
    · rename_i h5; exact absurd h h5
    · rename_i h5
      rw [if_neg h5]
      refine fexc_room n k e _ _ _ ?_ (by simpa using h5)
      intro x hx
      rcases List.mem_or_eq_of_mem_set hx with hx | rfl
      · exact hr x hx
      · refine ⟨by omega, ?_⟩
        rw [Int.toNat_natCast]
        exact Nat.lt_of_lt_of_le (nbits_lt _) (pow_mono2 (by omega))
theorem fhighs_ok {n k : Nat} {b : List Int} (h : (fhighs n k b).2.2 = 0) : (fhighs n k b).1.length = n ∧ Roomy k (fhighs n k b).1 := by
  unfold fhighs at h ⊢
  by_cases h1 : (vget 0 b).2.2 ≠ 0
  · rw [if_pos h1] at h; exact absurd h h1
  rw [if_neg h1] at h ⊢
  by_cases h2 : n < (vget 0 b).1.toNat
  · rw [if_pos h2] at h; simp at h
  rw [if_neg h2] at h ⊢
  unfold dlift at h ⊢
  split at h
  · rename_i h5; exact absurd h h5
  · rename_i h5
    rw [if_neg h5]
    have h6 := fexc_len n k (vget 0 b).1.toNat 0 (List.replicate n 0) (b.drop (vget 0 b).2.1.toNat) (by simpa using h5)
    have h7 := fexc_room n k (vget 0 b).1.toNat 0 (List.replicate n 0) (b.drop (vget 0 b).2.1.toNat) (fun x hx => by rw [List.eq_of_mem_replicate hx]; exact ⟨by decide, pow_pos2 _⟩) (by simpa using h5)
    exact ⟨by simpa using h6, by simpa using h7⟩
theorem unpk_ok {k n : Nat} {b : List Int} (h : (unpk k n b).2 = 0) : (unpk k n b).1.length = n ∧ Fitl k (unpk k n b).1 := by
  unfold unpk at h ⊢
  repeat' split at h
  all_goals first | (simp at h; done) | skip
  rename_i h1 h2 h3
  rw [if_neg h1, if_neg h2, if_neg h3]
  exact ⟨unp_len _ _ _, unp_fit _ _ _⟩
theorem fjoin_len (k : Nat) (H L : List Int) : (fjoin k H L).length = L.length := by simp [fjoin]
theorem fjoin_get (k : Nat) (H L : List Int) {i : Nat} (hi : i < L.length) : (fjoin k H L)[i]?.getD 0 = H[i]?.getD 0 * 2 ^ k + L[i]?.getD 0 := by
  simp [fjoin, hi]
theorem or_room {g x k : Nat} (hk : k ≤ 64) (hg : g < 2 ^ (64 - k)) (hx : x < 2 ^ k) : g * 2 ^ k + x < 18446744073709551616 := by
  have e1 : 2 ^ (64 - k) * 2 ^ k = 18446744073709551616 := by rw [← Nat.pow_add, Nat.sub_add_cancel hk]
  have e2 : (g + 1) * 2 ^ k ≤ 2 ^ (64 - k) * 2 ^ k := Nat.mul_le_mul_right _ hg
  rw [Nat.add_mul] at e2; omega
theorem wrap_room {g x k : Nat} (h : g * 2 ^ k + x < 18446744073709551616) : IntKind.u64.wrap ((g : Int) * 2 ^ k) = (g : Int) * 2 ^ k := by
  have e : ((g : Int) * (2 : Int) ^ k) = ((g * 2 ^ k : Nat) : Int) := by simp
  rw [e]
  obtain ⟨y, hy⟩ : ∃ y, g * 2 ^ k = y := ⟨_, rfl⟩
  rw [hy] at h ⊢
  exact wrapu64_in _ (by omega) (by omega)
theorem room_cast (g x k : Nat) : ((g : Int) * (2 : Int) ^ k + (x : Int)) = ((g * 2 ^ k + x : Nat) : Int) := by simp
theorem mix_get {J H : List Int} {i : Nat} (hi : i < H.length) (hl : J.length = H.length) : (J.take i ++ H.drop i)[i]? = H[i]? := by
  have e : (J.take i).length = i := by simp; omega
  rw [List.getElem?_append_right (by omega), e, Nat.sub_self, List.getElem?_drop, Nat.add_zero]
theorem mix_set {J H : List Int} {i : Nat} (hi : i < H.length) (hl : J.length = H.length) {y : Int} (hy : J[i]?.getD 0 = y) : (J.take i ++ H.drop i).set i y = J.take (i + 1) ++ H.drop (i + 1) := by
  have e : (J.take i).length = i := by simp; omega
  have e2 : J.take (i + 1) = J.take i ++ [y] := by
    rw [List.take_add_one]; congr 1
    rw [List.getElem?_eq_getElem (by omega)] at hy ⊢
    simp at hy; simp [hy]
  rw [List.set_append_right _ _ (by omega), e, Nat.sub_self, drop_cons_getD H 0 hi, List.set_cons_zero, e2, List.append_assoc]; rfl
end Go.Cor
namespace Go.Proofs.Ytkbcmblgieoleaa
open Go.RowKit Go.Cor Go.Free

/-- a row and an error, as a value -/
def UnpF (B : Nat) (us : List Int) (er : Int) : Fact := fun v w => ∃ A m c, v = .tuple #[.slice A m c, .int .i64 er] ∧ Owns w B 32 .u64 A m c us
theorem UnpF.stable (B : Nat) (us : List Int) (er : Int) : Stable (UnpF B us er) := fun _ _ _ ⟨A, m, c, e, h⟩ hb => ⟨A, m, c, e, Owns.below h hb⟩
/-- bytes of the cursor, as a value; it stands behind them -/
def BytF (B p : Nat) (A : Option Addr) (n c : Nat) (xs : List Int) (at_ : Nat) (ys : List Int) : Fact := fun v w => OwF B 5 .u8 ys v w ∧ Cur w p A n c xs at_
theorem BytF.stable (B p : Nat) (A : Option Addr) (n c : Nat) (xs : List Int) (at_ : Nat) (ys : List Int) : Stable (BytF B p A n c xs at_ ys) := fun _ _ _ h hb => ⟨OwF.stable _ _ _ _ _ _ _ h.1 hb, h.2.below hb⟩
theorem pmust_ok (A : Option Addr) (n c : Nat) (w : World) : Calls Try.prog 67 #[.slice A n c, .int .i64 0] w fun e w' => e = .returned (.slice A n c) ∧ w = w' := by
  go_enter Try.func67, Try.ntmps67
  go_wp2_with fail
  refine (throw_ok w).mono ?_
  rintro e w' ⟨rfl, rfl⟩
  go_wp2
  go_ret
  exact ⟨rfl, rfl⟩
theorem pmust_err (A : Option Addr) (n c : Nat) (er : Int) (w : World) (h : er ≠ 0) : Calls Try.prog 67 #[.slice A n c, .int .i64 er] w fun e w' => e = Thr er ∧ w = w' := by
  go_enter Try.func67, Try.ntmps67
  go_wp2_with fail
  refine (throw_any er w h).mono ?_
  rintro e w' ⟨rfl, rfl⟩
  exact ⟨rfl, rfl, rfl⟩

set_option maxRecDepth 100000 in
set_option maxHeartbeats 8000000 in
theorem fdec1 {w : World} {p bN : Nat} {A : Option Addr} {n c : Nat} {xs : List Int} {N : Nat} (h : Cur w p A n c xs 0) (hb : Box w bN 3 (.int .i64 N)) (hbp : bN ≠ p) (hN : N ≤ 1024) (hN0 : 0 < N) :
    Calls Try.prog 61 #[.pointer (some ⟨p, 0, none⟩), .pointer (some ⟨bN, 0, none⟩)] w (Dec p A n c xs w (frun N xs).1 (frun N xs).2.1 (frun N xs).2.2) := by
  have hlen := h.rd.len
  have hby := h.bytes
  have HL := Lib.hid (left_any h)
  by_cases h9 : n < 9
  · have hd : decide ((9 : Int) ≤ (n : Int)) = false := by simp; omega
    have HR := Lib.hid (show frun N xs = ([], 0, 1) by unfold frun; rw [if_pos (by omega)])
    clear h hb hlen hby
    go_enter Try.func61, Try.ntmps61
    go_wp2_with fail
    refine HL.out.mono ?_
    rintro e w2 ⟨rfl, kd, rfl⟩
    rw [Nat.sub_zero]
    go_wp2_with fail
    refine (check_false 1 _ (by decide)).mono ?_
    rintro e w3 ⟨rfl, rfl⟩
    exact ⟨rfl, .of_below (below_drewN (Below.refl _ _) _), .inr (by rw [HR.out]; exact ⟨by decide, rfl⟩)⟩
  have hd : decide ((9 : Int) ≤ (n : Int)) = true := by simp; omega
  have hx8 := hby (xs[8]?.getD 0) (by rw [List.getElem?_eq_getElem (by omega)]; exact List.getElem_mem _)
  obtain ⟨k, hk⟩ := Int.eq_ofNat_of_zero_le hx8.1
  have hn8 : num ((xs.drop 8).take 1) = (k : Int) := by
    have e1 : (xs.drop 8).take 1 = [xs[8]?.getD 0] := by
      rw [drop_cons_getD xs 0 (by omega)]; rfl
    rw [e1, hk]; simp [num]
  have hnf := num_bd (hby.take 8)
  rw [List.length_take, Nat.min_eq_left (by omega)] at hnf
  have h256 : (256 : Int) ^ 8 = 18446744073709551616 := by decide
  rw [h256] at hnf
  obtain ⟨f, hf⟩ : ∃ f, num (xs.take 8) = f := ⟨_, rfl⟩
  have hR : frun N xs = if 64 < k then ([], 0, 6) else if (fhighs N k (xs.drop 9)).2.2 ≠ 0 then ([], 0, (fhighs N k (xs.drop 9)).2.2)
      else if (unpk k N (xs.drop (9 + (fhighs N k (xs.drop 9)).2.1))).2 ≠ 0 then ([], 0, (unpk k N (xs.drop (9 + (fhighs N k (xs.drop 9)).2.1))).2)
      else (backs f (fjoin k (fhighs N k (xs.drop 9)).1 (unpk k N (xs.drop (9 + (fhighs N k (xs.drop 9)).2.1))).1), n, 0) := by
    unfold frun; rw [if_neg (by omega), hk, Int.toNat_natCast, hf, hlen]
  rw [hf] at hnf
  have hu64 := fun w (h : Cur w p A n c xs 0) => U64_ok h (by omega)
  rw [List.drop_zero, hf] at hu64
  have hu8 := fun w (h : Cur w p A n c xs 8) => U8_ok h (by omega)
  rw [hn8] at hu8
  have HU64 := Lib.hid hu64
  have HU8 := Lib.hid hu8
  have H := Lib.hid h
  have HBX := Lib.hid hb
  have hk255 : k ≤ 255 := by omega
  obtain ⟨hf0, hf1⟩ := hnf
  have ef : IntKind.i64.wrap f = w64 f := by unfold w64; exact wrapi64 f
  obtain ⟨R, hRe⟩ : ∃ R, frun N xs = R := ⟨_, rfl⟩
  rw [hRe] at hR ⊢
  have HRR := Lib.hid hR
  clear h hb hlen hby hx8 hk hn8 h256 hf hu64 hu8 hR hRe
  go_enter Try.func61, Try.ntmps61
  go_wp2_with fail
  refine HL.out.mono ?_
  rintro e w2 ⟨rfl, kd, rfl⟩
  rw [Nat.sub_zero]
  obtain ⟨w2, hw2⟩ : ∃ w2, w.drewN kd = w2 := ⟨_, rfl⟩
  have hb2 : Below w.heap.size w w2 := by rw [← hw2]; exact below_drewN (Below.refl _ _) _
  rw [hw2]
  have HB2 := Lib.hid hb2
  clear hb2 hw2
  go_wp2_with fail
  refine (check_true 1 _).mono ?_
  rintro e w3 ⟨rfl, rfl⟩
  go_wp2_with fail
  refine (HU64.out _ (H.out.below HB2.out)).mono ?_
  rintro e w3 ⟨rfl, hcu3, hm3⟩
  have HC3 := Lib.hid hcu3
  have HM3 := Lib.hid (Mod.trans (.of_below HB2.out) hm3)
  clear hcu3 hm3
  go_wp2_with fail
  refine (HU8.out _ HC3.out).mono ?_
  rintro e w4 ⟨rfl, hcu4, hm4⟩
  have HC4 := Lib.hid hcu4
  have HM4 := Lib.hid (Mod.trans HM3.out hm4)
  clear hcu4 hm4
  by_cases hk64 : 64 < k
  · have hd4 : decide ((k : Int) ≤ 64) = false := by simp; omega
    have HR := Lib.hid (show R = ([], 0, 6) by rw [HRR.out, if_pos hk64])
    go_wp2_with fail
    refine (check_false 6 _ (by decide)).mono ?_
    rintro e w5 ⟨rfl, rfl⟩
    exact ⟨rfl, HM4.out, .inr (by rw [HR.out]; exact ⟨by decide, rfl⟩)⟩
  have hR := HRR.out
  rw [if_neg hk64] at hR
  have hk2 : k ≤ 64 := by omega
  have hd4 : decide ((k : Int) ≤ 64) = true := by simp; omega
  have hhi := highs_any HC4.out N k hN hN0 hk2
  obtain ⟨r, hr⟩ : ∃ r, fhighs N k (xs.drop 9) = r := ⟨_, rfl⟩
  rw [show 0 + 8 + 1 = 9 from rfl, hr] at hhi
  rw [hr] at hR
  have HHI := Lib.hid hhi
  have HR := Lib.hid hR
  have HRE := Lib.hid hr
  have hcb4 : w4.cell? ⟨bN, 0, none⟩ = some (.int .i64 (N : Int)) := cell_of_one (HBX.out.keep HM4.out hbp)
  clear hhi hR hr
  go_wp2_with fail
  refine (check_true 6 _).mono ?_
  rintro e w5 ⟨rfl, rfl⟩
  go_wp2_with fail
  refine HHI.out.mono ?_
  rintro e w6 ⟨hm6, ⟨h0, ⟨A6, m6, c6, rfl, ho6⟩, hcu6⟩ | ⟨h0, rfl⟩⟩
  · have HM6 := Lib.hid (Mod.trans HM4.out hm6)
    have HC6 := Lib.hid hcu6
    have HO6 := Lib.hid (owns_weak ho6 HM4.out.size)
    have hR := HR.out
    rw [if_neg (by simp [h0])] at hR
    have HR2 := Lib.hid hR
    obtain ⟨q, hq⟩ : ∃ q, r.2.1 = q := ⟨_, rfl⟩
    rw [hq] at HC6 HR2
    have HQ := Lib.hid (And.intro hq h0)
    have hbx6 := HBX.out.keep HM6.out hbp
    have HBX6 := Lib.hid hbx6
    have hqn := HC6.out.le
    have hpl6 := HC6.out.lt
    have HBY6 := Lib.hid (bytes_ok HC6.out (n - (9 + q)) (Nat.le_refl _))
    have hbl6 := lt_of_block hbx6
    clear hcu6 hm6 ho6 hR hq h0 hcb4 hbx6
    go_wp2_with fail
    have hup := fun w A m c h hm => unpack_any A m c (xs.drop (9 + q)) k N w h (HC6.out.bytes.drop (9 + q)) hm hN hk2
    obtain ⟨u, hu⟩ : ∃ u, unpk k N (xs.drop (9 + q)) = u := ⟨_, rfl⟩
    rw [hu] at hup HR2
    obtain ⟨us, er⟩ := u
    have HUP := Lib.hid hup
    have HU := Lib.hid hu
    clear hup hu
    refine Go.Free.M.wp_region_freeS (T := (fun j => j = p)) 9 3 (fun k => false) (by kernel_rfl) (by kernel_rfl) (by kernel_rfl) (by decide) rfl ?_
    refine Go.Free.M.chainS_hard (Go.Free.M.step_val (B := true) (.pointer (some ⟨p, 0, none⟩)) (S := [0]) rfl ?_) (by kernel_rfl) (by decide) rfl (Go.Free.M.hard_eq _ _ _) ?_
    · intro ρ w' hE hB hs
      have hB : Below _ _ _ := hB
      have h0 : ρ (.tmp 0) = .pointer (some ⟨p, 0, none⟩) := hs 0 (by decide)
      clear hs
      refine if_t (by rfl) ?_
      (go_simp <;> exact wrapi64_in _ (by omega) (by omega))
    refine Go.Free.M.chainS_hard (Go.Free.M.step_val (B := true) (.pointer (some ⟨p, 0, none⟩)) (S := [0]) rfl ?_) (by kernel_rfl) (by decide) rfl (Go.Free.M.hard_eq _ _ _) ?_
    · intro ρ w' hE hB hs
      have hB : Below _ _ _ := hB
      have h0 : ρ (.tmp 0) = .pointer (some ⟨p, 0, none⟩) := hs 0 (by decide)
      clear hs
      refine if_t (by rfl) ?_
      (go_simp <;> exact wrapi64_in _ (by omega) (by omega))
    refine Go.Free.M.chainS_hard (Go.Free.M.step_static (B := true) (fun v__ _ => v__ = .int .i64 ((n - (9 + q) : Nat) : Int)) (stable_eq _) (S := [28]) rfl (Go.Cor.enters_f Try.func63 (by kernel_rfl) rfl) rfl ?_) (by kernel_rfl) (by decide) rfl (Go.Free.M.hard_eq _ _ _) ?_
    · intro ρ w' hE hB hs
      have hB : Below _ _ _ := hB
      have h28 : ρ (.tmp 28) = .pointer (some ⟨p, 0, none⟩) := hs 28 (by decide)
      clear hs
      refine ⟨(by rfl), ?_⟩
      simp only [List.map_toArray, List.map_cons, List.map_nil, h28]
      refine (left_any (HC6.out.below hB)).mono ?_
      rintro e w3 ⟨rfl, kd, rfl⟩
      exact ⟨_, rfl, below_drewN (Below.refl _ _) _, rfl⟩
    refine Go.Free.M.chainS_sp (BytF w6.heap.size p A n c xs n (xs.drop (9 + q))) (BytF.stable _ _ _ _ _ _ _ _) (S := [27, 29]) rfl (Go.Cor.enters_f Try.func69 (by kernel_rfl) rfl) rfl rfl ?_ ?_
    · intro ρ w' hE hB hs
      have h27 : ρ (.tmp 27) = .pointer (some ⟨p, 0, none⟩) := hs 27 (by decide)
      have h29 : ρ (.tmp 29) = .int .i64 ((n - (9 + q) : Nat) : Int) := hs 29 (by decide)
      clear hs
      refine ⟨(by rfl), ?_⟩
      simp only [List.map_toArray, List.map_cons, List.map_nil, h27, h29]
      refine (bytes_ok (HC6.out.below hB) (n - (9 + q)) (Nat.le_refl _)).mono ?_
      rintro e w3 ⟨⟨A', c', rfl, ho⟩, hcu, hm⟩
      rw [List.take_of_length_le (by rw [List.length_drop, HC6.out.rd.len]; exact Nat.le_refl _)] at ho
      rw [show 9 + q + (n - (9 + q)) = n by omega] at hcu
      exact .inl ⟨_, rfl, hm, ⟨A', _, c', rfl, owns_weak ho hB.size⟩, hcu⟩
    refine Go.Free.M.chainS_hard (Go.Free.M.step_val (B := false) (.int .i64 k) (S := [5]) rfl ?_) (by kernel_rfl) (by decide) rfl (Go.Free.M.hard_eq _ _ _) ?_
    · intro ρ w' hE hB hs
      have hB : Go.Cor.Mod _ _ _ := hB
      have h5 : ρ (.tmp 5) = .int .i64 k := hs 5 (by decide)
      clear hs
      refine if_t (by rfl) ?_
      (go_simp <;> exact wrapi64_in _ (by omega) (by omega))
    refine Go.Free.M.chainS_hard (Go.Free.M.step_val (B := false) (.int .i64 (N : Int)) (S := [1]) rfl ?_) (by kernel_rfl) (by decide) rfl (Go.Free.M.hard_eq _ _ _) ?_
    · intro ρ w' hE hB hs
      have hB : Go.Cor.Mod _ _ _ := hB
      have h1 : ρ (.tmp 1) = .pointer (some ⟨bN, 0, none⟩) := hs 1 (by decide)
      clear hs
      refine if_t (by rfl) ?_
      have hcl := cell_of_one (HBX6.out.keep hB hbp)
      go_simp
    refine Go.Free.M.chainS_late (Go.Free.M.step_static (B := false) (UnpF w6.heap.size us er) (UnpF.stable _ _ _) (S := [30, 31, 32]) rfl (Go.Cor.enters_f Try.func68 (by kernel_rfl) rfl) rfl ?_) (by kernel_rfl) (by decide) rfl (by kernel_rfl) ?_
    · intro ρ w' hE hB hs
      have hB : Go.Cor.Mod _ _ _ := hB
      have h30 : (BytF w6.heap.size p A n c xs n (xs.drop (9 + q))) (ρ (.tmp 30)) w' := hs 30 (by decide)
      have h31 : ρ (.tmp 31) = .int .i64 k := hs 31 (by decide)
      have h32 : ρ (.tmp 32) = .int .i64 (N : Int) := hs 32 (by decide)
      clear hs
      refine ⟨(by rfl), ?_⟩
      simp only [List.map_toArray, List.map_cons, List.map_nil, h31, h32]
      obtain ⟨⟨A30, n30, c30, e30, r30⟩, hcu⟩ := h30
      rw [e30]
      refine (HUP.out _ _ _ _ (Rd.own r30) (by have hl := row_len r30; rw [List.length_drop, HC6.out.rd.len] at hl; have := HC6.out.small; omega)).mono ?_
      rintro e w3 ⟨A', n', c', rfl, ho, hb⟩
      exact ⟨_, rfl, hb, A', n', c', rfl, owns_weak ho hB.size⟩
    refine Go.Free.M.chainS_late (Go.Free.M.step_fact (B := false) (OwF w6.heap.size 32 .u64 us) (OwF.stable _ _ _ _) (S := [33]) rfl ?_) (by kernel_rfl) (by decide) rfl (by kernel_rfl) ?_
    · intro ρ w' hE hB hs
      have hB : Go.Cor.Mod _ _ _ := hB
      have h33 : (UnpF w6.heap.size us er) (ρ (.tmp 33)) w' := hs 33 (by decide)
      clear hs
      refine if_t (by rfl) ?_
      obtain ⟨A', m', c', e33, ho⟩ := h33
      exact ⟨.slice A' m' c', by go_simp, A', m', c', rfl, ho⟩
    refine Go.Free.M.chainS_hard (Go.Free.M.step_val (B := false) (.int .i64 er) (S := [33]) rfl ?_) (by kernel_rfl) (by decide) rfl (Go.Free.M.hard_eq _ _ _) ?_
    · intro ρ w' hE hB hs
      have hB : Go.Cor.Mod _ _ _ := hB
      have h33 : (UnpF w6.heap.size us er) (ρ (.tmp 33)) w' := hs 33 (by decide)
      clear hs
      refine if_t (by rfl) ?_
      obtain ⟨A', m', c', e33, ho⟩ := h33
      go_simp
    intro w1 hB1
    simp only [List.reverse_cons, List.reverse_nil, List.nil_append, List.cons_append, Go.Free.Ends, forall_eq, Act.put, List.setIfInBounds_toArray, List.set_cons_zero, List.set_cons_succ]
    rintro _ ⟨_, hcu⟩ _ _ _ ⟨A7, m7, c7, rfl, ho7⟩
    have HC7 := Lib.hid hcu
    have HM7 := Lib.hid (Mod.trans HM6.out hB1)
    have HO7 := Lib.hid ho7
    have HO6' := Lib.hid (owns_keep HO6.out hB1 fun g hg _ => by have h1 := (HO6.out.lt g hg).1; have h2 := H.out.lt; show ¬ g = p; omega)
    have HS7 := Lib.hid hB1.size
    clear hcu ho7 hB1
    by_cases he : er = 0
    · subst he
      have hfo := fhighs_ok (n := N) (k := k) (b := xs.drop 9) (by rw [HRE.out]; exact HQ.out.2)
      have huo := unpk_ok (k := k) (n := N) (b := xs.drop (9 + q)) (by rw [HU.out])
      rw [HRE.out] at hfo
      rw [HU.out] at huo
      obtain ⟨Hs, hHs⟩ : ∃ Hs, r.1 = Hs := ⟨_, rfl⟩
      have hR := HR2.out
      rw [if_neg (by simp)] at hR
      rw [hHs] at hfo hR
      have ho6 := HO6'.out
      rw [hHs] at ho6
      obtain rfl : m6 = N := by have q1 := row_len ho6; omega
      obtain rfl : m7 = m6 := by have q1 := row_len HO7.out; have := huo.1; simp only at this; omega
      have HR3 := Lib.hid hR
      have HOK := Lib.hid (And.intro hfo huo)
      have HO8 := Lib.hid ho6
      have hN7 := Lib.hid (show ∀ b o', A7 = some ⟨b, o', none⟩ → w6.heap.size ≤ b from fun b o' e => by subst e; exact (HO7.out.lt b rfl).1)
      clear hfo huo hR ho6 hHs
      go_wp2_with fail
      refine (pmust_ok _ _ _ _).mono ?_
      rintro e w8 ⟨rfl, rfl⟩
      go_wp2_with fail
      have hC7 := HC7.out
      have hM7 := HM7.out
      have hO8 := HO8.out
      have hO7 := HO7.out
      clear HC7 HM7 HO8 HO7 HO6' HS7 HUP HHI HU64 HU8 HL HRR HR HR2 HQ HBY6
      go_loopg [39] m7 (fun gg v39 wr => ∃ i : Nat, v39 = .int .i64 i ∧ i ≤ m7 ∧ gg = m7 - i ∧ Hid (Owns wr w.heap.size 32 .u64 A6 m7 c6 ((fjoin k Hs us).take i ++ Hs.drop i) ∧ Rd wr .u64 A7 m7 c7 us ∧ Cur wr p A n c xs n ∧ Mod (· = p) w wr))
      case atStart => exact ⟨0, rfl, by omega, by omega, Lib.hid ⟨by simpa using hO8, Rd.own hO7, hC7, hM7⟩⟩
      case round =>
        obtain ⟨i, rfl, hi, rfl, hI⟩ := hrel
        obtain ⟨wo, rfl⟩ : ∃ wo, wo = wr := ⟨_, rfl⟩
        by_cases hlt : i < m7
        · have hdi : decide (i < m7) = true := by simp; omega
          have hHs := HOK.out.1.1
          have hus := HOK.out.2.1
          have hJ := fjoin_len k Hs us
          obtain ⟨J, hJe⟩ : ∃ J, fjoin k Hs us = J := ⟨_, rfl⟩
          have hJg := fjoin_get k Hs us (i := i) (by omega)
          rw [hJe] at hJ hJg hI
          obtain ⟨g, hg⟩ := Int.eq_ofNat_of_zero_le ((HOK.out.1.2 (Hs[i]?.getD 0) (by rw [List.getElem?_eq_getElem (by omega)]; exact List.getElem_mem _)).1)
          obtain ⟨x, hx⟩ := Int.eq_ofNat_of_zero_le ((HOK.out.2.2 (us[i]?.getD 0) (by rw [List.getElem?_eq_getElem (by omega)]; exact List.getElem_mem _)).1)
          have hg2 := (HOK.out.1.2 (Hs[i]?.getD 0) (by rw [List.getElem?_eq_getElem (by omega)]; exact List.getElem_mem _)).2
          have hx2 := (HOK.out.2.2 (us[i]?.getD 0) (by rw [List.getElem?_eq_getElem (by omega)]; exact List.getElem_mem _)).2
          rw [hg, Int.toNat_natCast] at hg2
          rw [hx] at hx2
          have hx3 : x < 2 ^ k := by exact_mod_cast hx2
          have hgx := or_room hk2 hg2 hx3
          rw [hg, hx] at hJg
          obtain ⟨g', c', hv4, hBg, hgl, hcell, hfr, hset⟩ := owns_put (i := i) (y := ((g * 2 ^ k + x : Nat) : Int)) hI.out.1 hlt
          injection hv4 with hA hk4 hc4
          subst hc4
          rw [mix_get (by omega) (by omega), List.getElem?_eq_getElem (by omega)] at hcell
          rw [List.getElem?_eq_getElem (by omega)] at hg
          simp only [Option.getD_some] at hg
          rw [hg, Option.map_some] at hcell
          obtain ⟨b7, o7, e7, hbl7, hc7⟩ := hI.out.2.1.get (by omega)
          have hcell7 := hc7 i hlt
          rw [List.getD_eq_getElem?_getD, hx] at hcell7
          have hor := or_high g x k hx3 hgx
          have hwr := wrap_room hgx
          rw [room_cast] at hJg
          have HG := Lib.hid (And.intro hgx hJg)
          have HS := Lib.hid hset
          have HL := Lib.hid (And.intro hHs (And.intro hus hJ))
          have h7 := hN7.out b7 o7 e7
          have h6 := (HO6.out.lt g' (by rw [hA]; rfl)).2
          clear hg hx hHs hus hg2 hx2 hx3 hgx hset hk4 hc7 hN7 HO6
          subst hA e7
          go_wp2
          go_roundg (m7 - (i + 1))
          case measure => omega
          case rel =>
            have hmp := Mod.put hI.out.2.2.2 (a := ⟨g', i, none⟩) hBg (.int .u64 ((g * 2 ^ k + x : Nat) : Int))
            rw [← room_cast] at hmp
            have hs := HS.out
            rw [mix_set (by have := HL.out; omega) (by have := HL.out; omega) HG.out.2, ← room_cast, ← hJe] at hs
            have hgp : p ≠ g' := by have := H.out.lt; have := hBg; omega
            refine ⟨i + 1, by go_num, by omega, rfl, Lib.hid ⟨hs, hI.out.2.1.setCell (fun b o e => ?_) _, H.out.of_mod hmp ((Below.heap_setCell _ _ _ _ (by show p ≠ g'; exact hgp)).trans hI.out.2.2.1.blk) hI.out.2.2.1.le, hmp⟩⟩
            injection e with e
            injection e with e1 e2
            show b ≠ g'
            omega
        · obtain rfl : i = m7 := by omega
          have hdi : decide (i < i) = false := by simp
          have hrd := hI.out.1
          have hl := HOK.out.1.1
          have hl2 := HOK.out.2.1
          rw [List.drop_of_length_le (by omega), List.append_nil, List.take_of_length_le (by rw [fjoin_len]; omega)] at hrd
          have HRD := Lib.hid hrd
          clear hrd hl hl2
          go_wp2_with fail
          refine (back_any _ _ _ _ _ _ (Rd.own HRD.out) (by omega)).mono ?_
          rintro e w9 ⟨A9, n9, c9, rfl, ho9, hb9⟩
          go_wp2
          go_ret
          rw [HR3.out]
          refine ⟨hI.out.2.2.2.trans (.of_below hb9), .inl ⟨rfl, ⟨A9, n9, c9, rfl, ?_⟩, hI.out.2.2.1.below hb9⟩⟩
          rw [← backs_w64]
          exact owns_weak ho9 hI.out.2.2.2.size
    · have hR := HR2.out
      rw [if_pos (by simpa using he)] at hR
      have HR3 := Lib.hid hR
      have HE := Lib.hid he
      clear hR he
      go_wp2_with fail
      refine (pmust_err _ _ _ _ _ HE.out).mono ?_
      rintro e w8 ⟨rfl, rfl⟩
      exact ⟨rfl, HM7.out, .inr (by rw [HR3.out]; exact ⟨HE.out, rfl⟩)⟩
  · have hR := HR.out
    rw [if_pos h0] at hR
    exact ⟨rfl, Mod.trans HM4.out hm6, .inr (by rw [hR]; exact ⟨h0, rfl⟩)⟩
end Go.Proofs.Ytkbcmblgieoleaa

namespace Go.Cor
open Go Go.RowKit
theorem mix_take' {J : List Int} {i : Nat} (h : i < J.length) : J.take i ++ [J[i]?.getD 0] = J.take (i + 1) := by
  rw [List.take_add_one, List.getElem?_eq_getElem h]; simp
theorem dwid_end (q : Nat) : dwid (q + 1) [] = 1 := by rw [dwid, if_pos rfl]
theorem dwid_big {q : Nat} {b : List Int} (h : b ≠ []) (h2 : 64 < (b[0]?.getD 0).toNat) : dwid (q + 1) b = 6 := by rw [dwid, if_neg h, if_pos h2]
theorem dwid_more {q : Nat} {b : List Int} (h : b ≠ []) (h2 : ¬ 64 < (b[0]?.getD 0).toNat) : dwid (q + 1) b = dwid q (b.drop 1) := by rw [dwid, if_neg h, if_neg h2]
section
variable {x t m : Nat} {ws b : List Int}
theorem dpcs_short (ht : min 32 m = t) (h : b.length < octets (t * x)) : dpcs ((x : Int) :: ws) m b = ([], 0, 1) := by rw [dpcs, ht, Int.toNat_natCast, if_pos h]
theorem dpcs_bad (ht : min 32 m = t) (h : ¬ b.length < octets (t * x)) (h2 : nums (b.take (octets (t * x))) / 2 ^ (x * t) ≠ 0) : dpcs ((x : Int) :: ws) m b = ([], 0, 3) := by rw [dpcs, ht, Int.toNat_natCast, if_neg h, if_pos h2]
theorem dpcs_more (ht : min 32 m = t) (h : ¬ b.length < octets (t * x)) (h2 : ¬ nums (b.take (octets (t * x))) / 2 ^ (x * t) ≠ 0) :
    dpcs ((x : Int) :: ws) m b = dlift (unp x t (nums (b.take (octets (t * x))))) (octets (t * x)) (dpcs ws (m - 32) (b.drop (octets (t * x)))) := by rw [dpcs, ht, Int.toNat_natCast, if_neg h, if_neg h2]
theorem dpcs_err : ∀ (ws : List Int) (m : Nat) (b : List Int), (dpcs ws m b).2.2 ≠ 0 → dpcs ws m b = ([], 0, (dpcs ws m b).2.2)
  | [], m, b, h => by simp [dpcs] at h
  | v :: ws, m, b, h => by
    rw [dpcs] at h ⊢
    by_cases h1 : b.length < octets (min 32 m * v.toNat)
    · rw [if_pos h1]
    rw [if_neg h1] at h ⊢
    by_cases h2 : nums (b.take (octets (min 32 m * v.toNat))) / 2 ^ (v.toNat * min 32 m) ≠ 0
    · rw [if_pos h2]
    rw [if_neg h2] at h ⊢
    exact dlift_err h
theorem unpk_len (h : b.length = octets (t * x)) : unpk x t b = if nums b / 2 ^ (x * t) ≠ 0 then ([], 3) else (unp x t (nums b), 0) := by unfold unpk; rw [if_neg (by omega), if_neg (by omega)]
end
end Go.Cor
namespace Go.Proofs.Ytkbcmblgieoleaa
open Go.RowKit Go.Cor Go.Free
theorem elemInt : ElemT Try.prog 76 3 (.int .i64 0) 1 8 := ⟨Try.underlying76, by kernel_rfl, rfl, by decide⟩

set_option maxRecDepth 100000 in
set_option maxHeartbeats 8000000 in
theorem dpart_any {w : World} {p : Nat} {A : Option Addr} {n c : Nat} {xs : List Int} {at_ : Nat} (h : Cur w p A n c xs at_) (M : Nat) (hM : M ≤ 128) (hM0 : 0 < M) :
    Calls Try.prog 48 #[.pointer (some ⟨p, 0, none⟩), .int .i64 M] w (Dec p A n c xs w (dstep M (xs.drop at_)).1 (at_ + (dstep M (xs.drop at_)).2.1) (dstep M (xs.drop at_)).2.2) := by
  have hby := h.bytes.drop at_
  have hnx := dnext_any h
  by_cases he : (vget 0 (xs.drop at_)).2.2 = 0
  · obtain ⟨v, m, hv, hm1, hm2, hv64⟩ := vget_shape hby he
    have hR : dstep M (xs.drop at_) = dbody (zag v) M m (xs.drop (at_ + m)) := by rw [dstep_get M hv, Nat.min_eq_right hM, List.drop_drop]
    unfold NextZ at hnx
    rw [hv] at hnx
    have hl : (xs.drop (at_ + m)).length = n - (at_ + m) := by rw [List.length_drop, h.rd.len]
    have hby2 := h.bytes.drop (at_ + m)
    obtain ⟨b, hb⟩ : ∃ b, xs.drop (at_ + m) = b := ⟨_, rfl⟩
    obtain ⟨R, hRe⟩ : ∃ R, dstep M (xs.drop at_) = R := ⟨_, rfl⟩
    rw [hb] at hR hl hby2
    rw [hRe] at hR ⊢
    obtain ⟨q, hq⟩ : ∃ q, (M + 31) / 32 = q := ⟨_, rfl⟩
    have hqM : IntKind.i64.wrap ((M : Int) + 32) = (M : Int) + 32 := wrapi64_in _ (by omega) (by omega)
    have hq2 : ((M : Int) + 32 - 1) / 32 = (q : Int) := by omega
    have hq4 : q ≤ 4 := by omega
    have HN := Lib.hid hnx
    have H := Lib.hid h
    have HR := Lib.hid hR
    have HB := Lib.hid (And.intro hb (And.intro hl hby2))
    have HQ := Lib.hid hq
    clear h hby hnx he hv hR hl hby2 hb hRe hq hm2
    go_enter Try.func48, Try.ntmps48
    go_wp2_with fail
    refine HN.out.mono ?_
    rintro e w1 ⟨hm1', ⟨_, rfl, hcu1⟩ | ⟨h0, _⟩⟩
    rotate_left
    · exact absurd rfl h0
    simp only [Int.toNat_natCast] at hcu1
    have HC1 := Lib.hid hcu1
    have HM1 := Lib.hid hm1'
    clear hcu1 hm1'
    go_wp2_with fail
    try rw [hq2]
    clear hq2
    go_loopg [6, 18] q (fun gg v6 v18 wr => ∃ (i : Nat) (A6 : Option Addr) (c6 : Nat), v18 = .int .i64 i ∧ i ≤ q ∧ gg = q - i ∧ v6 = .slice A6 i c6 ∧ Hid (Owns wr w.heap.size 3 .i64 A6 i c6 (b.take i) ∧ Cur wr p A n c xs (at_ + m + i) ∧ Mod (· = p) w wr ∧ dwid q b = dwid (q - i) (b.drop i) ∧ ∀ j, j < i → (b[j]?.getD 0).toNat ≤ 64))
    case atStart => exact ⟨0, none, 0, rfl, by omega, by omega, rfl, Lib.hid ⟨owns_nil _ _ _ _, HC1.out, HM1.out, rfl, fun j hj => by omega⟩⟩
    case round =>
      obtain ⟨i, A6, c6, rfl, hi, rfl, rfl, hI⟩ := hrel
      obtain ⟨wo, rfl⟩ : ∃ wo, wo = wr := ⟨_, rfl⟩
      by_cases hlt : i < q
      · have hdi : decide (i < q) = true := by simp; omega
        have hdw := hI.out.2.2.2.1
        rw [show q - i = (q - (i + 1)) + 1 by omega] at hdw
        have hbl := HB.out.2.1
        by_cases hs : n - (at_ + m + i) < 1
        · have hbe : b.drop i = [] := List.drop_of_length_le (by omega)
          rw [hbe, dwid_end] at hdw
          have HS := Lib.hid (U8_short hI.out.2.1 hs)
          have HRR := Lib.hid (show R = ([], 0, 1) by rw [HR.out]; unfold dbody; rw [HQ.out, hdw, if_pos (by decide)])
          clear hdw hbe hbl
          go_wp2_with fail
          refine HS.out.mono ?_
          rintro e w2 ⟨rfl, hb2⟩
          exact ⟨rfl, Mod.trans hI.out.2.2.1 (.of_below hb2), .inr (by rw [HRR.out]; exact ⟨by decide, rfl⟩)⟩
        · have hok := U8_ok hI.out.2.1 (by omega)
          have hbg : b.drop i = (b[i]?.getD 0) :: b.drop (i + 1) := drop_cons_getD b 0 (by omega)
          have hbx : xs.drop (at_ + m + i) = b.drop i := by rw [← HB.out.1, List.drop_drop]
          have hmem := HB.out.2.2 (b[i]?.getD 0) (by rw [List.getElem?_eq_getElem (by omega)]; exact List.getElem_mem _)
          obtain ⟨x, hx⟩ := Int.eq_ofNat_of_zero_le hmem.1
          have hnum : num ((xs.drop (at_ + m + i)).take 1) = (x : Int) := by rw [hbx, hbg, hx]; simp [num]
          rw [hnum] at hok
          have hne : b.drop i ≠ [] := by rw [hbg]; simp
          have hg0 : ((b.drop i)[0]?.getD 0).toNat = x := by rw [hbg]; simp [hx]
          rw [hx] at hmem
          have hx255 : x ≤ 255 := by omega
          have HOKK := Lib.hid hok
          by_cases hx64 : 64 < x
          · have hd : decide ((x : Int) ≤ 64) = false := by simp; omega
            rw [dwid_big hne (by rw [hg0]; exact hx64)] at hdw
            have HRR := Lib.hid (show R = ([], 0, 6) by rw [HR.out]; unfold dbody; rw [HQ.out, hdw, if_pos (by decide)])
            clear hdw hbl hok hbg hbx hmem hx hnum hne hg0
            go_wp2_with fail
            refine HOKK.out.mono ?_
            rintro e w2 ⟨rfl, _, hm2⟩
            have HM2 := Lib.hid (Mod.trans hI.out.2.2.1 hm2)
            clear hm2
            go_wp2_with fail
            refine (check_false 6 _ (by decide)).mono ?_
            rintro e w3 ⟨rfl, rfl⟩
            exact ⟨rfl, HM2.out, .inr (by rw [HRR.out]; exact ⟨by decide, rfl⟩)⟩
          · have hd : decide ((x : Int) ≤ 64) = true := by simp; omega
            rw [dwid_more hne (by rw [hg0]; exact hx64), List.drop_drop] at hdw
            have htk : b.take i ++ [(x : Int)] = b.take (i + 1) := by rw [← hx]; exact mix_take' (by omega)
            have HD := Lib.hid (And.intro hdw (And.intro htk hx))
            clear hdw hbl hok hbg hbx hmem hx hnum hne hg0 htk
            go_wp2_with fail
            refine HOKK.out.mono ?_
            rintro e w2 ⟨rfl, hcu2, hm2⟩
            have HC2 := Lib.hid hcu2
            have HM2 := Lib.hid (Mod.trans hI.out.2.2.1 hm2)
            have HO2 := Lib.hid (owns_keep hI.out.1 hm2 fun g hg _ => by have h1 := (hI.out.1.lt g hg).1; have h2 := H.out.lt; show ¬ g = p; omega)
            clear hcu2 hm2
            go_wp2_with fail
            refine (check_true 6 _).mono ?_
            rintro e w3 ⟨rfl, rfl⟩
            go_wp2_with (at_builtin; refine wpList_append_r rfl rfl elemInt (HO2.out.alloc _) rfl (RdV.one (Box.new _ _ _)) rfl one_one (by omega) (by omega) (by have := HM2.out.size; simp; omega) ?_; intro A3 c3 w8 hown hg hat; have HG := Lib.hid (And.intro (owns_snoc hown) (Cu.grown H.out (Mod.trans HM2.out (.alloc _ _ _)) (HC2.out.alloc' _) (HO2.out.alloc _) (Nat.le_refl _) hg)); clear hown hg hat)
            go_roundg (q - (i + 1))
            case measure => omega
            case rel =>
              refine ⟨i + 1, A3, c3, by go_num, by omega, rfl, rfl, Lib.hid ⟨by rw [← HD.out.2.1]; exact HG.out.1, HG.out.2.1, HG.out.2.2, HD.out.1, fun j hj => ?_⟩⟩
              by_cases hji : j < i
              · exact hI.out.2.2.2.2 j hji
              · obtain rfl : j = i := by omega
                rw [HD.out.2.2]; omega
      · obtain rfl : i = q := by omega
        have hdi : decide (i < i) = false := by simp
        have hdw := hI.out.2.2.2.1
        rw [Nat.sub_self, dwid] at hdw
        have hRd : R = if (dpcs (b.take i) M (b.drop i)).2.2 ≠ 0 then ([], 0, (dpcs (b.take i) M (b.drop i)).2.2) else (backs (zag v) (dpcs (b.take i) M (b.drop i)).1, m + (i + (dpcs (b.take i) M (b.drop i)).2.1), 0) := by
          rw [HR.out]; unfold dbody; rw [HQ.out, hdw, if_neg (by simp)]
        have HRD := Lib.hid hRd
        have HO6 := Lib.hid hI.out.1
        have HC6 := Lib.hid hI.out.2.1
        have HM6 := Lib.hid hI.out.2.2.1
        have HW := Lib.hid hI.out.2.2.2.2
        have hib : i ≤ b.length := by have h1 := hI.out.2.1.le; have h2 := HB.out.2.1; omega
        have hbq := HB.out.2.2.drop i
        have hbl := HB.out.2.1
        have hqq := HQ.out
        have HQM := Lib.hid (show (M + 31) / 32 = i from HQ.out)
        have hwl := row_len HO6.out
        obtain ⟨ws, hws⟩ : ∃ ws, b.take i = ws := ⟨_, rfl⟩
        have hwe : ∀ j, j < i → ws[j]?.getD 0 = b[j]?.getD 0 := fun j hj => by rw [← hws, List.getElem?_take_of_lt hj]
        have hbxs : xs.drop (at_ + m + i) = b.drop i := by rw [← HB.out.1, List.drop_drop]
        obtain ⟨b2, hb2⟩ : ∃ b2, b.drop i = b2 := ⟨_, rfl⟩
        have hb2l : b2.length = n - (at_ + m + i) := by rw [← hb2, List.length_drop, hbl]; omega
        rw [hws, hb2] at HRD
        rw [hws] at HO6 hwl
        rw [hb2] at hbq hbxs
        have HWE := Lib.hid (And.intro hwe (And.intro hbxs (And.intro hbq hb2l)))
        clear hdw hRd hI hws hwe hbxs hb2 hb2l hbq hbl HQ HR hdi hlt
        go_wp2_with fail
        go_loopg [8, 33] i (fun gg v8 v33 wr => ∃ (j k8 cnt : Nat) (A8 : Option Addr) (c8 : Nat) (l : List Int), v33 = .int .i64 j ∧ j ≤ i ∧ gg = i - j ∧ v8 = .slice A8 k8 c8 ∧ k8 ≤ M ∧ Hid (k8 = min (32 * j) M) ∧ Hid (Owns wr wo.heap.size 32 .u64 A8 k8 c8 l ∧ Cur wr p A n c xs (at_ + m + i + cnt) ∧ Mod (· = p) wo wr ∧ dpcs ws M b2 = dlift l cnt (dpcs (ws.drop j) (M - k8) (b2.drop cnt))))
        case atStart => exact ⟨0, 0, 0, none, 0, [], rfl, by omega, by omega, rfl, by omega, Lib.hid (by omega), Lib.hid ⟨owns_nil _ _ _ _, HC6.out, Keep.refl _ _, by rw [List.drop_zero, List.drop_zero, Nat.sub_zero]; exact dlift_start (fun h => dpcs_err _ _ _ h)⟩⟩
        case round =>
          obtain ⟨j, k8, cnt, A8, c8, l, rfl, hj, rfl, rfl, hkM, hK8, hJ⟩ := hrel
          obtain ⟨wq, rfl⟩ : ∃ wq, wq = wr := ⟨_, rfl⟩
          by_cases hlt : j < i
          · have hdj : decide (j < i) = true := by simp; omega
            have hww := HW.out j hlt
            rw [← HWE.out.1 j hlt] at hww
            have hwl2 := HWE.out.2.2.2
            have hmem : 0 ≤ ws[j]?.getD 0 := by
              rw [HWE.out.1 j hlt]
              exact (HB.out.2.2 _ (by rw [List.getElem?_eq_getElem (by omega)]; exact List.getElem_mem _)).1
            obtain ⟨x, hx⟩ := Int.eq_ofNat_of_zero_le hmem
            rw [hx, Int.toNat_natCast] at hww
            have hg6 := Rd.own (owns_keep HO6.out hJ.out.2.2.1 fun g hg _ => by have h1 := (HO6.out.lt g hg).1; have h2 := H.out.lt; show ¬ g = p; omega)
            obtain ⟨b6, o6, rfl, hbl6, hc6⟩ := hg6.get (by omega)
            have hcell := hc6 j hlt
            rw [List.getD_eq_getElem?_getD, hx] at hcell
            obtain ⟨t, ht⟩ : ∃ t, min 32 (M - k8) = t := ⟨_, rfl⟩
            have ht32 : t ≤ 32 := by omega
            have htd : t ≤ M - k8 := by omega
            have et : min (32 : Int) ((M : Int) - (k8 : Int)) = (t : Int) := by omega
            have HT := Lib.hid ht
            have htx : t * x ≤ 32 * 64 := Nat.mul_le_mul ht32 hww
            have hnd := fun w => need_any t x (by omega) hww w
            have hdrop : ws.drop j = (x : Int) :: ws.drop (j + 1) := by rw [drop_cons_getD ws 0 (by omega), hx]
            have hDP := hJ.out.2.2.2
            rw [hdrop] at hDP
            obtain ⟨oc, hoc⟩ : ∃ oc, octets (t * x) = oc := ⟨_, rfl⟩
            have hoc2 : oc ≤ 256 := by rw [← hoc]; unfold octets; omega
            rw [hoc] at hnd
            have HND := Lib.hid hnd
            clear ht hnd
            by_cases hsh : n - (at_ + m + i + cnt) < oc
            · rw [dpcs_short HT.out (by rw [hoc, List.length_drop, hwl2]; omega), dlift_bad (by decide)] at hDP
              have HRR := Lib.hid (show R = ([], 0, 1) by rw [HRD.out, hDP, if_pos (by decide)])
              have HS := Lib.hid (bytes_short hJ.out.2.1 (oc : Int) (by omega))
              clear hDP hdrop hc6 hx hmem hoc htx hwl2 hww hsh hwl hqq
              go_wp2_with fail
              refine (HND.out _).mono ?_
              rintro e w2 ⟨rfl, rfl⟩
              go_wp2_with fail
              refine HS.out.mono ?_
              rintro e w2 ⟨rfl, hb2⟩
              exact ⟨rfl, Mod.trans (Mod.trans HM6.out hJ.out.2.2.1) (.of_below hb2), .inr (by rw [HRR.out]; exact ⟨by decide, rfl⟩)⟩
            · have hbk := bytes_ok hJ.out.2.1 oc (by omega)
              unfold TookRow Took at hbk
              have hbx : xs.drop (at_ + m + i + cnt) = b2.drop cnt := by rw [← HWE.out.2.1, List.drop_drop]
              rw [hbx] at hbk
              have hby3 := (HWE.out.2.2.1.drop cnt).take oc
              have hbl3 : ((b2.drop cnt).take oc).length = oc := by rw [List.length_take, List.length_drop, hwl2]; omega
              have hup := fun w A c h => unpack_any A oc c ((b2.drop cnt).take oc) x t w h hby3 (by omega) (by omega) hww
              rw [unpk_len (by rw [hbl3, hoc])] at hup
              have hnl : ¬ (b2.drop cnt).length < octets (t * x) := by rw [hoc, List.length_drop, hwl2]; omega
              have HBK := Lib.hid hbk
              by_cases hnu : nums ((b2.drop cnt).take oc) / 2 ^ (x * t) ≠ 0
              · rw [dpcs_bad HT.out hnl (by rw [hoc]; exact hnu), dlift_bad (by decide)] at hDP
                rw [if_pos hnu] at hup
                have HRR := Lib.hid (show R = ([], 0, 3) by rw [HRD.out, hDP, if_pos (by decide)])
                have HUP := Lib.hid hup
                clear hDP hdrop hc6 hx hmem hoc htx hwl2 hww hsh hwl hqq hbk hbx hby3 hbl3 hup hnl hnu
                go_wp2_with fail
                refine (HND.out _).mono ?_
                rintro e w2 ⟨rfl, rfl⟩
                go_wp2_with fail
                refine HBK.out.mono ?_
                rintro e w2 ⟨⟨A2, c2, rfl, ho2⟩, hcu2, hm2⟩
                have HM2 := Lib.hid (Mod.trans (Mod.trans HM6.out hJ.out.2.2.1) hm2)
                have HO2 := Lib.hid (Rd.own ho2)
                clear ho2 hcu2 hm2
                go_wp2_with fail
                refine (HUP.out _ _ _ HO2.out).mono ?_
                rintro e w3 ⟨A3, n3, c3, rfl, ho3, hb3⟩
                go_wp2_with fail
                refine (pmust_err _ _ _ _ _ (by decide)).mono ?_
                rintro e w4 ⟨rfl, rfl⟩
                exact ⟨rfl, Mod.trans HM2.out (.of_below hb3), .inr (by rw [HRR.out]; exact ⟨by decide, rfl⟩)⟩
              · rw [dpcs_more HT.out hnl (by rw [hoc]; exact hnu), dlift_dlift, hoc] at hDP
                rw [if_neg hnu] at hup
                have HUP := Lib.hid hup
                have HDP := Lib.hid hDP
                clear hDP hdrop hc6 hx hmem hoc htx hwl2 hww hsh hwl hqq hbk hbx hby3 hbl3 hup hnl hnu
                go_wp2_with fail
                refine (HND.out _).mono ?_
                rintro e w2 ⟨rfl, rfl⟩
                go_wp2_with fail
                refine HBK.out.mono ?_
                rintro e w2 ⟨⟨A2, c2, rfl, ho2⟩, hcu2, hm2⟩
                have HM2 := Lib.hid (Mod.trans hJ.out.2.2.1 hm2)
                have HC2 := Lib.hid hcu2
                have HO2 := Lib.hid (Rd.own ho2)
                have HO8 := Lib.hid (owns_keep hJ.out.1 hm2 fun g hg _ => by have h1 := (hJ.out.1.lt g hg).1; have h2 := HC6.out.lt; show ¬ g = p; omega)
                clear ho2 hcu2 hm2
                go_wp2_with fail
                refine (HUP.out _ _ _ HO2.out).mono ?_
                rintro e w3 ⟨A3, n3, c3, rfl, ho3, hb3⟩
                obtain rfl : t = n3 := by have h1 := row_len ho3; simp only [unp_len] at h1; omega
                have HO3 := Lib.hid (Rd.own ho3)
                have HM3 := Lib.hid (Mod.trans HM2.out (.of_below hb3))
                have HC3 := Lib.hid (HC2.out.below hb3)
                have HO9 := Lib.hid (Owns.below HO8.out hb3)
                clear ho3 hb3
                go_wp2_with fail
                refine (pmust_ok _ _ _ _).mono ?_
                rintro e w4 ⟨rfl, rfl⟩
                go_wp2_with (at_builtin; refine wpList_append_r rfl rfl elemU64 HO9.out rfl (Rd.toV HO3.out) rfl ints_one (by omega) (by omega) (by have := HM3.out.size; omega) ?_; intro A5 c5 w8 hown hg hat; have HG := Lib.hid (And.intro (owns_app hown) (Cu.grown HC6.out HM3.out HC3.out HO9.out (Nat.le_refl _) hg)); clear hown hg hat)
                go_roundg (i - (j + 1))
                case measure => omega
                case rel =>
                  have hT := HT.out
                  have hK := hK8.out
                  have hQ := HQM.out
                  refine ⟨j + 1, k8 + t, cnt + oc, A5, c5, _, by go_num, by omega, rfl, rfl, by omega, Lib.hid (by omega), Lib.hid ⟨HG.out.1, ?_, HG.out.2.2, ?_⟩⟩
                  · have := HG.out.2.1; rwa [Nat.add_assoc (at_ + m + i)] at this
                  · rw [HDP.out, List.drop_drop, show M - k8 - 32 = M - (k8 + t) by omega]
          · obtain rfl : j = i := by omega
            have hdj : decide (j < j) = false := by simp
            have hJ4 := hJ.out.2.2.2
            rw [List.drop_of_length_le (by omega), show ∀ (m : Nat) (b : List Int), dpcs [] m b = ([], 0, 0) from fun _ _ => rfl] at hJ4
            have hRR := HRD.out
            rw [hJ4] at hRR
            simp only [dlift, ne_eq, not_true_eq_false, if_false, List.append_nil, Nat.add_zero] at hRR
            have HRR := Lib.hid hRR
            have HBA := Lib.hid (back_any (zag v) A8 k8 c8 l wq (Rd.own hJ.out.1) (by omega))
            clear hJ4 hRR hqq hwl
            go_wp2_with fail
            refine HBA.out.mono ?_
            rintro e w5 ⟨A5, m5, c5, rfl, ho5, hb5⟩
            go_wp2
            go_ret
            exact ⟨Mod.trans (Mod.trans HM6.out hJ.out.2.2.1) (.of_below hb5), .inl (by rw [HRR.out]; exact ⟨rfl, ⟨_, _, _, rfl, owns_weak ho5 (by have h1 := HM6.out.size; have h2 := hJ.out.2.2.1.size; omega)⟩, by have := hJ.out.2.1.below hb5; simpa only [Nat.add_assoc] using this⟩)⟩
  · unfold NextZ at hnx
    have hR : dstep M (xs.drop at_) = ([], 0, (vget 0 (xs.drop at_)).2.2) := by unfold dstep; rw [if_pos he]
    obtain ⟨g, hg⟩ : ∃ g, vget 0 (xs.drop at_) = g := ⟨_, rfl⟩
    rw [hg] at hnx hR he
    have HN := Lib.hid hnx
    have HR := Lib.hid hR
    have HE := Lib.hid he
    clear h hby hnx hR hg he
    go_enter Try.func48, Try.ntmps48
    go_wp2_with fail
    refine HN.out.mono ?_
    rintro e w1 ⟨hm1', ⟨h0, _⟩ | ⟨_, rfl⟩⟩
    · exact absurd h0 HE.out
    exact ⟨rfl, hm1', .inr (by rw [HR.out]; exact ⟨HE.out, rfl⟩)⟩
end Go.Proofs.Ytkbcmblgieoleaa
