/-
  Chapter 3: what CursorReads asks of a cursor.
-/
import Derived.Test.YthpndhdpohmoaaaCurR
import Derived.Test.YthpndhdpohmoaaaGet
import Derived.Test.YthpndhdpohmoaaaZoneB
namespace Go.Proofs.Ythpndhdpohmoaaa
open Go.RowKit Go.Cor Go.Free

def AskR (B p : Nat) (A : Option Addr) (n c : Nat) (xs : List Int) (r : List Int × Int × Nat) (A' : Option Addr) (n' c' : Nat) (w' : World) : Prop := r.2.1 = 0 ∧ Owns w' B 5 .u8 A' n' c' r.1 ∧ Cur w' p A n c xs r.2.2
def AskS (p : Nat) (A : Option Addr) (n c : Nat) (xs : List Int) (r : List Int × Int × Nat) (e : Int) (w' : World) : Prop := r.1 = [] ∧ e = r.2.1 ∧ Cur w' p A n c xs r.2.2
abbrev AskG (p : Nat) (A : Option Addr) (n c : Nat) (xs : List Int) (r : List Int × Int × Nat) (w : World) := Gives (· = p) (AskR w.heap.size p A n c xs r) (AskS p A n c xs r) w
theorem cstep0 (xs : List Int) (at_ : Nat) (m : Int) : cstep xs at_ 0 m = rbytes xs at_ 1 := by unfold cstep; rw [if_pos (by decide)]; rfl
set_option maxRecDepth 100000 in
set_option maxHeartbeats 1000000 in
theorem asked1_0 {w : World} {p ba bc : Nat} {A : Option Addr} {n c : Nat} {xs : List Int} {at_ : Nat} (m : Int) (h : Cur w p A n c xs at_) (ha : Blk w ba 66 #[.int .u8 0, .int .i64 m]) (hb : Box w bc 51 (.pointer (some ⟨p, 0, none⟩))) :
    Calls Try.prog 69 #[.pointer (some ⟨ba, 0, none⟩), .pointer (some ⟨bc, 0, none⟩)] w (AskG p A n c xs (cstep xs at_ 0 m) w) := by
  have hl := h.rd.len
  have hby := h.bytes
  have hc0 := ha.cell 0
  simp at hc0
  have hcb := cell_of_one hb
  have hle := h.le
  rw [cstep0]
  by_cases hs : n - at_ < 1
  · have HU := Lib.hid (U8_short h hs)
    rw [rbytes_short (by decide) (by rw [hl]; omega)]
    have H := Lib.hid h
    clear h ha hb hl hby
    go_enter Try.func69, Try.ntmps69
    go_wp2_with fail
    refine HU.out.mono ?_
    rintro e w1 ⟨rfl, hb1⟩
    exact ⟨rfl, .inr ⟨1, by decide, rfl, rfl, rfl, H.out.below hb1⟩, .of_below hb1⟩
  have HU := Lib.hid (U8_ok h (by omega))
  rw [show rbytes xs at_ 1 = _ from rbytes_ok (m := 1) (by rw [hl]; omega)]
  have hlt : ((xs.drop at_).take 1).length = 1 := by rw [List.length_take, List.length_drop]; omega
  have hn := num_bd ((hby.drop at_).take 1)
  have hle' := leb_num (xs := (xs.drop at_).take 1) (m := 1) (fun x hx => ((hby.drop at_).take 1) x hx) hlt
  rw [hlt] at hn
  obtain ⟨ys, hys⟩ : ∃ ys, (xs.drop at_).take 1 = ys := ⟨_, rfl⟩
  rw [hys] at HU hn hle' ⊢
  obtain ⟨v, hv⟩ := Int.eq_ofNat_of_zero_le hn.1
  rw [hv] at HU hn hle'
  have hv2 : (v : Int) ≤ 18446744073709551615 := by have := hn.2; simp at this; omega
  have e1 : IntKind.u64.wrap (v : Int) = (v : Int) := wrapu64_in _ (by omega) (by omega)
  have HL := Lib.hid (show leb v 1 = ys from hle')
  clear h ha hb hl hby hlt hn hle' hys hv
  go_enter Try.func69, Try.ntmps69
  go_wp2_with fail
  refine HU.out.mono ?_
  rintro e w1 ⟨rfl, hc1, hm1⟩
  have HC := Lib.hid hc1
  have HM := Lib.hid hm1
  clear hc1 hm1
  go_wp2_with fail
  refine (refPut_any v 1 _ hv2 (by decide)).mono ?_
  rintro e w2 ⟨A2, n2, c2, rfl, ho2, hb2⟩
  rw [HL.out] at ho2
  have HO := Lib.hid ho2
  have HB := Lib.hid hb2
  clear ho2 hb2
  go_wp2
  go_ret
  exact ⟨.inl ⟨A2, n2, c2, rfl, rfl, owns_weak HO.out HM.out.size, HC.out.below HB.out⟩, HM.out.trans (.of_below HB.out)⟩
theorem cstep1 (xs : List Int) (at_ : Nat) (m : Int) : cstep xs at_ 1 m = rbytes xs at_ 2 := by unfold cstep; rw [if_pos (by decide)]; rfl
set_option maxRecDepth 100000 in
set_option maxHeartbeats 1000000 in
theorem asked1_1 {w : World} {p ba bc : Nat} {A : Option Addr} {n c : Nat} {xs : List Int} {at_ : Nat} (m : Int) (h : Cur w p A n c xs at_) (ha : Blk w ba 66 #[.int .u8 1, .int .i64 m]) (hb : Box w bc 51 (.pointer (some ⟨p, 0, none⟩))) :
    Calls Try.prog 69 #[.pointer (some ⟨ba, 0, none⟩), .pointer (some ⟨bc, 0, none⟩)] w (AskG p A n c xs (cstep xs at_ 1 m) w) := by
  have hl := h.rd.len
  have hby := h.bytes
  have hc0 := ha.cell 0
  simp at hc0
  have hcb := cell_of_one hb
  have hle := h.le
  rw [cstep1]
  by_cases hs : n - at_ < 2
  · have HU := Lib.hid (U16_short h hs)
    rw [rbytes_short (by decide) (by rw [hl]; omega)]
    have H := Lib.hid h
    clear h ha hb hl hby
    go_enter Try.func69, Try.ntmps69
    go_wp2_with fail
    refine HU.out.mono ?_
    rintro e w1 ⟨rfl, hb1⟩
    exact ⟨rfl, .inr ⟨1, by decide, rfl, rfl, rfl, H.out.below hb1⟩, .of_below hb1⟩
  have HU := Lib.hid (U16_ok h (by omega))
  rw [show rbytes xs at_ 2 = _ from rbytes_ok (m := 2) (by rw [hl]; omega)]
  have hlt : ((xs.drop at_).take 2).length = 2 := by rw [List.length_take, List.length_drop]; omega
  have hn := num_bd ((hby.drop at_).take 2)
  have hle' := leb_num (xs := (xs.drop at_).take 2) (m := 2) (fun x hx => ((hby.drop at_).take 2) x hx) hlt
  rw [hlt] at hn
  obtain ⟨ys, hys⟩ : ∃ ys, (xs.drop at_).take 2 = ys := ⟨_, rfl⟩
  rw [hys] at HU hn hle' ⊢
  obtain ⟨v, hv⟩ := Int.eq_ofNat_of_zero_le hn.1
  rw [hv] at HU hn hle'
  have hv2 : (v : Int) ≤ 18446744073709551615 := by have := hn.2; simp at this; omega
  have e1 : IntKind.u64.wrap (v : Int) = (v : Int) := wrapu64_in _ (by omega) (by omega)
  have HL := Lib.hid (show leb v 2 = ys from hle')
  clear h ha hb hl hby hlt hn hle' hys hv
  go_enter Try.func69, Try.ntmps69
  go_wp2_with fail
  refine HU.out.mono ?_
  rintro e w1 ⟨rfl, hc1, hm1⟩
  have HC := Lib.hid hc1
  have HM := Lib.hid hm1
  clear hc1 hm1
  go_wp2_with fail
  refine (refPut_any v 2 _ hv2 (by decide)).mono ?_
  rintro e w2 ⟨A2, n2, c2, rfl, ho2, hb2⟩
  rw [HL.out] at ho2
  have HO := Lib.hid ho2
  have HB := Lib.hid hb2
  clear ho2 hb2
  go_wp2
  go_ret
  exact ⟨.inl ⟨A2, n2, c2, rfl, rfl, owns_weak HO.out HM.out.size, HC.out.below HB.out⟩, HM.out.trans (.of_below HB.out)⟩
theorem cstep2 (xs : List Int) (at_ : Nat) (m : Int) : cstep xs at_ 2 m = rbytes xs at_ 4 := by unfold cstep; rw [if_pos (by decide)]; rfl
set_option maxRecDepth 100000 in
set_option maxHeartbeats 1000000 in
theorem asked1_2 {w : World} {p ba bc : Nat} {A : Option Addr} {n c : Nat} {xs : List Int} {at_ : Nat} (m : Int) (h : Cur w p A n c xs at_) (ha : Blk w ba 66 #[.int .u8 2, .int .i64 m]) (hb : Box w bc 51 (.pointer (some ⟨p, 0, none⟩))) :
    Calls Try.prog 69 #[.pointer (some ⟨ba, 0, none⟩), .pointer (some ⟨bc, 0, none⟩)] w (AskG p A n c xs (cstep xs at_ 2 m) w) := by
  have hl := h.rd.len
  have hby := h.bytes
  have hc0 := ha.cell 0
  simp at hc0
  have hcb := cell_of_one hb
  have hle := h.le
  rw [cstep2]
  by_cases hs : n - at_ < 4
  · have HU := Lib.hid (U32_short h hs)
    rw [rbytes_short (by decide) (by rw [hl]; omega)]
    have H := Lib.hid h
    clear h ha hb hl hby
    go_enter Try.func69, Try.ntmps69
    go_wp2_with fail
    refine HU.out.mono ?_
    rintro e w1 ⟨rfl, hb1⟩
    exact ⟨rfl, .inr ⟨1, by decide, rfl, rfl, rfl, H.out.below hb1⟩, .of_below hb1⟩
  have HU := Lib.hid (U32_ok h (by omega))
  rw [show rbytes xs at_ 4 = _ from rbytes_ok (m := 4) (by rw [hl]; omega)]
  have hlt : ((xs.drop at_).take 4).length = 4 := by rw [List.length_take, List.length_drop]; omega
  have hn := num_bd ((hby.drop at_).take 4)
  have hle' := leb_num (xs := (xs.drop at_).take 4) (m := 4) (fun x hx => ((hby.drop at_).take 4) x hx) hlt
  rw [hlt] at hn
  obtain ⟨ys, hys⟩ : ∃ ys, (xs.drop at_).take 4 = ys := ⟨_, rfl⟩
  rw [hys] at HU hn hle' ⊢
  obtain ⟨v, hv⟩ := Int.eq_ofNat_of_zero_le hn.1
  rw [hv] at HU hn hle'
  have hv2 : (v : Int) ≤ 18446744073709551615 := by have := hn.2; simp at this; omega
  have e1 : IntKind.u64.wrap (v : Int) = (v : Int) := wrapu64_in _ (by omega) (by omega)
  have HL := Lib.hid (show leb v 4 = ys from hle')
  clear h ha hb hl hby hlt hn hle' hys hv
  go_enter Try.func69, Try.ntmps69
  go_wp2_with fail
  refine HU.out.mono ?_
  rintro e w1 ⟨rfl, hc1, hm1⟩
  have HC := Lib.hid hc1
  have HM := Lib.hid hm1
  clear hc1 hm1
  go_wp2_with fail
  refine (refPut_any v 4 _ hv2 (by decide)).mono ?_
  rintro e w2 ⟨A2, n2, c2, rfl, ho2, hb2⟩
  rw [HL.out] at ho2
  have HO := Lib.hid ho2
  have HB := Lib.hid hb2
  clear ho2 hb2
  go_wp2
  go_ret
  exact ⟨.inl ⟨A2, n2, c2, rfl, rfl, owns_weak HO.out HM.out.size, HC.out.below HB.out⟩, HM.out.trans (.of_below HB.out)⟩
theorem cstep3 (xs : List Int) (at_ : Nat) (m : Int) : cstep xs at_ 3 m = rbytes xs at_ 8 := by unfold cstep; rw [if_pos (by decide)]; rfl
set_option maxRecDepth 100000 in
set_option maxHeartbeats 1000000 in
theorem asked1_3 {w : World} {p ba bc : Nat} {A : Option Addr} {n c : Nat} {xs : List Int} {at_ : Nat} (m : Int) (h : Cur w p A n c xs at_) (ha : Blk w ba 66 #[.int .u8 3, .int .i64 m]) (hb : Box w bc 51 (.pointer (some ⟨p, 0, none⟩))) :
    Calls Try.prog 69 #[.pointer (some ⟨ba, 0, none⟩), .pointer (some ⟨bc, 0, none⟩)] w (AskG p A n c xs (cstep xs at_ 3 m) w) := by
  have hl := h.rd.len
  have hby := h.bytes
  have hc0 := ha.cell 0
  simp at hc0
  have hcb := cell_of_one hb
  have hle := h.le
  rw [cstep3]
  by_cases hs : n - at_ < 8
  · have HU := Lib.hid (U64_short h hs)
    rw [rbytes_short (by decide) (by rw [hl]; omega)]
    have H := Lib.hid h
    clear h ha hb hl hby
    go_enter Try.func69, Try.ntmps69
    go_wp2_with fail
    refine HU.out.mono ?_
    rintro e w1 ⟨rfl, hb1⟩
    exact ⟨rfl, .inr ⟨1, by decide, rfl, rfl, rfl, H.out.below hb1⟩, .of_below hb1⟩
  have HU := Lib.hid (U64_ok h (by omega))
  rw [show rbytes xs at_ 8 = _ from rbytes_ok (m := 8) (by rw [hl]; omega)]
  have hlt : ((xs.drop at_).take 8).length = 8 := by rw [List.length_take, List.length_drop]; omega
  have hn := num_bd ((hby.drop at_).take 8)
  have hle' := leb_num (xs := (xs.drop at_).take 8) (m := 8) (fun x hx => ((hby.drop at_).take 8) x hx) hlt
  rw [hlt] at hn
  obtain ⟨ys, hys⟩ : ∃ ys, (xs.drop at_).take 8 = ys := ⟨_, rfl⟩
  rw [hys] at HU hn hle' ⊢
  obtain ⟨v, hv⟩ := Int.eq_ofNat_of_zero_le hn.1
  rw [hv] at HU hn hle'
  have hv2 : (v : Int) ≤ 18446744073709551615 := by have := hn.2; simp at this; omega
  have e1 : IntKind.u64.wrap (v : Int) = (v : Int) := wrapu64_in _ (by omega) (by omega)
  have HL := Lib.hid (show leb v 8 = ys from hle')
  clear h ha hb hl hby hlt hn hle' hys hv
  go_enter Try.func69, Try.ntmps69
  go_wp2_with fail
  refine HU.out.mono ?_
  rintro e w1 ⟨rfl, hc1, hm1⟩
  have HC := Lib.hid hc1
  have HM := Lib.hid hm1
  clear hc1 hm1
  go_wp2_with fail
  refine (refPut_any v 8 _ hv2 (by decide)).mono ?_
  rintro e w2 ⟨A2, n2, c2, rfl, ho2, hb2⟩
  rw [HL.out] at ho2
  have HO := Lib.hid ho2
  have HB := Lib.hid hb2
  clear ho2 hb2
  go_wp2
  go_ret
  exact ⟨.inl ⟨A2, n2, c2, rfl, rfl, owns_weak HO.out HM.out.size, HC.out.below HB.out⟩, HM.out.trans (.of_below HB.out)⟩
theorem cstep4 (xs : List Int) (at_ : Nat) (m : Int) : cstep xs at_ 4 m = rbytes xs at_ m := by unfold cstep; rw [if_pos (by decide)]; rfl
set_option maxRecDepth 100000 in
set_option maxHeartbeats 1000000 in
theorem asked1_4 {w : World} {p ba bc : Nat} {A : Option Addr} {n c : Nat} {xs : List Int} {at_ : Nat} (m : Int) (h : Cur w p A n c xs at_) (ha : Blk w ba 66 #[.int .u8 4, .int .i64 m]) (hb : Box w bc 51 (.pointer (some ⟨p, 0, none⟩))) :
    Calls Try.prog 69 #[.pointer (some ⟨ba, 0, none⟩), .pointer (some ⟨bc, 0, none⟩)] w (AskG p A n c xs (cstep xs at_ 4 m) w) := by
  have hl := h.rd.len
  have hc0 := ha.cell 0
  have hc1 := ha.cell 1
  simp at hc0 hc1
  have hcb := cell_of_one hb
  have hle := h.le
  have H := Lib.hid h
  rw [cstep4]
  by_cases h1 : m < 0
  · rw [rbytes_neg h1]
    clear h ha hb hl
    go_enter Try.func69, Try.ntmps69
    go_wp2_with fail
    refine (bytes_neg p m (by omega)).mono ?_
    rintro e w1 ⟨rfl, rfl⟩
    exact ⟨rfl, .inr ⟨4, by decide, rfl, rfl, rfl, H.out⟩, Keep.refl _ _⟩
  by_cases hs : ((n - at_ : Nat) : Int) < m
  · have HU := Lib.hid (bytes_short h m hs)
    rw [rbytes_short h1 (by rw [hl]; omega)]
    clear h ha hb hl
    go_enter Try.func69, Try.ntmps69
    go_wp2_with fail
    refine HU.out.mono ?_
    rintro e w1 ⟨rfl, hb1⟩
    exact ⟨rfl, .inr ⟨1, by decide, rfl, rfl, rfl, H.out.below hb1⟩, .of_below hb1⟩
  obtain ⟨k, rfl⟩ := Int.eq_ofNat_of_zero_le (show 0 ≤ m by omega)
  have HU := Lib.hid (bytes_ok h k (by omega))
  rw [rbytes_ok (m := k) (by rw [hl]; omega)]
  clear h ha hb hl
  go_enter Try.func69, Try.ntmps69
  go_wp2_with fail
  refine HU.out.mono ?_
  rintro e w1 ⟨⟨A2, c2, rfl, ho2⟩, hc2, hm2⟩
  have HO := Lib.hid ho2
  have HC := Lib.hid hc2
  have HM := Lib.hid hm2
  clear ho2 hc2 hm2
  go_wp2
  go_ret
  exact ⟨.inl ⟨A2, k, c2, rfl, rfl, HO.out, HC.out⟩, HM.out⟩
set_option maxRecDepth 100000 in
set_option maxHeartbeats 1000000 in
theorem asked1_5 {w : World} {p ba bc : Nat} {A : Option Addr} {n c : Nat} {xs : List Int} {at_ : Nat} (m : Int) (h : Cur w p A n c xs at_) (ha : Blk w ba 66 #[.int .u8 5, .int .i64 m]) (hb : Box w bc 51 (.pointer (some ⟨p, 0, none⟩))) :
    Calls Try.prog 69 #[.pointer (some ⟨ba, 0, none⟩), .pointer (some ⟨bc, 0, none⟩)] w (AskG p A n c xs (cstep xs at_ 5 m) w) := by
  have hl := h.rd.len
  have hc0 := ha.cell 0
  simp at hc0
  have hcb := cell_of_one hb
  have hle := h.le
  have H := Lib.hid h
  by_cases hs : at_ < n
  · have HU := Lib.hid (end_long h hs)
    rw [show cstep xs at_ 5 m = ([], 2, at_) by unfold cstep; rw [if_neg (by decide), if_pos rfl, if_pos (by omega)]]
    clear h ha hb hl
    go_enter Try.func69, Try.ntmps69
    go_wp2_with fail
    refine HU.out.mono ?_
    rintro e w1 ⟨rfl, hb1⟩
    exact ⟨rfl, .inr ⟨2, by decide, rfl, rfl, rfl, H.out.below hb1⟩, .of_below hb1⟩
  have HU := Lib.hid (end_ok h (by omega))
  rw [show cstep xs at_ 5 m = ([], 0, at_) by unfold cstep; rw [if_neg (by decide), if_pos rfl, if_neg (by omega)]]
  clear h ha hb hl
  go_enter Try.func69, Try.ntmps69
  go_wp2_with fail
  refine HU.out.mono ?_
  rintro e w1 ⟨rfl, hb1⟩
  have HB := Lib.hid hb1
  clear hb1
  go_wp2
  go_ret
  exact ⟨.inl ⟨none, 0, 0, rfl, rfl, owns_nil _ _ _ _, H.out.below HB.out⟩, .of_below HB.out⟩
set_option maxRecDepth 100000 in
set_option maxHeartbeats 1000000 in
theorem asked1_6 {w : World} {p ba bc : Nat} {A : Option Addr} {n c : Nat} {xs : List Int} {at_ : Nat} (d m : Int) (hd : 5 < d) (h : Cur w p A n c xs at_) (ha : Blk w ba 66 #[.int .u8 d, .int .i64 m]) (hb : Box w bc 51 (.pointer (some ⟨p, 0, none⟩))) :
    Calls Try.prog 69 #[.pointer (some ⟨ba, 0, none⟩), .pointer (some ⟨bc, 0, none⟩)] w (AskG p A n c xs (cstep xs at_ d m) w) := by
  have hc0 := ha.cell 0
  simp at hc0
  have H := Lib.hid h
  rw [show cstep xs at_ d m = ([], 0, at_) by unfold cstep; rw [if_neg (by omega), if_neg (by omega)]]
  have f0 : (d == 0) = false := by simp; omega
  have f1 : (d == 1) = false := by simp; omega
  have f2 : (d == 2) = false := by simp; omega
  have f3 : (d == 3) = false := by simp; omega
  have f4 : (d == 4) = false := by simp; omega
  have f5 : (d == 5) = false := by simp; omega
  clear h ha hb hd
  go_enter Try.func69, Try.ntmps69
  go_wp2
  go_ret
  exact ⟨.inl ⟨none, 0, 0, rfl, rfl, owns_nil _ _ _ _, H.out⟩, Keep.refl _ _⟩
theorem asked1_any {w : World} {p ba bc : Nat} {A : Option Addr} {n c : Nat} {xs : List Int} {at_ : Nat} (d m : Int) (hd : 0 ≤ d) (h : Cur w p A n c xs at_) (ha : Blk w ba 66 #[.int .u8 d, .int .i64 m]) (hb : Box w bc 51 (.pointer (some ⟨p, 0, none⟩))) :
    Calls Try.prog 69 #[.pointer (some ⟨ba, 0, none⟩), .pointer (some ⟨bc, 0, none⟩)] w (AskG p A n c xs (cstep xs at_ d m) w) := by
  by_cases h6 : 5 < d
  · exact asked1_6 d m h6 h ha hb
  obtain rfl | rfl | rfl | rfl | rfl | rfl : d = 0 ∨ d = 1 ∨ d = 2 ∨ d = 3 ∨ d = 4 ∨ d = 5 := by omega
  · exact asked1_0 m h ha hb
  · exact asked1_1 m h ha hb
  · exact asked1_2 m h ha hb
  · exact asked1_3 m h ha hb
  · exact asked1_4 m h ha hb
  · exact asked1_5 m h ha hb


/-- what a cursor is asked: what it tells, the error that it throws, where it is then -/
def Asked (p : Nat) (A : Option Addr) (n c : Nat) (xs : List Int) (r : List Int × Int × Nat) (w : World) (e : Ending) (w' : World) : Prop :=
  (∃ A' k c', e = .returned (.tuple #[.slice A' k c', .int .i64 r.2.1]) ∧ Owns w' w.heap.size 5 .u8 A' k c' r.1) ∧ Cur w' p A n c xs r.2.2 ∧ Mod (· = p) w w'
set_option maxRecDepth 100000 in
set_option maxHeartbeats 1000000 in
theorem asked_any {w : World} {p : Nat} {A : Option Addr} {n c : Nat} {xs : List Int} {at_ : Nat} (d m : Int) (hd : 0 ≤ d) (h : Cur w p A n c xs at_) :
    Calls Try.prog 35 #[.pointer (some ⟨p, 0, none⟩), .agg #[.int .u8 d, .int .i64 m]] w (Asked p A n c xs (cstep xs at_ d m) w) := by
  have hmf : ∀ (fn : Fn) (first cap : Array Value) (w : World), (Instr.makeFunc fn first cap).run Try.prog w = .ok (.func fn first cap) w := fun _ _ _ _ => rfl
  obtain ⟨w2, hw2⟩ : ∃ w2, (w.alloc (.cells #[.pointer (some ⟨p, 0, none⟩)] 51)).alloc (.cells #[.int .u8 d, .int .i64 m] 66) = w2 := ⟨_, rfl⟩
  have hb2 : Below w.heap.size w w2 := by rw [← hw2]; exact ((Below.refl _ _).alloc (Nat.le_refl _) _).alloc (by simp) _
  have hs2 : w2.heap.size = w.heap.size + 2 := by rw [← hw2]; simp
  have h0 : Box w2 w.heap.size 51 (.pointer (some ⟨p, 0, none⟩)) := by rw [← hw2]; exact (Box.new _ _ _).alloc _
  have h1 : Blk w2 (w.heap.size + 1) 66 #[.int .u8 d, .int .i64 m] := by
    rw [← hw2]; have := heap_alloc_new (w.alloc (.cells #[.pointer (some ⟨p, 0, none⟩)] 51)) (.cells #[.int .u8 d, .int .i64 m] 66); rwa [World.size_alloc] at this
  have hplt := h.lt
  have eg1 : ∀ args w, (callFunc 69 args).run Try.prog w = .ok (.enter 69 args) w := enters_f Try.func69 (by kernel_rfl) rfl
  have hget := getB_any 69 #[.pointer (some ⟨w.heap.size + 1, 0, none⟩), .pointer (some ⟨w.heap.size, 0, none⟩)] w2 (· = p) (fun k hk => by subst hk; omega) (AskR (w2.heap.size + 3) p A n c xs (cstep xs at_ d m)) (AskS p A n c xs (cstep xs at_ d m)) eg1
    (fun w3 hb3 hs3 => by
      have := asked1_any d m hd (h.below (hb2.trans (hb3.mono (by omega)))) (Blk.keep (S := fun _ _ => True) h1 (.of_below hb3) trivial) (h0.below hb3 (by omega))
      unfold AskG at this
      rwa [hs3] at this)
  have HG := Lib.hid hget
  have HB2 := Lib.hid hb2
  have H := Lib.hid h
  have HS := Lib.hid (And.intro hs2 hplt)
  clear h eg1 h0 h1 hb2 hget hs2 hplt
  go_enter Try.func35, Try.ntmps35
  go_wp2_with fail
  refine HG.out.mono ?_
  rintro e w5 ⟨⟨A', k, c', w4, rfl, ⟨he, hown, hcu⟩, hpast⟩ | ⟨er, w4, her, rfl, ⟨hr, he, hcu⟩, hpast⟩, hm⟩
  · have hm' : Mod (· = p) w w5 := (Keep.of_below HB2.out).trans hm fun k _ h => h
    have hcu' : Cur w5 p A n c xs (cstep xs at_ d m).2.2 := ⟨(hpast.block p (lt_of_block hcu.blk) (.inl (by have := HS.out; omega))).trans hcu.blk, H.out.rd.keep hm'.size fun b hb ⟨o, ho⟩ => hm'.block b hb (fun e => H.out.ne b o ho e), hcu.ne, hcu.le, hcu.small, hcu.bytes⟩
    have HO := Lib.hid (owns_keep hown hpast fun g hg _ => .inr (hown.lt g hg).1)
    have HE := Lib.hid he
    have HC := Lib.hid (And.intro hcu' hm')
    clear hown he hpast hm hcu hm' hcu'
    go_wp2
    go_ret2
    exact ⟨⟨A', k, c', by rw [HE.out]; rfl, owns_weak HO.out (by have := HS.out; omega)⟩, HC.out⟩
  · have hm' : Mod (· = p) w w5 := (Keep.of_below HB2.out).trans hm fun k _ h => h
    have hcu' : Cur w5 p A n c xs (cstep xs at_ d m).2.2 := ⟨(hpast.block p (lt_of_block hcu.blk) (.inl (by have := HS.out; omega))).trans hcu.blk, H.out.rd.keep hm'.size fun b hb ⟨o, ho⟩ => hm'.block b hb (fun e => H.out.ne b o ho e), hcu.ne, hcu.le, hcu.small, hcu.bytes⟩
    have HE := Lib.hid (And.intro hr he)
    have HC := Lib.hid (And.intro hcu' hm')
    clear hr he hpast hm hcu hm' hcu' her
    go_wp2
    go_ret2
    exact ⟨⟨none, 0, 0, by rw [HE.out.2]; rfl, by rw [HE.out.1]; exact owns_nil _ _ _ _⟩, HC.out⟩
end Go.Proofs.Ythpndhdpohmoaaa
