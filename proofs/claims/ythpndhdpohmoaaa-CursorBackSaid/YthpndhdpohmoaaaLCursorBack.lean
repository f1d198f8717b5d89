/-
  CursorBack: for every input the law returns true; the arguments read behind the call as they read before. No condition.
-/
import Derived.Test.YthpndhdpohmoaaaCurB
import Derived.Test.YthpndhdpohmoaaaArr
import Derived.ChangeOld
namespace Go.Cor
theorem leb_mod (v m : Nat) : leb (v % 256 ^ m) m = leb v m := by
  unfold leb
  refine List.map_congr_left fun j hj => ?_
  have hj' : j < m := by simpa using hj
  have e : 256 ^ m = 256 ^ j * 256 ^ (m - j) := by rw [← Nat.pow_add]; congr 1; omega
  rw [e, Nat.mod_mul_right_div_self]
  rw [Nat.mod_mod_of_dvd _ (by rw [show m - j = (m - j - 1) + 1 by omega, Nat.pow_succ]; exact Nat.dvd_mul_left _ _)]
theorem three (u v t : Nat) (ht : (t : Int) ≤ 18446744073709551615) : num ((leb u 2 ++ leb v 4 ++ leb t 8).take 2) = (u : Int) % 65536 ∧ num (((leb u 2 ++ leb v 4 ++ leb t 8).drop 2).take 4) = (v : Int) % 4294967296 ∧
    num (((leb u 2 ++ leb v 4 ++ leb t 8).drop 6).take 8) = (t : Int) := by
  have a := leb_len u 2
  have b := leb_len v 4
  have c := leb_len t 8
  have e1 : (leb u 2 ++ leb v 4 ++ leb t 8).take 2 = leb u 2 := by rw [List.append_assoc, List.take_append_of_le_length (by omega), List.take_of_length_le (by omega)]
  have e2 : ((leb u 2 ++ leb v 4 ++ leb t 8).drop 2).take 4 = leb v 4 := by
    rw [List.append_assoc, List.drop_append_of_le_length (by omega), List.drop_of_length_le (by omega), List.nil_append, List.take_append_of_le_length (by omega), List.take_of_length_le (by omega)]
  have e3 : ((leb u 2 ++ leb v 4 ++ leb t 8).drop 6).take 8 = leb t 8 := by
    rw [List.drop_append, List.drop_of_length_le (by simp; omega), List.nil_append, List.length_append, a, b]
    simp; exact List.take_of_length_le (by omega)
  rw [e1, e2, e3, num_leb, num_leb, num_leb]
  refine ⟨by omega, by omega, by omega⟩
end Go.Cor
namespace Go.Proofs.Ythpndhdpohmoaaa
open Go.RowKit Go.Cor Go.Free

set_option maxRecDepth 100000 in
set_option maxHeartbeats 4000000 in
theorem CursorBack_walk (W : World) (a b c : Int) (fa : Fits .u64 a) (fb : Fits .u64 b) (fc : Fits .u64 c) (k : Int) (hk : Fits .u8 k) :
    Calls Try.prog 6 #[.agg #[.int .u64 a, .int .u64 b, .int .u64 c], .int .u8 k] W fun e w' => e = .returned (.bool true) ∧ Below W.heap.size W w' := by
  have hmf : ∀ (fn : Fn) (first cap : Array Value) (w : World), (Instr.makeFunc fn first cap).run Try.prog w = .ok (.func fn first cap) w := fun _ _ _ _ => rfl
  obtain ⟨u, rfl⟩ := Int.eq_ofNat_of_zero_le fa.1
  obtain ⟨v, rfl⟩ := Int.eq_ofNat_of_zero_le fb.1
  obtain ⟨t, rfl⟩ := Int.eq_ofNat_of_zero_le fc.1
  obtain ⟨k, rfl⟩ := Int.eq_ofNat_of_zero_le hk.1
  have fa := fa.2
  have fb := fb.2
  have fc := fc.2
  have hk := hk.2
  have M2 := leb_mod u 2
  have M4 := leb_mod v 4
  have HM2 := Lib.hid M2
  have HM4 := Lib.hid M4
  have H3 := Lib.hid (three u v t fc)
  clear M2 M4
  go_enter Try.func6, Try.ntmps6
  go_wp2
  obtain ⟨W0, hW0⟩ : ∃ W0, W.alloc (.cells #[.int .u64 u, .int .u64 v, .int .u64 t] 50) = W0 := ⟨_, rfl⟩
  rw [hW0]
  have hN : Blk W0 W.heap.size 50 #[.int .u64 u, .int .u64 v, .int .u64 t] := by rw [← hW0]; exact heap_alloc_new W _
  have hb0 : Below W.heap.size W W0 := by rw [← hW0]; exact (Below.refl _ _).alloc (Nat.le_refl _) _
  have hbl := lt_of_block hN
  have HN := Lib.hid hN
  have HB0 := Lib.hid hb0
  clear hW0 hN hb0
  refine wp_region_free 11 (by kernel_rfl) (by kernel_rfl) ?_
  refine chain_val (.pointer (some ⟨W.heap.size, 0, none⟩)) (S := [2]) rfl ?_ ?_
  · intro ρ w' hE hB hs
    have h2 : ρ (.tmp 2) = .pointer (some ⟨W.heap.size, 0, none⟩) := hs 2 (by decide)
    clear hs
    have hc := hE.const
    refine if_t (by rfl) ?_
    (go_simp <;> exact wrapi64_in _ (by omega) (by omega))
  refine chain_val (.int .u64 (u : Int)) (S := [11]) rfl ?_ ?_
  · intro ρ w' hE hB hs
    have h11 : ρ (.tmp 11) = .pointer (some ⟨W.heap.size, 0, none⟩) := hs 11 (by decide)
    clear hs
    refine if_t (by rfl) ?_
    have hcl := (hB.cell (p := ⟨W.heap.size, 0, none⟩) hbl).trans (HN.out.cell 0)
    simp at hcl
    go_simp
  refine chain_val (.int .u16 ((u % 65536 : Nat) : Int)) (S := [12]) rfl ?_ ?_
  · intro ρ w' hE hB hs
    have h12 : ρ (.tmp 12) = .int .u64 (u : Int) := hs 12 (by decide)
    clear hs
    refine if_t (by rfl) ?_
    go_simp
    rw [wrapu16]
  refine chain_static (RdF .u8 (leb u 2)) (RdF.stable _ _) (S := [13]) rfl (Go.Cor.enters_f Try.func22 (by kernel_rfl) rfl) rfl ?_ ?_
  · intro ρ w' hE hB hs
    have h13 : ρ (.tmp 13) = .int .u16 ((u % 65536 : Nat) : Int) := hs 13 (by decide)
    clear hs
    have hc := hE.const
    refine ⟨(by rfl), ?_⟩
    simp only [List.map_toArray, List.map_cons, List.map_nil, hc, h13]
    refine (Put16_any _ _ _ _ _ _ (Rd.nilv _ _) (by omega) (by omega)).mono ?_
    rintro e w3 ⟨A', n', c', rfl, ho, hb⟩
    have ho2 := ho
    rw [show (65536 : Nat) = 256 ^ 2 by decide, HM2.out, List.nil_append] at ho2
    exact ⟨_, rfl, hb, A', n', c', rfl, Rd.own ho2⟩
  refine chain_val (.pointer (some ⟨W.heap.size, 1, none⟩)) (S := [2]) rfl ?_ ?_
  · intro ρ w' hE hB hs
    have h2 : ρ (.tmp 2) = .pointer (some ⟨W.heap.size, 0, none⟩) := hs 2 (by decide)
    clear hs
    have hc := hE.const
    refine if_t (by rfl) ?_
    (go_simp <;> exact wrapi64_in _ (by omega) (by omega))
  refine chain_val (.int .u64 (v : Int)) (S := [15]) rfl ?_ ?_
  · intro ρ w' hE hB hs
    have h15 : ρ (.tmp 15) = .pointer (some ⟨W.heap.size, 1, none⟩) := hs 15 (by decide)
    clear hs
    refine if_t (by rfl) ?_
    have hcl := (hB.cell (p := ⟨W.heap.size, 1, none⟩) hbl).trans (HN.out.cell 1)
    simp at hcl
    go_simp
  refine chain_val (.int .u32 ((v % 4294967296 : Nat) : Int)) (S := [16]) rfl ?_ ?_
  · intro ρ w' hE hB hs
    have h16 : ρ (.tmp 16) = .int .u64 (v : Int) := hs 16 (by decide)
    clear hs
    refine if_t (by rfl) ?_
    go_simp
    rw [wrapu32]
  refine chain_static (RdF .u8 (leb u 2 ++ leb v 4)) (RdF.stable _ _) (S := [14, 17]) rfl (Go.Cor.enters_f Try.func24 (by kernel_rfl) rfl) rfl ?_ ?_
  · intro ρ w' hE hB hs
    have h14 : (RdF .u8 (leb u 2)) (ρ (.tmp 14)) w' := hs 14 (by decide)
    have h17 : ρ (.tmp 17) = .int .u32 ((v % 4294967296 : Nat) : Int) := hs 17 (by decide)
    clear hs
    obtain ⟨A14, n14, c14, e14, r14⟩ := h14
    refine ⟨(by rfl), ?_⟩
    simp only [List.map_toArray, List.map_cons, List.map_nil, e14, h17]
    have hl14 := r14.len
    rw [leb_len] at hl14
    refine (Put32_any _ _ _ _ _ _ r14 (by omega) (by omega)).mono ?_
    rintro e w3 ⟨A', n', c', rfl, ho, hb⟩
    have ho2 := ho
    rw [show (4294967296 : Nat) = 256 ^ 4 by decide, HM4.out] at ho2
    exact ⟨_, rfl, hb, A', n', c', rfl, Rd.own ho2⟩
  refine chain_val (.pointer (some ⟨W.heap.size, 2, none⟩)) (S := [2]) rfl ?_ ?_
  · intro ρ w' hE hB hs
    have h2 : ρ (.tmp 2) = .pointer (some ⟨W.heap.size, 0, none⟩) := hs 2 (by decide)
    clear hs
    have hc := hE.const
    refine if_t (by rfl) ?_
    (go_simp <;> exact wrapi64_in _ (by omega) (by omega))
  refine chain_val (.int .u64 (t : Int)) (S := [19]) rfl ?_ ?_
  · intro ρ w' hE hB hs
    have h19 : ρ (.tmp 19) = .pointer (some ⟨W.heap.size, 2, none⟩) := hs 19 (by decide)
    clear hs
    refine if_t (by rfl) ?_
    have hcl := (hB.cell (p := ⟨W.heap.size, 2, none⟩) hbl).trans (HN.out.cell 2)
    simp at hcl
    go_simp
  refine chain_static (RdF .u8 (leb u 2 ++ leb v 4 ++ leb t 8)) (RdF.stable _ _) (S := [18, 20]) rfl (Go.Cor.enters_f Try.func25 (by kernel_rfl) rfl) rfl ?_ ?_
  · intro ρ w' hE hB hs
    have h18 : (RdF .u8 (leb u 2 ++ leb v 4)) (ρ (.tmp 18)) w' := hs 18 (by decide)
    have h20 : ρ (.tmp 20) = .int .u64 (t : Int) := hs 20 (by decide)
    clear hs
    obtain ⟨A18, n18, c18, e18, r18⟩ := h18
    refine ⟨(by rfl), ?_⟩
    simp only [List.map_toArray, List.map_cons, List.map_nil, e18, h20]
    have hl18 := r18.len
    rw [List.length_append, leb_len, leb_len] at hl18
    refine (Put64_any _ _ _ _ _ _ r18 (by omega) fc).mono ?_
    rintro e w3 ⟨A', n', c', rfl, ho, hb⟩
    exact ⟨_, rfl, hb, A', n', c', rfl, Rd.own ho⟩
  intro w1 hB1
  simp only [List.reverse_cons, List.reverse_nil, List.nil_append, List.cons_append, Go.Free.Ends, forall_eq, Act.put, List.setIfInBounds_toArray, List.set_cons_zero, List.set_cons_succ]
  rintro _ _ _ _ _ ⟨A, n, cp, rfl, hr⟩
  have hby : By (leb u 2 ++ leb v 4 ++ leb t 8) := by
    intro x hx
    rw [List.mem_append, List.mem_append] at hx
    rcases hx with (hx | hx) | hx <;> exact leb_bytes _ _ x hx
  have hn := hr.len
  rw [List.length_append, List.length_append, leb_len, leb_len, leb_len] at hn
  obtain ⟨xs, hxs⟩ : ∃ xs, leb u 2 ++ leb v 4 ++ leb t 8 = xs := ⟨_, rfl⟩
  rw [hxs] at hr hby H3
  obtain rfl : n = 14 := hn.symm
  have HR := Lib.hid hr
  have HBY := Lib.hid hby
  have HN1 := Lib.hid (Blk.keep (S := fun _ _ => True) HN.out (.of_below hB1) trivial)
  have HB1 := Lib.hid (HB0.out.trans (hB1.mono HB0.out.size))
  have hsz1 := hB1.size
  clear hr hby hn hxs hB1 HN HB0 hbl
  go_wp2_with fail
  refine (new_any A 14 cp xs w1 HR.out (by decide) HBY.out).mono ?_
  rintro e w2 ⟨p, A2, c2, rfl, hcu, hb2, hpp, hA2⟩
  have hplt := hcu.lt
  have HPL := Lib.hid (And.intro hplt hpp)
  have hWlt := lt_of_block HN1.out
  have HWL := Lib.hid hWlt
  obtain ⟨w3, hw3⟩ : ∃ w3, (w2.alloc (.cells #[.pointer (some ⟨p, 0, none⟩)] 51)).alloc (.cells #[.int .u64 0, .int .u64 0, .int .u64 0] 50) = w3 := ⟨_, rfl⟩
  have hb3 : Below w2.heap.size w2 w3 := by rw [← hw3]; exact ((Below.refl _ _).alloc (Nat.le_refl _) _).alloc (by simp) _
  have hs3 : w3.heap.size = w2.heap.size + 2 := by rw [← hw3]; simp
  have hbc : Box w3 w2.heap.size 51 (.pointer (some ⟨p, 0, none⟩)) := by rw [← hw3]; exact (Box.new _ _ _).alloc _
  have hba : Blk w3 (w2.heap.size + 1) 50 #[.int .u64 0, .int .u64 0, .int .u64 0] := by
    rw [← hw3]; have := heap_alloc_new (w2.alloc (.cells #[.pointer (some ⟨p, 0, none⟩)] 51)) (.cells #[.int .u64 0, .int .u64 0, .int .u64 0] 50); rwa [World.size_alloc] at this
  have hc3 := hcu.below hb3
  obtain ⟨w4, hw4⟩ : ∃ w4, w3.alloc (.cells #[.int .i64 0] 53) = w4 := ⟨_, rfl⟩
  have hb4 : Below w3.heap.size w3 w4 := by rw [← hw4]; exact (Below.refl _ _).alloc (Nat.le_refl _) _
  have hbx4 : Box w4 w3.heap.size 53 (.int .i64 0) := by rw [← hw4]; exact Box.new _ _ _
  have hdo := back1 (hc3.below hb4) (hbc.below hb4 (by omega)) (Blk.keep (S := fun _ _ => True) hba (.of_below hb4) trivial) (by omega) (by omega) (by omega) (by
    rintro b o e
    obtain ⟨b', o', e', hlt, _⟩ := hcu.rd.get (by omega)
    rw [e] at e'; injection e' with e'; injection e' with e1 e2; omega)
  rw [H3.out.1, H3.out.2.1, H3.out.2.2] at hdo
  have HDO := Lib.hid hdo
  have HBX4 := Lib.hid hbx4
  have HW4 := Lib.hid hw4
  have HS3 := Lib.hid hs3
  have HB3 := Lib.hid (HB1.out.trans ((hb2.trans (hb3.mono hb2.size)).mono HB1.out.size))
  have HN3 := Lib.hid (Blk.keep (S := fun _ _ => True) HN1.out (.of_below (hb2.trans (hb3.mono hb2.size))) trivial)
  have HB13 := Lib.hid (hb2.trans (hb3.mono hb2.size))
  have e0 : ∀ w : World, (binOp BinOp.eql 51 (.pointer (some ⟨p, 0, none⟩)) (.pointer none)).run Try.prog w = .ok (.bool false) w := fun _ => rfl
  have hcell : (w2.alloc (.cells #[.pointer (some ⟨p, 0, none⟩)] 51)).cell? ⟨w2.heap.size, 0, none⟩ = some (.pointer (some ⟨p, 0, none⟩)) := cell_of_one (Box.new _ _ _)
  have HE1 : Hid (∀ args w, (callFunc 29 args).run Try.prog w = .ok (.enter 29 args) w) := enters_f Try.func29 (by kernel_rfl) rfl
  have HE2 : Hid (∀ args w, (callFunc 34 args).run Try.prog w = .ok (.enter 34 args) w) := enters_f Try.func34 (by kernel_rfl) rfl
  clear hcu hb2 hpp hA2 hplt hb3 hs3 hbc hba hc3 hb4 hbx4 hw4 hdo hsz1 hWlt HN1 HB1
  go_wp2_with fail
  refine (try_any _ _ w3 _ HE1.out (by rw [HW4.out]; exact HDO.out) ?_).mono ?_
  · rintro n w5 ⟨_, _, hm⟩
    exact HBX4.out.keep hm (by have := HPL.out.1; have := HS3.out; omega)
  rintro e w6 ⟨_, w5, ⟨rfl, harr, hm⟩, rfl, hk6⟩
  rw [← HW4.out] at hm
  have hm6 := Mod.tried hm hk6
  have hN6 := Blk.keep HN3.out hm6 (by have := HPL.out; have := HWL.out; omega)
  have hA6 := Blk.keep harr hk6 (by have := HS3.out; simp; omega)
  have hb6 : Below w1.heap.size w3 w6 := hm6.below (by have := HPL.out; have := HS3.out; omega) (by rintro k (rfl | rfl) <;> (have := HPL.out; omega))
  have HB6 := Lib.hid (HB3.out.trans (hb6.mono (by have := HWL.out; omega)))
  have HR6 := Lib.hid (HR.out.below (HB13.out.trans hb6))
  have HA6 := Lib.hid hA6
  have HN6 := Lib.hid hN6
  clear hm hm6 hk6 harr hb6 hA6 hN6 HB13 HDO HW4 HN3 HE1 hcell HBX4
  go_wp2_with ((refine wpList_slice_h (o := ⟨some 35, _, _, _, _, _⟩) rfl rfl elemU8 HR6.out rfl (kh := .i64) (j := k % 14) rfl (by omega) ?_; intro hrd; have HRD := Lib.hid hrd; clear hrd))
  refine (new_any A (k % 14) cp _ w6 HRD.out (by omega) (HBY.out.take _)).mono ?_
  rintro e w7 ⟨q, A7, c7, rfl, hcu, hb7, hq, hA7⟩
  have hqlt := hcu.lt
  obtain ⟨w8, hw8⟩ : ∃ w8, w7.alloc (.cells #[.pointer (some ⟨q, 0, none⟩)] 51) = w8 := ⟨_, rfl⟩
  have hb8 : Below w7.heap.size w7 w8 := by rw [← hw8]; exact (Below.refl _ _).alloc (Nat.le_refl _) _
  have hbd : Box w8 w7.heap.size 51 (.pointer (some ⟨q, 0, none⟩)) := by rw [← hw8]; exact Box.new _ _ _
  have hb68 : Below w6.heap.size w6 w8 := hb7.trans (hb8.mono hb7.size)
  have hlen8 : w8.heap.size = w7.heap.size + 1 := by rw [← hw8]; simp
  have hcu8 := hcu.below hb8
  have hdo := back2 (hcu8.alloc' (.cells #[.int .i64 0] 53)) (hbd.alloc (.cells #[.int .i64 0] 53)) (by omega) (by omega)
  have HDO := Lib.hid hdo
  have HQ := Lib.hid (And.intro hq hqlt)
  have HLT := Lib.hid (And.intro (lt_of_block HA6.out) (lt_of_block HN6.out))
  have HL8 := Lib.hid (And.intro hlen8 hb7.size)
  have HA8 := Lib.hid (Blk.keep (S := fun _ _ => True) HA6.out (.of_below hb68) trivial)
  have HN8 := Lib.hid (Blk.keep (S := fun _ _ => True) HN6.out (.of_below hb68) trivial)
  have HB8 := Lib.hid (HB6.out.trans (hb68.mono HB6.out.size))
  clear hcu hb7 hq hA7 hqlt hb8 hbd hb68 hlen8 hcu8 hdo HA6 HN6 HB6 HRD HR6
  go_wp2_with fail
  refine (try_any _ _ w8 _ HE2.out HDO.out ?_).mono ?_
  · rintro n w9 ⟨_, hm⟩
    exact (Box.new _ _ _).keep hm (by have := HQ.out.2; have := HL8.out; omega)
  rintro e w9 ⟨_, w5, ⟨rfl, hm⟩, rfl, hk9⟩
  have hm9 := Mod.tried hm hk9
  have hA9 := Blk.keep HA8.out hm9 (by have := HQ.out.1; have := HLT.out.1; omega)
  have hN9 := Blk.keep HN8.out hm9 (by have := HQ.out.1; have := HLT.out.2; omega)
  have HB9 := Lib.hid (HB8.out.trans (hm9.below HB8.out.size (by rintro k rfl; have := HQ.out.1; have := HLT.out.2; omega)))
  have a0 := hA9.cell 0
  have a1 := hA9.cell 1
  have a2 := hA9.cell 2
  have n0 := hN9.cell 0
  have n1 := hN9.cell 1
  have n2 := hN9.cell 2
  simp at a0 a1 a2 n0 n1 n2
  have s1 : W.heap.size < w9.heap.size := lt_of_block hN9
  have s2 : w2.heap.size + 1 < w9.heap.size := lt_of_block hA9
  clear hm hk9 hm9 hA9 hN9 HB8 HA8 HN8 HL8 HQ HDO hw8 HE2
  have e1 : IntKind.u16.wrap (u : Int) = (u : Int) % 65536 := wrapu16 _
  have e2 : IntKind.u64.wrap ((u : Int) % 65536) = (u : Int) % 65536 := wrapu64_in _ (by omega) (by omega)
  have e3 : IntKind.u32.wrap (v : Int) = (v : Int) % 4294967296 := wrapu32 _
  have e4 : IntKind.u64.wrap ((v : Int) % 4294967296) = (v : Int) % 4294967296 := wrapu64_in _ (by omega) (by omega)
  go_wp2_with fail
  refine (awake03 _).mono ?_
  rintro e w10 ⟨rfl, hb10⟩
  have HB10 := Lib.hid (HB9.out.trans (hb10.mono HB9.out.size))
  clear hb10
  go_wp2
  go_ret
  exact ⟨rfl, HB10.out⟩

namespace cursorBack
open Go.ChangeShapes Go.WideShapes Go.ChangeAt Go.RowKit Go.Cor
set_option linter.unusedVariables false

set_option maxRecDepth 100000 in
theorem lifted (os : Os) (started : os.Started) (H : Type) (enc : TypeId × Value → H) :
    ReturnsInHanded {} Try.checked os 6 .any (Rows.cursorBackSpec.pre6 enc Try.prog Try.f6 Rows.cursorBackRow.domain false) (Rows.cursorBackSpec.post enc Try.prog Try.f6 false true false false) := by
  refine returnsInHanded_of_change (C := Try.checked) (by kernel_rfl : ownKnob Try.prog.godebug = none) started (by kernel_rfl) Try.func6
    (ChangeSpec.witness6 (enc := enc) (C := Try.checked) false ⟨#[], #[.agg #[.int .u64 0, .int .u64 0, .int .u64 0], .int .u8 0], []⟩ 8 (by kernel_rfl) (by kernel_rfl) (by kernel_rfl) (by kernel_rfl)) ?_
  intro W base args ds gs before hval0 hW hcnd _
  have hval : ∀ (j : Nat) t v, Try.f6.params[j]? = some t → args[j]? = some v → Value.okWide Try.prog W .any base t v := hval0
  have hW' := hW
  obtain ⟨p, q, hA0, hV, rfl, hfz, hnd⟩ := hW
  have hA : DataW.TrodAll enc Try.prog W 0 (fun _ => true) true Try.f6.params.toList args.toList ds p := hA0
  rw [Try.params6] at hA hval
  obtain ⟨v0, vs0, d0, ds0, p0, q0, hargs, rfl, rfl, h0, r0⟩ := trodAll_cons hA
  obtain ⟨v1, vs1, d1, ds1, p1, q1, rfl, rfl, rfl, h1, r1⟩ := trodAll_cons r0
  obtain ⟨rfl, rfl, rfl⟩ := trodAll_nil r1
  obtain rfl : args = #[v0, v1] := by cases args; simp_all
  obtain ⟨rfl, rfl⟩ := trodVars_none hV
  have k0 := h0
  have lt0 : ∀ x ∈ p0, x.block < W.heap.size := by obtain ⟨m, hm⟩ := k0; exact DataW.trod_lt m _ _ _ hm
  obtain ⟨a0, b0, c0, rfl, fa0, fb0, fc0⟩ := open_arr3 Try.underlying50 Try.underlying42 (by kernel_rfl) (by kernel_rfl) (hval 0 50 v0 rfl rfl) h0
  obtain ⟨a1, rfl, rfl, rfl, w1⟩ := open_int Try.underlying5 (hval 1 5 v1 rfl rfl) h1
  clear hA0 hval0
  refine (CursorBack_walk W a0 b0 c0 fa0 fb0 fc0 a1 (fits_of_wf w1)).mono fun e W' ⟨he, bel⟩ => ?_
  subst he
  exact ⟨_, rfl, _, _, _, [], _, [], hW', trodAll_mk1 (shut_bool Try.underlying4 _), (trodAll_cons_mk (Below.trod (by kernel_rfl : laidOutB Try.prog = true) (by kernel_rfl) (of_decide_eq_true (by kernel_rfl)) k0 bel lt0) (trodAll_cons_mk (shut_int Try.underlying5 w1) trodAll_mk0)), rfl, bel.frame _, fun h => by cases h⟩

theorem proved : Rows.CursorBackSaid :=
  OpenClaim.holds_of_wide 6 Try.f6 rfl rfl rfl rfl rfl rfl rfl ⟨rfl, rfl, rfl, rfl, rfl⟩ rfl rfl rfl rfl rfl (by kernel_rfl) Try.func6 (by kernel_rfl)
    (of_decide_eq_true (by kernel_rfl)) (by unfold Func.isWrapper; first | (rw [if_pos (by decide +kernel)]; kernel_rfl) | (rw [if_neg (by decide +kernel)]; exact ⟨rfl, rfl⟩))
    (fun os started H enc _ => lifted os started H enc)
#print axioms proved
end cursorBack
end Go.Proofs.Ythpndhdpohmoaaa
