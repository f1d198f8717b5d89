/-
  Chapter 3: what the law CursorBack tries.
-/
import Derived.Test.YthpndhdpohmoaaaCurP
import Derived.Lib.SmallJoins
namespace Go.Cor
open Go Go.RowKit
theorem num_leb (v m : Nat) : num (leb v m) = ((v % 256 ^ m : Nat) : Int) := by
  induction m with
  | zero => simp [leb, num, Nat.mod_one]
  | succ m ih =>
    rw [← leb_snoc, num_snoc, ih, leb_len, Nat.pow_succ, Nat.mod_mul]
    simp
/-- a block of cells that is known whole -/
abbrev Blk (w : World) (b : Nat) (t : TypeId) (cs : Array Value) : Prop := w.heap[b]? = some (.cells cs t (0, 0))
theorem Blk.keep {S : World → Nat → Prop} {w w' : World} {b : Nat} {t : TypeId} {cs : Array Value} (h : Blk w b t cs) (hk : Keep S w w') (hs : S w b) : Blk w' b t cs := (hk.block b (lt_of_block h) hs).trans h
theorem Blk.cell {w : World} {b : Nat} {t : TypeId} {cs : Array Value} (h : Blk w b t cs) (i : Nat) : w.cell? ⟨b, i, none⟩ = cs[i]? := by simp [World.cell?, h]
theorem Blk.free {w : World} {b : Nat} {t : TypeId} {cs : Array Value} (h : Blk w b t cs) (i : Nat) : w.frozen? ⟨b, i, none⟩ = false := by simp [World.frozen?, h]
end Go.Cor
namespace Go.Proofs.Ythpndhdpohmoaaa
open Go.RowKit Go.Cor Go.Free

set_option maxRecDepth 100000 in
set_option maxHeartbeats 2000000 in
theorem back1 {w : World} {p bc ba : Nat} {A : Option Addr} {c : Nat} {xs : List Int} (h : Cur w p A 14 c xs 0) (hb : Box w bc 51 (.pointer (some ⟨p, 0, none⟩))) (ha : Blk w ba 50 #[.int .u64 0, .int .u64 0, .int .u64 0])
    (n1 : ba ≠ p) (n2 : bc ≠ p) (n3 : bc ≠ ba) (n4 : ∀ b o, A = some ⟨b, o, none⟩ → b ≠ ba) :
    Calls Try.prog 29 #[.pointer (some ⟨bc, 0, none⟩), .pointer (some ⟨ba, 0, none⟩)] w
      (Tried fun n w1 => n = 0 ∧ Blk w1 ba 50 #[.int .u64 (num (xs.take 2)), .int .u64 (num ((xs.drop 2).take 4)), .int .u64 (num ((xs.drop 6).take 8))] ∧ Mod (fun k => k = p ∨ k = ba) w w1) := by
  have hbp := h.ne
  have hby := h.bytes
  have hlen := h.rd.len
  have N := Lib.hid (And.intro n1 (And.intro n2 (And.intro n3 (And.intro n4 (And.intro hbp (And.intro hby hlen))))))
  have hcb := cell_of_one hb
  have HU := Lib.hid (U16_ok h (by omega))
  have HB := Lib.hid hb
  have HA := Lib.hid ha
  obtain ⟨x0, hx0⟩ : ∃ x0, num (xs.take 2) = x0 := ⟨_, rfl⟩
  obtain ⟨x1, hx1⟩ : ∃ x1, num ((xs.drop 2).take 4) = x1 := ⟨_, rfl⟩
  obtain ⟨x2, hx2⟩ : ∃ x2, num ((xs.drop 6).take 8) = x2 := ⟨_, rfl⟩
  have b0 := num_bd (hby.take 2)
  have b1 := num_bd ((hby.drop 2).take 4)
  rw [hx0, List.length_take, hlen] at b0
  rw [hx1, List.length_take, List.length_drop, hlen] at b1
  obtain ⟨b00, b01⟩ := b0
  obtain ⟨b10, b11⟩ := b1
  simp at b01 b11
  rw [List.drop_zero, hx0] at HU
  rw [hx0, hx1, hx2]
  have X := Lib.hid (And.intro hx1 hx2)
  clear h hb ha n1 n2 n3 n4 hbp hby hlen hx0 hx1 hx2
  go_enter Try.func29, Try.ntmps29
  go_wp2_with fail
  refine HU.out.mono ?_
  rintro e w1 ⟨rfl, hc1, hm1⟩
  have ha1 := HA.out.keep hm1 N.out.1
  have hb1 := HB.out.keep hm1 N.out.2.1
  have hcb1 := cell_of_one hb1
  have f0 := ha1.free 0
  have k0 := ha1.cell 0
  simp at k0
  -- the world behind the first store
  obtain ⟨w1', hw1⟩ : ∃ w1', w1.setCell ⟨ba, 0, none⟩ (.int .u64 x0) = w1' := ⟨_, rfl⟩
  have ha1' := Joins.block_setCell (i := 0) ha1 (.int .u64 x0)
  have hb1' := hb1.far (p := ⟨ba, 0, none⟩) N.out.2.2.1 (.int .u64 x0)
  have hc1' := hc1.keep (S := fun _ k => k ≠ ba) (.setCell w1 (p := ⟨ba, 0, none⟩) (by simp) (.int .u64 x0)) N.out.1.symm (fun b o e => N.out.2.2.2.1 b o e)
  have hm1' : Mod (fun k => k = p ∨ k = ba) w w1' := by rw [← hw1]; exact Mod.trans (hm1.weak fun k _ h e => h (.inl e)) (.setCell w1 (p := ⟨ba, 0, none⟩) (by simp) (.int .u64 x0))
  rw [hw1] at ha1' hb1' hc1'
  have HA1 := Lib.hid ha1'
  have HB1 := Lib.hid hb1'
  have HM1 := Lib.hid hm1'
  have hu1 := U32_ok hc1' (by omega)
  rw [show 0 + 2 = 2 from rfl, X.out.1] at hu1
  have HU1 := Lib.hid hu1
  have hcb1' := cell_of_one hb1'
  clear ha1 hb1 hcb ha1' hb1' hc1 hc1' hm1 hm1' HU HA HB hu1
  go_wp2_with fail
  refine HU1.out.mono ?_
  rintro e w2 ⟨rfl, hc2, hm2⟩
  have ha2 := Blk.keep HA1.out hm2 N.out.1
  have hb2 := HB1.out.keep hm2 N.out.2.1
  have hcb2 := cell_of_one hb2
  have f2 := ha2.free 1
  have k2 := ha2.cell 1
  simp at k2
  obtain ⟨w2', hw2⟩ : ∃ w2', w2.setCell ⟨ba, 1, none⟩ (.int .u64 x1) = w2' := ⟨_, rfl⟩
  have ha2' := Joins.block_setCell (i := 1) ha2 (.int .u64 x1)
  have hb2' := hb2.far (p := ⟨ba, 1, none⟩) N.out.2.2.1 (.int .u64 x1)
  have hc2' := hc2.keep (S := fun _ k => k ≠ ba) (.setCell w2 (p := ⟨ba, 1, none⟩) (by simp) (.int .u64 x1)) N.out.1.symm (fun b o e => N.out.2.2.2.1 b o e)
  have hm2' : Mod (fun k => k = p ∨ k = ba) w w2' := by rw [← hw2]; exact Mod.trans (Mod.trans HM1.out (hm2.weak fun k _ h e => h (.inl e))) (.setCell w2 (p := ⟨ba, 1, none⟩) (by simp) (.int .u64 x1))
  rw [hw2] at ha2' hb2' hc2'
  have HA2 := Lib.hid ha2'
  have HB2 := Lib.hid hb2'
  have HM2 := Lib.hid hm2'
  have hu2 := U64_ok hc2' (by omega)
  rw [show 2 + 4 = 6 from rfl, X.out.2] at hu2
  have HU2 := Lib.hid hu2
  have hcb2' := cell_of_one hb2'
  clear f0 k0 hcb1 hcb1' hw1 ha2 hb2 ha2' hb2' hc2 hc2' hm2 hm2' HU1 HA1 HB1 hu2
  go_wp2_with fail
  refine HU2.out.mono ?_
  rintro e w3 ⟨rfl, hc3, hm3⟩
  have ha3 := Blk.keep HA2.out hm3 N.out.1
  have hb3 := HB2.out.keep hm3 N.out.2.1
  have f3 := ha3.free 2
  have k3 := ha3.cell 2
  simp at k3
  obtain ⟨w3', hw3⟩ : ∃ w3', w3.setCell ⟨ba, 2, none⟩ (.int .u64 x2) = w3' := ⟨_, rfl⟩
  have ha3' := Joins.block_setCell (i := 2) ha3 (.int .u64 x2)
  have hb3' := hb3.far (p := ⟨ba, 2, none⟩) N.out.2.2.1 (.int .u64 x2)
  have hc3' := hc3.keep (S := fun _ k => k ≠ ba) (.setCell w3 (p := ⟨ba, 2, none⟩) (by simp) (.int .u64 x2)) N.out.1.symm (fun b o e => N.out.2.2.2.1 b o e)
  have hm3' : Mod (fun k => k = p ∨ k = ba) w w3' := by rw [← hw3]; exact Mod.trans (Mod.trans HM2.out (hm3.weak fun k _ h e => h (.inl e))) (.setCell w3 (p := ⟨ba, 2, none⟩) (by simp) (.int .u64 x2))
  rw [hw3] at ha3' hb3' hc3'
  have HA3 := Lib.hid ha3'
  have HM3 := Lib.hid hm3'
  have HU3 := Lib.hid (end_ok hc3' rfl)
  have hcb3' := cell_of_one hb3'
  clear f2 k2 hcb2 hcb2' hw2 ha3 hb3 ha3' hb3' hc3 hc3' hm3 hm3' HU2 HA2 HB2
  go_wp2_with fail
  refine HU3.out.mono ?_
  rintro e w4 ⟨rfl, hb4⟩
  have HB4 := Lib.hid hb4
  clear hb4
  go_wp2
  go_end0
  exact ⟨0, ⟨rfl, Blk.keep (S := fun _ _ => True) HA3.out (.of_below HB4.out) trivial, Mod.trans HM3.out (.of_below HB4.out)⟩, .inl ⟨rfl, rfl⟩⟩

/-- a cut: something is thrown -/
theorem back2 {w : World} {p bc m : Nat} {A : Option Addr} {c : Nat} {xs : List Int} (h : Cur w p A m c xs 0) (hb : Box w bc 51 (.pointer (some ⟨p, 0, none⟩))) (n2 : bc ≠ p) (hm : m < 14) :
    Calls Try.prog 34 #[.pointer (some ⟨bc, 0, none⟩)] w (Tried fun n w1 => n = 1 ∧ Mod (· = p) w w1) := by
  have hcb := cell_of_one hb
  have HB := Lib.hid hb
  by_cases h1 : m < 2
  · have HU := Lib.hid (U16_short h (by omega))
    clear h hb
    go_enter Try.func34, Try.ntmps34
    go_wp2_with fail
    refine HU.out.mono ?_
    rintro e w1 ⟨rfl, hb1⟩
    exact ⟨rfl, 1, ⟨rfl, .of_below hb1⟩, .inr ⟨by decide, rfl⟩⟩
  have HU := Lib.hid (U16_ok h (by omega))
  obtain ⟨y0, hy0⟩ : ∃ y0, num ((xs.drop 0).take 2) = y0 := ⟨_, rfl⟩
  rw [hy0] at HU
  clear h hb hy0
  by_cases h2 : m < 6
  · go_enter Try.func34, Try.ntmps34
    go_wp2_with fail
    refine HU.out.mono ?_
    rintro e w1 ⟨rfl, hc1, hm1⟩
    have hcb1 := cell_of_one (HB.out.keep hm1 n2)
    have HU2 := Lib.hid (U32_short hc1 (by omega))
    have HM := Lib.hid hm1
    clear hc1 hm1
    go_wp2_with fail
    refine HU2.out.mono ?_
    rintro e w2 ⟨rfl, hb2⟩
    exact ⟨rfl, 1, ⟨rfl, HM.out.trans (.of_below hb2)⟩, .inr ⟨by decide, rfl⟩⟩
  · go_enter Try.func34, Try.ntmps34
    go_wp2_with fail
    refine HU.out.mono ?_
    rintro e w1 ⟨rfl, hc1, hm1⟩
    have hb1 := HB.out.keep hm1 n2
    have hcb1 := cell_of_one hb1
    have HB1 := Lib.hid hb1
    have HU2 := Lib.hid (U32_ok hc1 (by omega))
    have HM := Lib.hid hm1
    obtain ⟨y1, hy1⟩ : ∃ y1, num ((xs.drop (0 + 2)).take 4) = y1 := ⟨_, rfl⟩
    rw [hy1] at HU2
    clear hc1 hm1 hb1 hy1
    go_wp2_with fail
    refine HU2.out.mono ?_
    rintro e w2 ⟨rfl, hc2, hm2⟩
    have hcb2 := cell_of_one (HB1.out.keep hm2 n2)
    have HU3 := Lib.hid (U64_short hc2 (by omega))
    have HM2 := Lib.hid (HM.out.trans hm2)
    clear hc2 hm2
    go_wp2_with fail
    refine HU3.out.mono ?_
    rintro e w3 ⟨rfl, hb3⟩
    exact ⟨rfl, 1, ⟨rfl, HM2.out.trans (.of_below hb3)⟩, .inr ⟨by decide, rfl⟩⟩
end Go.Proofs.Ythpndhdpohmoaaa
