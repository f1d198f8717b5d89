/-
  Chapter 25: Store, the program's and the reference's.
-/
import Derived.Test.YthpndhdpohmoaaaZoneW
namespace Go.Cor
open Go Go.RowKit
/-- the four cells of a zone of a row -/
theorem rdZ_at {w : World} {b o n c i : Nat} {zs : List Zn} (h : RdZ w (some ⟨b, o, none⟩) n c zs) (hi : i < zs.length) : ∃ z1 z2 z3 z4, zs[i]? = some ⟨z1, z2, z3, z4⟩ ∧ w.cell? ⟨b, o + i * 4, none⟩ = some (.int .i64 z1) ∧ w.cell? ⟨b, o + i * 4 + 1, none⟩ = some (.int .i64 z2) ∧ w.cell? ⟨b, o + i * 4 + 2, none⟩ = some (.int .i64 z3) ∧ w.cell? ⟨b, o + i * 4 + 3, none⟩ = some (.int .i64 z4) := by
  have hz : zs[i]? = some zs[i] := List.getElem?_eq_getElem hi
  have h0 := RdZ.cell h hz (show 0 < 4 by decide)
  have h1 := RdZ.cell h hz (show 1 < 4 by decide)
  have h2 := RdZ.cell h hz (show 2 < 4 by decide)
  have h3 := RdZ.cell h hz (show 3 < 4 by decide)
  obtain ⟨z, hzz⟩ : ∃ z, zs[i] = z := ⟨_, rfl⟩
  rw [hzz] at h0 h1 h2 h3 hz
  obtain ⟨z1, z2, z3, z4⟩ := z
  exact ⟨z1, z2, z3, z4, hz, h0, h1, h2, h3⟩
theorem rdZ_len {w : World} {A : Option Addr} {n c : Nat} {zs : List Zn} (h : RdZ w A n c zs) : zs.length = n := by have := h.len; rw [zcells_len] at this; omega
theorem take_snoc' {α : Type} {l : List α} {i : Nat} {z : α} (h : l[i]? = some z) : l.take (i + 1) = l.take i ++ [z] := by rw [List.take_add_one, h]; rfl
/-- what Store hands out, of these bytes and this error -/
def ZStore (B : Nat) (E : TypeId) (w : World) (zs : List Zn) (e : Ending) (w' : World) : Prop :=
  ∃ A m c, e = .returned (.tuple #[.slice A m c, .int .i64 (zstore zs).2]) ∧ Owns w' B E .u8 A m c (zstore zs).1 ∧ Below B w w'
theorem zstore_bad {zs : List Zn} {i : Nat} {z : Zn} (h : zs[i]? = some z) (hr : zright z = false) : zstore zs = ([], 4) := by
  unfold zstore
  rw [if_neg]
  intro h2
  have := List.all_eq_true.1 h2 z (List.mem_of_getElem? h)
  rw [hr] at this; cases this
theorem zb_eq (z1 z2 z3 z4 : Int) (N : Nat) (h : z1 = N) (hN : N ≤ 1024) : leb N 2 ++ leb (wu64 z2).toNat 8 ++ leb (wu64 z3).toNat 8 ++ leb (wu64 z4).toNat 8 = zb ⟨z1, z2, z3, z4⟩ := by
  unfold zb
  have : (wu64 z1).toNat = N := by subst h; unfold wu64; omega
  simp only [this, List.append_assoc]
theorem Blk.grown {w w' : World} {b : Nat} {t : TypeId} {cs : Array Value} {row : Option Nat} (h : Blk w b t cs) (hg : w.grownBy w' row) (hne : row ≠ some b) : Blk w' b t cs := (hg.block b (lt_of_block h) (fun e => hne e.symm)).trans h
end Go.Cor
namespace Go.Proofs.Ythpndhdpohmoaaa
open Go.RowKit Go.Cor Go.Free

set_option maxRecDepth 100000 in
set_option maxHeartbeats 4000000 in
theorem store_any (A : Option Addr) (n c : Nat) (zs : List Zn) (w : World) (h : RdZ w A n c zs) (hn : n ≤ 1000) :
    Calls Try.prog 49 #[.slice A n c] w (ZStore w.heap.size 5 w zs) := by
  have hl := rdZ_len h
  have HP := Lib.hid (Put32_any none 0 0 [] n w (Rd.nilv _ _) (by omega) (by omega))
  have H := Lib.hid h
  have HL := Lib.hid hl
  clear h hl
  go_enter Try.func49, Try.ntmps49
  go_wp2_with fail
  refine HP.out.mono ?_
  rintro e w1 ⟨A1, m1, c1, rfl, ho1, hb1⟩
  rw [List.nil_append] at ho1
  obtain rfl : m1 = 4 := by have := row_len ho1; rw [leb_len] at this; exact this.symm
  have HO1 := Lib.hid ho1
  have HB1 := Lib.hid hb1
  clear ho1 hb1
  go_wp2
  go_loopw [4, 6, 13, 14, 15, 16, 17, 18, 19, 20, 21, 22, 23, 24, 25, 26, 27, 28, 29, 30, 31, 32, 33, 34, 35, 36, 37, 38] (fun v4 _ v13 _ _ _ _ _ _ _ _ _ _ _ _ _ _ _ _ _ _ _ _ _ _ _ _ _ wr => ∃ i : Nat, v13 = .int .i64 i ∧ i ≤ n ∧ ∃ A' m' c', v4 = .slice A' m' c' ∧ m' ≤ 4 + 26 * i ∧ Hid (Owns wr w.heap.size 5 .u8 A' m' c' (leb n 4 ++ zbs (zs.take i)) ∧ Below w.heap.size w wr ∧ (zs.take i).all zright = true))
    (fun _ _ v13 _ _ _ _ _ _ _ _ _ _ _ _ _ _ _ _ _ _ _ _ _ _ _ _ _ _ => n - (intOf v13).toNat)
  case atStart => exact ⟨0, rfl, by omega, A1, 4, c1, rfl, by omega, Lib.hid ⟨by simpa [zbs] using HO1.out, HB1.out, by simp⟩⟩
  case round =>
    obtain ⟨i, rfl, hi, A', m', c', rfl, hm', hI⟩ := hrel
    by_cases hlt : i < n
    · obtain ⟨b, o, rfl, hbl, _⟩ := (H.out.below hI.out.2.1).get (by omega)
      obtain ⟨z1, z2, z3, z4, hz, k0, k1, k2, k3⟩ := rdZ_at (i := i) (H.out.below hI.out.2.1) (by have := HL.out; omega)
      have hR := fun w => right_any ⟨z1, z2, z3, z4⟩ w
      unfold zr at hR
      simp only at hR
      obtain ⟨q, hq⟩ : ∃ q, zright ⟨z1, z2, z3, z4⟩ = q := ⟨_, rfl⟩
      rw [hq] at hR
      have HR := Lib.hid hR
      have HZ := Lib.hid (And.intro hz hq)
      clear hR hz hq
      cases q with
      | false =>
        go_wp2_with fail
        refine (HR.out _).mono ?_
        rintro e w2 ⟨rfl, hb2⟩
        have HB2 := Lib.hid (hI.out.2.1.trans ((((Below.refl wr.heap.size wr).alloc (Nat.le_refl _) _).trans (hb2.mono (by simp))).mono hI.out.2.1.size))
        clear hb2
        go_wp2
        go_ret2
        exact ⟨none, 0, 0, by rw [zstore_bad HZ.out.1 HZ.out.2]; rfl, by rw [zstore_bad HZ.out.1 HZ.out.2]; exact owns_nil _ _ _ _, HB2.out⟩
      | true =>
        have hn1 : 1 ≤ z1 ∧ z1 ≤ 1024 := by have := HZ.out.2; unfold zright at this; simp at this; exact this.1
        obtain ⟨N, rfl⟩ := Int.eq_ofNat_of_zero_le (show 0 ≤ z1 by omega)
        go_wp2_with fail
        refine (HR.out _).mono ?_
        rintro e w2 ⟨rfl, hb2⟩
        have hbk : Blk w2 wr.heap.size 24 #[.int .i64 N, .int .i64 z2, .int .i64 z3, .int .i64 z4] := Blk.keep (S := fun _ _ => True) (heap_alloc_new wr _) (.of_below hb2) trivial
        have HBK := Lib.hid hbk
        have hbl2 := lt_of_block hbk
        have hb12 : Below wr.heap.size wr w2 := ((Below.refl wr.heap.size wr).alloc (Nat.le_refl _) _).trans (hb2.mono (by simp))
        have HB2 := Lib.hid (hI.out.2.1.trans (hb12.mono hI.out.2.1.size))
        have HO2 := Lib.hid (Rd.own (hI.out.1.below hb12))
        have hw2 := wu64_bd z2
        have hw3 := wu64_bd z3
        have hw4 := wu64_bd z4
        have hpre : (leb n 4 ++ zbs (zs.take i)).length ≤ m' := Nat.le_of_eq (row_len hI.out.1)
        obtain ⟨pre, hpr⟩ : ∃ pre, leb n 4 ++ zbs (zs.take i) = pre := ⟨_, rfl⟩
        have HPR := Lib.hid hpr
        rw [hpr] at HO2 hpre
        clear hb2 hbk k0 k1 k2 k3 hpr hb12
        go_wp2
        refine wp_region_free 9 (by kernel_rfl) (by kernel_rfl) ?_
        refine chain_val (.slice A' m' c') (S := [4]) rfl ?_ ?_
        · intro ρ w' hE hB hs
          have h4 : ρ (.tmp 4) = .slice A' m' c' := hs 4 (by decide)
          clear hs
          refine if_t (by rfl) ?_
          (go_simp <;> exact wrapi64_in _ (by omega) (by omega))
        refine chain_val (.pointer (some ⟨wr.heap.size, 0, none⟩)) (S := [6]) rfl ?_ ?_
        · intro ρ w' hE hB hs
          have h6 : ρ (.tmp 6) = .pointer (some ⟨wr.heap.size, 0, none⟩) := hs 6 (by decide)
          clear hs
          refine if_t (by rfl) ?_
          (go_simp <;> exact wrapi64_in _ (by omega) (by omega))
        refine chain_val (.int .i64 (N : Int)) (S := [21]) rfl ?_ ?_
        · intro ρ w' hE hB hs
          have h21 : ρ (.tmp 21) = .pointer (some ⟨wr.heap.size, 0, none⟩) := hs 21 (by decide)
          clear hs
          refine if_t (by rfl) ?_
          have hcl := (hB.cell (p := ⟨wr.heap.size, 0, none⟩) hbl2).trans (HBK.out.cell 0)
          simp at hcl
          go_simp
        refine chain_val (.int .u16 (N : Int)) (S := [22]) rfl ?_ ?_
        · intro ρ w' hE hB hs
          have h22 : ρ (.tmp 22) = .int .i64 (N : Int) := hs 22 (by decide)
          clear hs
          refine if_t (by rfl) ?_
          (go_simp <;> (rw [wrapu16]; omega))
        refine chain_static (RdF .u8 (pre ++ leb N 2)) (RdF.stable _ _) (S := [20, 23]) rfl (Go.Cor.enters_f Try.func22 (by kernel_rfl) rfl) rfl ?_ ?_
        · intro ρ w' hE hB hs
          have h20 : ρ (.tmp 20) = .slice A' m' c' := hs 20 (by decide)
          have h23 : ρ (.tmp 23) = .int .u16 (N : Int) := hs 23 (by decide)
          clear hs
          refine ⟨(by rfl), ?_⟩
          simp only [List.map_toArray, List.map_cons, List.map_nil, h20, h23]
          refine (Put16_any _ _ _ _ _ _ (HO2.out.below hB) (by omega) (by omega)).mono ?_
          rintro e w3 ⟨A', n', c', rfl, ho, hb⟩
          exact ⟨_, rfl, hb, A', n', c', rfl, Rd.own ho⟩
        refine chain_val (.pointer (some ⟨wr.heap.size, 1, none⟩)) (S := [6]) rfl ?_ ?_
        · intro ρ w' hE hB hs
          have h6 : ρ (.tmp 6) = .pointer (some ⟨wr.heap.size, 0, none⟩) := hs 6 (by decide)
          clear hs
          refine if_t (by rfl) ?_
          (go_simp <;> exact wrapi64_in _ (by omega) (by omega))
        refine chain_val (.int .i64 z2) (S := [25]) rfl ?_ ?_
        · intro ρ w' hE hB hs
          have h25 : ρ (.tmp 25) = .pointer (some ⟨wr.heap.size, 1, none⟩) := hs 25 (by decide)
          clear hs
          refine if_t (by rfl) ?_
          have hcl := (hB.cell (p := ⟨wr.heap.size, 1, none⟩) hbl2).trans (HBK.out.cell 1)
          simp at hcl
          go_simp
        refine chain_val (.int .u64 ((wu64 z2).toNat : Int)) (S := [26]) rfl ?_ ?_
        · intro ρ w' hE hB hs
          have h26 : ρ (.tmp 26) = .int .i64 z2 := hs 26 (by decide)
          clear hs
          refine if_t (by rfl) ?_
          (go_simp <;> (rw [wrapu64]; unfold wu64; omega))
        refine chain_static (OwF w2.heap.size 5 .u8 (pre ++ leb N 2 ++ leb (wu64 z2).toNat 8)) (OwF.stable _ _ _ _) (S := [24, 27]) rfl (Go.Cor.enters_f Try.func25 (by kernel_rfl) rfl) rfl ?_ ?_
        · intro ρ w' hE hB hs
          have h24 : (RdF .u8 (pre ++ leb N 2)) (ρ (.tmp 24)) w' := hs 24 (by decide)
          have h27 : ρ (.tmp 27) = .int .u64 ((wu64 z2).toNat : Int) := hs 27 (by decide)
          clear hs
          obtain ⟨A24, n24, c24, e24, r24⟩ := h24
          refine ⟨(by rfl), ?_⟩
          simp only [List.map_toArray, List.map_cons, List.map_nil, e24, h27]
          have hl24 := r24.len
          rw [List.length_append, leb_len] at hl24
          refine (Put64_any _ _ _ _ _ _ r24 (by omega) (by omega)).mono ?_
          rintro e w3 ⟨A', n', c', rfl, ho, hb⟩
          exact ⟨_, rfl, hb, A', n', c', rfl, owns_weak ho hB.size⟩
        intro w1 hB1
        simp only [List.reverse_cons, List.reverse_nil, List.nil_append, List.cons_append, Go.Free.Ends, forall_eq, Act.put, List.setIfInBounds_toArray, List.set_cons_zero, List.set_cons_succ]
        rintro _ _ _ ⟨A3, m3, c3, rfl, ho3⟩
        have hm3 : m3 ≤ m' + 10 := by have := row_len ho3; rw [List.length_append, List.length_append, leb_len, leb_len] at this; omega
        have HO3 := Lib.hid (Rd.own ho3)
        have hbk3 := Blk.keep (S := fun _ _ => True) HBK.out (.of_below hB1) trivial
        have HBK3 := Lib.hid hbk3
        have hbl3 := lt_of_block hbk3
        have HB3 := Lib.hid (HB2.out.trans (hB1.mono HB2.out.size))
        clear hB1 ho3 hbk3
        go_wp2
        refine wp_region_free 9 (by kernel_rfl) (by kernel_rfl) ?_
        refine chain_val (.slice A3 m3 c3) (S := [4]) rfl ?_ ?_
        · intro ρ w' hE hB hs
          have h4 : ρ (.tmp 4) = .slice A3 m3 c3 := hs 4 (by decide)
          clear hs
          refine if_t (by rfl) ?_
          (go_simp <;> exact wrapi64_in _ (by omega) (by omega))
        refine chain_val (.pointer (some ⟨wr.heap.size, 2, none⟩)) (S := [6]) rfl ?_ ?_
        · intro ρ w' hE hB hs
          have h6 : ρ (.tmp 6) = .pointer (some ⟨wr.heap.size, 0, none⟩) := hs 6 (by decide)
          clear hs
          refine if_t (by rfl) ?_
          (go_simp <;> exact wrapi64_in _ (by omega) (by omega))
        refine chain_val (.int .i64 z3) (S := [30]) rfl ?_ ?_
        · intro ρ w' hE hB hs
          have h30 : ρ (.tmp 30) = .pointer (some ⟨wr.heap.size, 2, none⟩) := hs 30 (by decide)
          clear hs
          refine if_t (by rfl) ?_
          have hcl := (hB.cell (p := ⟨wr.heap.size, 2, none⟩) hbl3).trans (HBK3.out.cell 2)
          simp at hcl
          go_simp
        refine chain_val (.int .u64 ((wu64 z3).toNat : Int)) (S := [31]) rfl ?_ ?_
        · intro ρ w' hE hB hs
          have h31 : ρ (.tmp 31) = .int .i64 z3 := hs 31 (by decide)
          clear hs
          refine if_t (by rfl) ?_
          (go_simp <;> (rw [wrapu64]; unfold wu64; omega))
        refine chain_static (RdF .u8 (pre ++ leb N 2 ++ leb (wu64 z2).toNat 8 ++ leb (wu64 z3).toNat 8)) (RdF.stable _ _) (S := [29, 32]) rfl (Go.Cor.enters_f Try.func25 (by kernel_rfl) rfl) rfl ?_ ?_
        · intro ρ w' hE hB hs
          have h29 : ρ (.tmp 29) = .slice A3 m3 c3 := hs 29 (by decide)
          have h32 : ρ (.tmp 32) = .int .u64 ((wu64 z3).toNat : Int) := hs 32 (by decide)
          clear hs
          refine ⟨(by rfl), ?_⟩
          simp only [List.map_toArray, List.map_cons, List.map_nil, h29, h32]
          refine (Put64_any _ _ _ _ _ _ (HO3.out.below hB) (by omega) (by omega)).mono ?_
          rintro e w3 ⟨A', n', c', rfl, ho, hb⟩
          exact ⟨_, rfl, hb, A', n', c', rfl, Rd.own ho⟩
        refine chain_val (.pointer (some ⟨wr.heap.size, 3, none⟩)) (S := [6]) rfl ?_ ?_
        · intro ρ w' hE hB hs
          have h6 : ρ (.tmp 6) = .pointer (some ⟨wr.heap.size, 0, none⟩) := hs 6 (by decide)
          clear hs
          refine if_t (by rfl) ?_
          (go_simp <;> exact wrapi64_in _ (by omega) (by omega))
        refine chain_val (.int .i64 z4) (S := [34]) rfl ?_ ?_
        · intro ρ w' hE hB hs
          have h34 : ρ (.tmp 34) = .pointer (some ⟨wr.heap.size, 3, none⟩) := hs 34 (by decide)
          clear hs
          refine if_t (by rfl) ?_
          have hcl := (hB.cell (p := ⟨wr.heap.size, 3, none⟩) hbl3).trans (HBK3.out.cell 3)
          simp at hcl
          go_simp
        refine chain_val (.int .u64 ((wu64 z4).toNat : Int)) (S := [35]) rfl ?_ ?_
        · intro ρ w' hE hB hs
          have h35 : ρ (.tmp 35) = .int .i64 z4 := hs 35 (by decide)
          clear hs
          refine if_t (by rfl) ?_
          (go_simp <;> (rw [wrapu64]; unfold wu64; omega))
        refine chain_static (OwF w1.heap.size 5 .u8 (pre ++ leb N 2 ++ leb (wu64 z2).toNat 8 ++ leb (wu64 z3).toNat 8 ++ leb (wu64 z4).toNat 8)) (OwF.stable _ _ _ _) (S := [33, 36]) rfl (Go.Cor.enters_f Try.func25 (by kernel_rfl) rfl) rfl ?_ ?_
        · intro ρ w' hE hB hs
          have h33 : (RdF .u8 (pre ++ leb N 2 ++ leb (wu64 z2).toNat 8 ++ leb (wu64 z3).toNat 8)) (ρ (.tmp 33)) w' := hs 33 (by decide)
          have h36 : ρ (.tmp 36) = .int .u64 ((wu64 z4).toNat : Int) := hs 36 (by decide)
          clear hs
          obtain ⟨A33, n33, c33, e33, r33⟩ := h33
          refine ⟨(by rfl), ?_⟩
          simp only [List.map_toArray, List.map_cons, List.map_nil, e33, h36]
          have hl33 := r33.len
          rw [List.length_append, List.length_append, List.length_append, leb_len, leb_len, leb_len] at hl33
          refine (Put64_any _ _ _ _ _ _ r33 (by omega) (by omega)).mono ?_
          rintro e w3 ⟨A', n', c', rfl, ho, hb⟩
          exact ⟨_, rfl, hb, A', n', c', rfl, owns_weak ho hB.size⟩
        intro w1 hB1
        simp only [List.reverse_cons, List.reverse_nil, List.nil_append, List.cons_append, Go.Free.Ends, forall_eq, Act.put, List.setIfInBounds_toArray, List.set_cons_zero, List.set_cons_succ]
        rintro _ _ _ ⟨A4, m4, c4, rfl, ho4⟩
        have hm4 : m4 ≤ 4 + 26 * (i + 1) := by have := row_len ho4; simp only [List.length_append, leb_len] at this; omega
        have HO4 := Lib.hid (owns_weak ho4 HB3.out.size)
        have HB4 := Lib.hid (HB3.out.trans (hB1.mono HB3.out.size))
        clear hB1 ho4
        go_wp2
        go_roundw
        case rel =>
          refine ⟨i + 1, by go_num, by omega, A4, m4, c4, rfl, by omega, Lib.hid ⟨?_, HB4.out, ?_⟩⟩
          · have h4 := HO4.out
            rw [List.append_assoc, List.append_assoc, List.append_assoc, ← List.append_assoc (leb N 2), ← List.append_assoc (leb N 2 ++ _), zb_eq N z2 z3 z4 N rfl (by omega), ← HPR.out, List.append_assoc] at h4
            rw [take_snoc' HZ.out.1, zbs_snoc]
            exact h4
          · rw [take_snoc' HZ.out.1, List.all_append, hI.out.2.2]; simp [HZ.out.2]
        case measure => simp [intOf] <;> omega
    · obtain rfl : i = n := by omega
      have ho := hI.out.1
      have ha := hI.out.2.2
      rw [List.take_of_length_le (by have := HL.out; omega)] at ho ha
      have hs : zstore zs = (zst zs, 0) := by unfold zstore; rw [if_pos ha]
      have hz : zst zs = leb i 4 ++ zbs zs := by unfold zst; rw [HL.out]
      rw [← hz] at ho
      have HS := Lib.hid hs
      have HO := Lib.hid ho
      clear ho ha hs hz
      go_wp2
      go_ret2
      exact ⟨A', m', c', by rw [HS.out]; rfl, by rw [HS.out]; exact HO.out, hI.out.2.1⟩

set_option maxRecDepth 100000 in
set_option maxHeartbeats 4000000 in
theorem refStore_any (A : Option Addr) (n c : Nat) (zs : List Zn) (w : World) (h : RdZ w A n c zs) (hn : n ≤ 1000) :
    Calls Try.prog 50 #[.slice A n c] w (ZStore w.heap.size 5 w zs) := by
  have hl := rdZ_len h
  have HP := Lib.hid (refPut_any n 4 w (by omega) (by decide))
  have H := Lib.hid h
  have HL := Lib.hid hl
  clear h hl
  go_enter Try.func50, Try.ntmps50
  go_wp2_with fail
  refine HP.out.mono ?_
  rintro e w1 ⟨A1, m1, c1, rfl, ho1, hb1⟩
  obtain rfl : m1 = 4 := by have := row_len ho1; rw [leb_len] at this; exact this.symm
  have HO1 := Lib.hid ho1
  have HB1 := Lib.hid hb1
  clear ho1 hb1
  go_wp2
  go_loopw [4, 5, 6, 11, 12, 13, 14, 15, 16, 17, 18, 19, 20, 21, 22, 23, 24, 25, 26, 27, 28, 29, 30, 31, 32, 33, 34, 35, 36, 37, 38, 39, 40, 41, 42, 43, 44, 45, 46, 47] (fun v4 v5 _ _ _ _ _ _ _ _ _ _ _ _ _ _ _ _ _ _ _ _ _ _ _ _ _ _ _ _ _ _ _ _ _ _ _ _ _ _ wr => ∃ i : Nat, v5 = .int .i64 i ∧ i ≤ n ∧ ∃ A' m' c', v4 = .slice A' m' c' ∧ m' ≤ 4 + 26 * i ∧ Hid (Owns wr w.heap.size 5 .u8 A' m' c' (leb n 4 ++ zbs (zs.take i)) ∧ Below w.heap.size w wr ∧ (zs.take i).all zright = true))
    (fun _ v5 _ _ _ _ _ _ _ _ _ _ _ _ _ _ _ _ _ _ _ _ _ _ _ _ _ _ _ _ _ _ _ _ _ _ _ _ _ _ _ => n - (intOf v5).toNat)
  case atStart => exact ⟨0, rfl, by omega, A1, 4, c1, rfl, by omega, Lib.hid ⟨by simpa [zbs] using HO1.out, HB1.out, by simp⟩⟩
  case round =>
    obtain ⟨i, rfl, hi, A', m', c', rfl, hm', hI⟩ := hrel
    by_cases hlt : i < n
    · obtain ⟨b, o, rfl, hbl, _⟩ := (H.out.below hI.out.2.1).get (by omega)
      obtain ⟨z1, z2, z3, z4, hz, k0, k1, k2, k3⟩ := rdZ_at (i := i) (H.out.below hI.out.2.1) (by have := HL.out; omega)
      have hR := fun w => refRight_any ⟨z1, z2, z3, z4⟩ w
      unfold zr at hR
      simp only at hR
      obtain ⟨q, hq⟩ : ∃ q, zright ⟨z1, z2, z3, z4⟩ = q := ⟨_, rfl⟩
      rw [hq] at hR
      have HR := Lib.hid hR
      have HZ := Lib.hid (And.intro hz hq)
      clear hR hz hq
      cases q with
      | false =>
        go_wp2_with fail
        refine (HR.out _).mono ?_
        rintro e w2 ⟨rfl, hb2⟩
        have HB2 := Lib.hid (hI.out.2.1.trans ((((Below.refl wr.heap.size wr).alloc (Nat.le_refl _) _).trans (hb2.mono (by simp))).mono hI.out.2.1.size))
        clear hb2
        go_wp2
        go_ret2
        exact ⟨none, 0, 0, by rw [zstore_bad HZ.out.1 HZ.out.2]; rfl, by rw [zstore_bad HZ.out.1 HZ.out.2]; exact owns_nil _ _ _ _, HB2.out⟩
      | true =>
        have hn1 : 1 ≤ z1 ∧ z1 ≤ 1024 := by have := HZ.out.2; unfold zright at this; simp at this; exact this.1
        obtain ⟨N, rfl⟩ := Int.eq_ofNat_of_zero_le (show 0 ≤ z1 by omega)
        go_wp2_with fail
        refine (HR.out _).mono ?_
        rintro e w2 ⟨rfl, hb2⟩
        have hbk : Blk w2 wr.heap.size 29 #[.int .i64 N, .int .i64 z2, .int .i64 z3, .int .i64 z4] := Blk.keep (S := fun _ _ => True) (heap_alloc_new wr _) (.of_below hb2) trivial
        have HBK0 := Lib.hid hbk
        have HLT0 := Lib.hid (lt_of_block hbk)
        have c0_0 := hbk.cell 0
        have c0_1 := hbk.cell 1
        have c0_2 := hbk.cell 2
        have c0_3 := hbk.cell 3
        simp at c0_0 c0_1 c0_2 c0_3
        have hb12 : Below wr.heap.size wr w2 := ((Below.refl wr.heap.size wr).alloc (Nat.le_refl _) _).trans (hb2.mono (by simp))
        have HB0 := Lib.hid (hI.out.2.1.trans (hb12.mono hI.out.2.1.size))
        have HO0 := Lib.hid (hI.out.1.below hb12)
        have NE0 := Lib.hid (show (Value.slice A' m' c').ownBlock ≠ some wr.heap.size from fun e => by have := (hI.out.1.lt _ e).2; omega)
        have hw2 := wu64_bd z2
        have hw3 := wu64_bd z3
        have hw4 := wu64_bd z4
        obtain ⟨U2, hU2⟩ : ∃ U : Nat, (wu64 z2).toNat = U := ⟨_, rfl⟩
        have f2 : IntKind.u64.wrap z2 = (U2 : Int) := by rw [wrapu64, ← hU2]; unfold wu64; omega
        have bU2 : (U2 : Int) ≤ 18446744073709551615 := by omega
        have HU2 := Lib.hid hU2
        clear hU2 hw2
        obtain ⟨U3, hU3⟩ : ∃ U : Nat, (wu64 z3).toNat = U := ⟨_, rfl⟩
        have f3 : IntKind.u64.wrap z3 = (U3 : Int) := by rw [wrapu64, ← hU3]; unfold wu64; omega
        have bU3 : (U3 : Int) ≤ 18446744073709551615 := by omega
        have HU3 := Lib.hid hU3
        clear hU3 hw3
        obtain ⟨U4, hU4⟩ : ∃ U : Nat, (wu64 z4).toNat = U := ⟨_, rfl⟩
        have f4 : IntKind.u64.wrap z4 = (U4 : Int) := by rw [wrapu64, ← hU4]; unfold wu64; omega
        have bU4 : (U4 : Int) ≤ 18446744073709551615 := by omega
        have HU4 := Lib.hid hU4
        clear hU4 hw4
        clear hb2 hbk k0 k1 k2 k3 hb12
        go_wp2_with fail
        refine (refPut_any (N) 2 _ (by omega) (by decide)).mono ?_
        rintro e x0 ⟨B0, q0, d0, rfl, hp0, hpb0⟩
        obtain rfl : q0 = 2 := by have := row_len hp0; rw [leb_len] at this; exact this.symm
        have HP0 := Lib.hid (Rd.own hp0)
        have HOx0 := Lib.hid (Owns.below HO0.out hpb0)
        have HBx0 := Lib.hid (HB0.out.trans (hpb0.mono HB0.out.size))
        have HBKx0 := Lib.hid (Blk.keep (S := fun _ _ => True) HBK0.out (.of_below hpb0) trivial)
        have HLt0 := Lib.hid (Nat.lt_of_lt_of_le HLT0.out hpb0.size)
        have hs0 := HBx0.out.size
        clear hp0 hpb0 c0_0 c0_1 c0_2 c0_3
        go_wp2_with (at_builtin; refine wpList_append_r rfl rfl elemU8 HOx0.out rfl (Rd.toV HP0.out) rfl ints_one (by omega) (by omega) hs0 ?_; intro A1 e1 y1 hown hg hat; have HO1 := Lib.hid (owns_app hown); have HB1 := Lib.hid (below_grown HBx0.out HOx0.out hg hs0); have NE1 := Lib.hid (own_ne hat NE0.out HLt0.out); have hbk := Blk.grown HBKx0.out hg NE0.out; have HBK1 := Lib.hid hbk; have HLT1 := Lib.hid (lt_of_block hbk); have c1_0 := hbk.cell 0; have c1_1 := hbk.cell 1; have c1_2 := hbk.cell 2; have c1_3 := hbk.cell 3; simp at c1_0 c1_1 c1_2 c1_3; clear hown hg hat hbk hs0)
        refine (refPut_any U2 8 _ (by omega) (by decide)).mono ?_
        rintro e x1 ⟨B1, q1, d1, rfl, hp1, hpb1⟩
        obtain rfl : q1 = 8 := by have := row_len hp1; rw [leb_len] at this; exact this.symm
        have HP1 := Lib.hid (Rd.own hp1)
        have HOx1 := Lib.hid (Owns.below HO1.out hpb1)
        have HBx1 := Lib.hid (HB1.out.trans (hpb1.mono HB1.out.size))
        have HBKx1 := Lib.hid (Blk.keep (S := fun _ _ => True) HBK1.out (.of_below hpb1) trivial)
        have HLt1 := Lib.hid (Nat.lt_of_lt_of_le HLT1.out hpb1.size)
        have hs1 := HBx1.out.size
        clear hp1 hpb1 c1_0 c1_1 c1_2 c1_3
        go_wp2_with (at_builtin; refine wpList_append_r rfl rfl elemU8 HOx1.out rfl (Rd.toV HP1.out) rfl ints_one (by omega) (by omega) hs1 ?_; intro A2 e2 y2 hown hg hat; have HO2 := Lib.hid (owns_app hown); have HB2 := Lib.hid (below_grown HBx1.out HOx1.out hg hs1); have NE2 := Lib.hid (own_ne hat NE1.out HLt1.out); have hbk := Blk.grown HBKx1.out hg NE1.out; have HBK2 := Lib.hid hbk; have HLT2 := Lib.hid (lt_of_block hbk); have c2_0 := hbk.cell 0; have c2_1 := hbk.cell 1; have c2_2 := hbk.cell 2; have c2_3 := hbk.cell 3; simp at c2_0 c2_1 c2_2 c2_3; clear hown hg hat hbk hs1)
        refine (refPut_any U3 8 _ (by omega) (by decide)).mono ?_
        rintro e x2 ⟨B2, q2, d2, rfl, hp2, hpb2⟩
        obtain rfl : q2 = 8 := by have := row_len hp2; rw [leb_len] at this; exact this.symm
        have HP2 := Lib.hid (Rd.own hp2)
        have HOx2 := Lib.hid (Owns.below HO2.out hpb2)
        have HBx2 := Lib.hid (HB2.out.trans (hpb2.mono HB2.out.size))
        have HBKx2 := Lib.hid (Blk.keep (S := fun _ _ => True) HBK2.out (.of_below hpb2) trivial)
        have HLt2 := Lib.hid (Nat.lt_of_lt_of_le HLT2.out hpb2.size)
        have hs2 := HBx2.out.size
        clear hp2 hpb2 c2_0 c2_1 c2_2 c2_3
        go_wp2_with (at_builtin; refine wpList_append_r rfl rfl elemU8 HOx2.out rfl (Rd.toV HP2.out) rfl ints_one (by omega) (by omega) hs2 ?_; intro A3 e3 y3 hown hg hat; have HO3 := Lib.hid (owns_app hown); have HB3 := Lib.hid (below_grown HBx2.out HOx2.out hg hs2); have NE3 := Lib.hid (own_ne hat NE2.out HLt2.out); have hbk := Blk.grown HBKx2.out hg NE2.out; have HBK3 := Lib.hid hbk; have HLT3 := Lib.hid (lt_of_block hbk); have c3_0 := hbk.cell 0; have c3_1 := hbk.cell 1; have c3_2 := hbk.cell 2; have c3_3 := hbk.cell 3; simp at c3_0 c3_1 c3_2 c3_3; clear hown hg hat hbk hs2)
        refine (refPut_any U4 8 _ (by omega) (by decide)).mono ?_
        rintro e x3 ⟨B3, q3, d3, rfl, hp3, hpb3⟩
        obtain rfl : q3 = 8 := by have := row_len hp3; rw [leb_len] at this; exact this.symm
        have HP3 := Lib.hid (Rd.own hp3)
        have HOx3 := Lib.hid (Owns.below HO3.out hpb3)
        have HBx3 := Lib.hid (HB3.out.trans (hpb3.mono HB3.out.size))
        have HBKx3 := Lib.hid (Blk.keep (S := fun _ _ => True) HBK3.out (.of_below hpb3) trivial)
        have HLt3 := Lib.hid (Nat.lt_of_lt_of_le HLT3.out hpb3.size)
        have hs3 := HBx3.out.size
        clear hp3 hpb3 c3_0 c3_1 c3_2 c3_3
        go_wp2_with (at_builtin; refine wpList_append_r rfl rfl elemU8 HOx3.out rfl (Rd.toV HP3.out) rfl ints_one (by omega) (by omega) hs3 ?_; intro A4 e4 y4 hown hg hat; have HO4 := Lib.hid (owns_app hown); have HB4 := Lib.hid (below_grown HBx3.out HOx3.out hg hs3); have NE4 := Lib.hid (own_ne hat NE3.out HLt3.out); have hbk := Blk.grown HBKx3.out hg NE3.out; have HBK4 := Lib.hid hbk; have HLT4 := Lib.hid (lt_of_block hbk); have c4_0 := hbk.cell 0; have c4_1 := hbk.cell 1; have c4_2 := hbk.cell 2; have c4_3 := hbk.cell 3; simp at c4_0 c4_1 c4_2 c4_3; clear hown hg hat hbk hs3)
        go_roundw
        case rel =>
          refine ⟨i + 1, by go_num, by omega, A4, _, e4, rfl, by omega, Lib.hid ⟨?_, HB4.out, ?_⟩⟩
          · have h4 := HO4.out
            rw [List.append_assoc, List.append_assoc, List.append_assoc, ← List.append_assoc (leb N 2), ← List.append_assoc (leb N 2 ++ _), ← HU2.out, ← HU3.out, ← HU4.out, zb_eq N z2 z3 z4 N rfl (by omega), List.append_assoc] at h4
            rw [take_snoc' HZ.out.1, zbs_snoc]
            exact h4
          · rw [take_snoc' HZ.out.1, List.all_append, hI.out.2.2]; simp [HZ.out.2]
        case measure => simp [intOf] <;> omega
    · obtain rfl : i = n := by omega
      have ho := hI.out.1
      have ha := hI.out.2.2
      rw [List.take_of_length_le (by have := HL.out; omega)] at ho ha
      have hs : zstore zs = (zst zs, 0) := by unfold zstore; rw [if_pos ha]
      have hz : zst zs = leb i 4 ++ zbs zs := by unfold zst; rw [HL.out]
      rw [← hz] at ho
      have HS := Lib.hid hs
      have HO := Lib.hid ho
      clear ho ha hs hz
      go_wp2
      go_ret2
      exact ⟨A', m', c', by rw [HS.out]; rfl, by rw [HS.out]; exact HO.out, hI.out.2.1⟩
end Go.Proofs.Ythpndhdpohmoaaa
