/-
  Chapter 25: Load; the reference's Load; are zones alike?
-/
import Derived.Test.YthpndhdpohmoaaaZoneL
import Derived.Test.YthpndhdpohmoaaaRefD
namespace Go.Cor
open Go Go.RowKit
theorem keep_setRow (w : World) (g : Nat) (cs : Array Value) : Keep (fun _ k => k ≠ g) w (w.setRow g cs) := by
  have h := below_setRow (Below.refl g w) (Nat.le_refl g) cs
  exact ⟨h.os, h.tape, h.output, h.size, fun k _ hs => setRow_other _ _ _ _ hs⟩
end Go.Cor
namespace Go.Proofs.Ythpndhdpohmoaaa
open Go.RowKit Go.Cor Go.Free

/-- what Load hands out -/
def ZLoad (B : Nat) (E : TypeId) (w : World) (ys : List Int) (e : Ending) (w' : World) : Prop :=
  ∃ A m c, e = .returned (.tuple #[.slice A m c, .int .i64 (zload ys).2]) ∧ w'.ownsRow B E 4 (.slice A m c) m (zcells (zload ys).1) ∧ Below B w w'
set_option maxRecDepth 100000 in
set_option maxHeartbeats 2000000 in
theorem load_any (w : World) (A : Option Addr) (n c : Nat) (ys : List Int) (hr : Rd w .u8 A n c ys) (hn : n ≤ 100000) (hby : By ys) :
    Calls Try.prog 51 #[.slice A n c] w (ZLoad w.heap.size 24 w ys) := by
  have hmf : ∀ (fn : Fn) (first cap : Array Value) (w : World), (Instr.makeFunc fn first cap).run Try.prog w = .ok (.func fn first cap) w := fun _ _ _ _ => rfl
  obtain ⟨w2, hw2⟩ : ∃ w2, w.alloc (.cells #[.slice A n c] 38) = w2 := ⟨_, rfl⟩
  have hb2 : Below w.heap.size w w2 := by rw [← hw2]; exact (Below.refl _ _).alloc (Nat.le_refl _) _
  have h0 : Box w2 w.heap.size 38 (.slice A n c) := by rw [← hw2]; exact Box.new _ _ _
  have hlt := lt_of_block h0
  have eg1 : ∀ args w, (callFunc 78 args).run Try.prog w = .ok (.enter 78 args) w := enters_f Try.func78 (by kernel_rfl) rfl
  have hget := getZ_any 78 #[.pointer (some ⟨w.heap.size, 0, none⟩)] w2 (fun _ => False) (fun _ h => h.elim) (LoadR (w2.heap.size + 3) ys) (LoadS ys) eg1
    (fun w3 hb3 hs3 => by
      have := load1_any w3 w.heap.size A n c ys (hr.below (hb2.trans (hb3.mono (by omega)))) hn hby (h0.below hb3 (by omega))
      rwa [hs3] at this)
  have HG := Lib.hid hget
  have HB2 := Lib.hid hb2
  clear hr hby eg1 h0 hb2 hget hlt
  go_enter Try.func51, Try.ntmps51
  go_wp2_with fail
  refine HG.out.mono ?_
  rintro e w5 ⟨⟨A', m, c', w4, rfl, ⟨hown, he⟩, hpast⟩ | ⟨er, w4, her, rfl, hS, hpast⟩, hm⟩
  · have HO := Lib.hid (owns_keep hown hpast fun g hg _ => .inr (hown.lt g hg).1)
    have HE := Lib.hid he
    have HB5 := Lib.hid (HB2.out.trans ((Below.of_mod hm).mono HB2.out.size))
    clear hown he hpast hm
    go_wp2
    go_ret2
    exact ⟨A', m, c', by rw [HE.out]; rfl, owns_weak HO.out (by have := HB2.out.size; omega), HB5.out⟩
  · have HS := Lib.hid hS
    have HB5 := Lib.hid (HB2.out.trans ((Below.of_mod hm).mono HB2.out.size))
    clear hS hpast hm
    go_wp2
    go_ret2
    exact ⟨none, 0, 0, by rw [HS.out.1]; rfl, by rw [HS.out.2]; exact World.ownsRow_nil _ _ _ _, HB5.out⟩

theorem elemR : ElemT Try.prog 31 29 (.agg #[.int .i64 0, .int .i64 0, .int .i64 0, .int .i64 0]) 4 32 := ⟨Try.underlying31, by kernel_rfl, rfl, by decide⟩

set_option maxRecDepth 100000 in
set_option maxHeartbeats 8000000 in
theorem refLoad_any (w : World) (A : Option Addr) (n c : Nat) (ys : List Int) (hr : Rd w .u8 A n c ys) (hn : n ≤ 100000) (hby : By ys) :
    Calls Try.prog 52 #[.slice A n c] w (ZLoad w.heap.size 29 w ys) := by
  have hlen := hr.len
  have H := Lib.hid hr
  have HLEN := Lib.hid hlen
  have HBY := Lib.hid hby
  clear hr hlen hby
  by_cases hs4 : n < 4
  · have hz := zload_short (ys := ys) (by have := HLEN.out; omega)
    have HZ := Lib.hid hz
    clear hz
    go_enter Try.func52, Try.ntmps52
    go_wp2
    go_ret2
    exact ⟨none, 0, 0, by rw [HZ.out]; rfl, by rw [HZ.out]; exact World.ownsRow_nil _ _ _ _, Below.refl _ _⟩
  · have hbd := num_bd (HBY.out.take 4)
    rw [List.length_take, HLEN.out, Nat.min_eq_left (by omega)] at hbd
    obtain ⟨M, hM⟩ := Int.eq_ofNat_of_zero_le hbd.1
    have hM2 : (M : Int) ≤ 4294967295 := by have := hbd.2; rw [hM] at this; simp at this; omega
    have hMn : (num (ys.take 4)).toNat = M := by rw [hM]; rfl
    obtain ⟨R, hR⟩ : ∃ R, zll [] 0 (zl M (ys.drop 4)) = R := ⟨_, rfl⟩
    have HR := Lib.hid hR
    have HMN := Lib.hid hMn
    have HM := Lib.hid hM
    have HL4 := Lib.hid (show ¬ ys.length < 4 by have := HLEN.out; omega)
    have hcap := H.out.cap
    clear hbd hM hMn hR
    go_enter Try.func52, Try.ntmps52
    go_wp2_with ((refine wpList_slice_h (o := ⟨some 12, _, _, _, _, _⟩) rfl rfl elemU8 H.out rfl (kh := .i64) (j := 4) rfl (by omega) ?_; intro hrd; have HRD := Lib.hid hrd; clear hrd))
    have hnum := refNumber_any A 4 c _ w HRD.out (HBY.out.take 4) (by decide)
    rw [HM.out] at hnum
    have HNUM := Lib.hid hnum
    clear hnum
    refine HNUM.out.mono ?_
    rintro e w' ⟨rfl, rfl⟩
    go_wp2_with ((refine wpList_slice_l (o := ⟨some 15, _, _, _, _, _⟩) rfl rfl elemU8 H.out rfl (kl := .i64) (l := 4) rfl (by omega) ?_; intro A5 c5 hrd; have HR5 := Lib.hid hrd; clear hrd))
    go_loopw [0, 5, 6, 7, 16, 17, 18, 19, 20, 21, 22, 23, 24, 25, 26, 27, 28, 29, 30, 31, 32, 33, 34, 35, 36, 37, 38, 39, 40, 41, 42, 43, 44, 45, 46, 47, 48, 49] (fun v0 v5 v6 _ _ _ _ _ _ _ _ _ _ _ _ _ _ _ _ _ _ _ _ _ _ _ _ _ _ _ _ _ _ _ _ _ _ _ wr => ∃ i : Nat, v6 = .int .u64 i ∧ i ≤ M ∧ ∃ A' c', v5 = .slice A' i c' ∧ ∃ a, a = 4 + 26 * i ∧ a ≤ n ∧ ∃ A0 m0 c0, v0 = .slice A0 m0 c0 ∧ m0 = n - a ∧ ∃ l, Hid (wr.ownsRow w.heap.size 29 4 (.slice A' i c') i (zcells l) ∧ Rd w .u8 A0 m0 c0 (ys.drop a) ∧ Below w.heap.size w wr ∧ R = zll l (26 * i) (zl (M - i) (ys.drop a))))
      (fun _ _ v6 _ _ _ _ _ _ _ _ _ _ _ _ _ _ _ _ _ _ _ _ _ _ _ _ _ _ _ _ _ _ _ _ _ _ _ _ => M - (intOf v6).toNat)
    case atStart => exact ⟨0, rfl, by omega, none, 0, rfl, 4, by omega, by omega, A5, n - 4, c5, rfl, rfl, [], Lib.hid ⟨World.ownsRow_nil _ _ _ _, HR5.out, Below.refl _ _, HR.out.symm⟩⟩
    case round =>
      obtain ⟨i, rfl, hi, A', c', rfl, a, ha, han, A0, m0, c0, rfl, hm0, l, hI⟩ := hrel
      by_cases hlt : i < M
      · have hR' := hI.out.2.2.2
        rw [show M - i = (M - (i + 1)) + 1 by omega] at hR'
        by_cases hsh : m0 < 26
        · rw [zll_short _ _ _ _ (by rw [List.length_drop, HLEN.out]; omega)] at hR'
          have hz := zload_err HL4.out HMN.out HR.out (by rw [hR']; decide)
          rw [hR'] at hz
          have HZ := Lib.hid hz
          clear hR' hz ha hm0
          go_wp2
          go_ret2
          exact ⟨none, 0, 0, by rw [HZ.out]; rfl, by rw [HZ.out]; exact World.ownsRow_nil _ _ _ _, hI.out.2.2.1⟩
        · have hlenb : ¬ (ys.drop a).length < 26 := by rw [List.length_drop, HLEN.out]; omega
          have hzp : zparse (ys.drop a) = ⟨num ((ys.drop a).take 2), w64 (num (((ys.drop a).drop 2).take 8)), w64 (num (((ys.drop a).drop 10).take 8)), w64 (num (((ys.drop a).drop 18).take 8))⟩ := rfl
          obtain ⟨b, hbb⟩ : ∃ b, ys.drop a = b := ⟨_, rfl⟩
          have hbyb : By b := by rw [← hbb]; exact HBY.out.drop a
          have hb1 := num_bd (hbyb.take 2)
          have hbl : b.length = m0 := by rw [← hbb, List.length_drop, HLEN.out, hm0]
          rw [List.length_take, hbl, Nat.min_eq_left (by omega)] at hb1
          rw [hbb] at hzp
          obtain ⟨z1, h1⟩ : ∃ z, num (b.take 2) = z := ⟨_, rfl⟩
          obtain ⟨z2, h2⟩ : ∃ z, num ((b.drop 2).take 8) = z := ⟨_, rfl⟩
          obtain ⟨z3, h3⟩ : ∃ z, num ((b.drop 10).take 8) = z := ⟨_, rfl⟩
          obtain ⟨z4, h4⟩ : ∃ z, num ((b.drop 18).take 8) = z := ⟨_, rfl⟩
          rw [h1] at hb1
          rw [h1, h2, h3, h4] at hzp
          have hrd0 := hI.out.2.1
          rw [hbb] at hrd0
          have HRD0 := Lib.hid hrd0
          have HH := Lib.hid (And.intro h1 (And.intro h2 (And.intro h3 h4)))
          have HBYB := Lib.hid hbyb
          have HZP := Lib.hid (hbb ▸ hzp)
          have HLB := Lib.hid hlenb
          have HRR := Lib.hid hR'
          have HBB := Lib.hid hbb
          obtain ⟨hb10, hb11⟩ := hb1
          simp at hb11
          have HA := Lib.hid (And.intro ha hm0)
          have hcap0 := hrd0.cap
          clear h1 h2 h3 h4 hzp hlenb hR' hbb hbyb hbl hrd0 ha hm0
          go_wp2_with fail
          refine wp_region_free 18 (by kernel_rfl) (by kernel_rfl) ?_
          refine chain_val (.slice A0 m0 c0) (S := [0]) rfl ?_ ?_
          · intro ρ w' hE hB hs
            have h0 : ρ (.tmp 0) = .slice A0 m0 c0 := hs 0 (by decide)
            clear hs
            refine if_t (by rfl) ?_
            (go_simp <;> exact wrapi64_in _ (by omega) (by omega))
          refine chain_fact (RdF .u8 (b.take 2)) (RdF.stable _ _) (S := [24]) rfl ?_ ?_
          · intro ρ w' hE hB hs
            have h24 : ρ (.tmp 24) = .slice A0 m0 c0 := hs 24 (by decide)
            clear hs
            have hc := hE.const
            refine if_t (by rfl) ?_
            have hrun : (Instr.sliceAt 38 (.slice A0 m0 c0) none (some (.int .i64 2)) none).run Try.prog w' = _ := run_h elemU8 A0 m0 c0 (j := 2) (by omega) .i64
            refine ⟨_, ?_, _, _, _, rfl, ((HRD0.out.below hI.out.2.2.1).below hB).take (by omega)⟩
            unfold execOp
            simp only [Option.map, h24, hc, hrun, Sem.run_bind, Result.andThen_ok, Sem.run_pure]
          refine chain_static (fun v__ _ => v__ = .int .u64 z1) (stable_eq _) (S := [25]) rfl (Go.Cor.enters_f Try.func43 (by kernel_rfl) rfl) rfl ?_ ?_
          · intro ρ w' hE hB hs
            have h25 : (RdF .u8 (b.take 2)) (ρ (.tmp 25)) w' := hs 25 (by decide)
            clear hs
            obtain ⟨A25, n25, c25, e25, r25⟩ := h25
            refine ⟨(by rfl), ?_⟩
            simp only [List.map_toArray, List.map_cons, List.map_nil, e25]
            refine (refNumber_any _ _ _ _ _ r25 (HBYB.out.take 2) (by have := r25.len; rw [List.length_take] at this; omega)).mono ?_
            rintro e w3 ⟨rfl, rfl⟩
            exact ⟨_, rfl, Below.refl _ _, by rw [HH.out.1]⟩
          refine chain_val (.int .i64 z1) (S := [26]) rfl ?_ ?_
          · intro ρ w' hE hB hs
            have h26 : ρ (.tmp 26) = .int .u64 z1 := hs 26 (by decide)
            clear hs
            refine if_t (by rfl) ?_
            (go_simp <;> exact wrapi64_in _ (by omega) (by omega))
          refine chain_val (.slice A0 m0 c0) (S := [0]) rfl ?_ ?_
          · intro ρ w' hE hB hs
            have h0 : ρ (.tmp 0) = .slice A0 m0 c0 := hs 0 (by decide)
            clear hs
            refine if_t (by rfl) ?_
            (go_simp <;> exact wrapi64_in _ (by omega) (by omega))
          refine chain_fact (RdF .u8 ((b.drop 2).take 8)) (RdF.stable _ _) (S := [28]) rfl ?_ ?_
          · intro ρ w' hE hB hs
            have h28 : ρ (.tmp 28) = .slice A0 m0 c0 := hs 28 (by decide)
            clear hs
            have hc := hE.const
            refine if_t (by rfl) ?_
            have hrun : (Instr.sliceAt 38 (.slice A0 m0 c0) (some (.int .i64 2)) (some (.int .i64 10)) none).run Try.prog w' = _ := run_lh elemU8 A0 m0 c0 (l := 2) (j := 10) (by omega) (by omega) .i64 .i64
            refine ⟨_, ?_, _, _, _, rfl, ((HRD0.out.below hI.out.2.2.1).below hB).sliced (l := 2) (j := 10) (by omega) (by omega)⟩
            unfold execOp
            simp only [Option.map, h28, hc, hrun, Sem.run_bind, Result.andThen_ok, Sem.run_pure]
          refine chain_static (fun v__ _ => v__ = .int .u64 z2) (stable_eq _) (S := [29]) rfl (Go.Cor.enters_f Try.func43 (by kernel_rfl) rfl) rfl ?_ ?_
          · intro ρ w' hE hB hs
            have h29 : (RdF .u8 ((b.drop 2).take 8)) (ρ (.tmp 29)) w' := hs 29 (by decide)
            clear hs
            obtain ⟨A29, n29, c29, e29, r29⟩ := h29
            refine ⟨(by rfl), ?_⟩
            simp only [List.map_toArray, List.map_cons, List.map_nil, e29]
            refine (refNumber_any _ _ _ _ _ r29 ((HBYB.out.drop 2).take 8) (by have := r29.len; rw [List.length_take] at this; omega)).mono ?_
            rintro e w3 ⟨rfl, rfl⟩
            exact ⟨_, rfl, Below.refl _ _, by rw [HH.out.2.1]⟩
          refine chain_val (.int .i64 (w64 z2)) (S := [30]) rfl ?_ ?_
          · intro ρ w' hE hB hs
            have h30 : ρ (.tmp 30) = .int .u64 z2 := hs 30 (by decide)
            clear hs
            refine if_t (by rfl) ?_
            (go_simp <;> exact wrapi64 _)
          refine chain_val (.slice A0 m0 c0) (S := [0]) rfl ?_ ?_
          · intro ρ w' hE hB hs
            have h0 : ρ (.tmp 0) = .slice A0 m0 c0 := hs 0 (by decide)
            clear hs
            refine if_t (by rfl) ?_
            (go_simp <;> exact wrapi64_in _ (by omega) (by omega))
          refine chain_fact (RdF .u8 ((b.drop 10).take 8)) (RdF.stable _ _) (S := [32]) rfl ?_ ?_
          · intro ρ w' hE hB hs
            have h32 : ρ (.tmp 32) = .slice A0 m0 c0 := hs 32 (by decide)
            clear hs
            have hc := hE.const
            refine if_t (by rfl) ?_
            have hrun : (Instr.sliceAt 38 (.slice A0 m0 c0) (some (.int .i64 10)) (some (.int .i64 18)) none).run Try.prog w' = _ := run_lh elemU8 A0 m0 c0 (l := 10) (j := 18) (by omega) (by omega) .i64 .i64
            refine ⟨_, ?_, _, _, _, rfl, ((HRD0.out.below hI.out.2.2.1).below hB).sliced (l := 10) (j := 18) (by omega) (by omega)⟩
            unfold execOp
            simp only [Option.map, h32, hc, hrun, Sem.run_bind, Result.andThen_ok, Sem.run_pure]
          refine chain_static (fun v__ _ => v__ = .int .u64 z3) (stable_eq _) (S := [33]) rfl (Go.Cor.enters_f Try.func43 (by kernel_rfl) rfl) rfl ?_ ?_
          · intro ρ w' hE hB hs
            have h33 : (RdF .u8 ((b.drop 10).take 8)) (ρ (.tmp 33)) w' := hs 33 (by decide)
            clear hs
            obtain ⟨A33, n33, c33, e33, r33⟩ := h33
            refine ⟨(by rfl), ?_⟩
            simp only [List.map_toArray, List.map_cons, List.map_nil, e33]
            refine (refNumber_any _ _ _ _ _ r33 ((HBYB.out.drop 10).take 8) (by have := r33.len; rw [List.length_take] at this; omega)).mono ?_
            rintro e w3 ⟨rfl, rfl⟩
            exact ⟨_, rfl, Below.refl _ _, by rw [HH.out.2.2.1]⟩
          refine chain_val (.int .i64 (w64 z3)) (S := [34]) rfl ?_ ?_
          · intro ρ w' hE hB hs
            have h34 : ρ (.tmp 34) = .int .u64 z3 := hs 34 (by decide)
            clear hs
            refine if_t (by rfl) ?_
            (go_simp <;> exact wrapi64 _)
          refine chain_val (.slice A0 m0 c0) (S := [0]) rfl ?_ ?_
          · intro ρ w' hE hB hs
            have h0 : ρ (.tmp 0) = .slice A0 m0 c0 := hs 0 (by decide)
            clear hs
            refine if_t (by rfl) ?_
            (go_simp <;> exact wrapi64_in _ (by omega) (by omega))
          refine chain_fact (RdF .u8 ((b.drop 18).take 8)) (RdF.stable _ _) (S := [36]) rfl ?_ ?_
          · intro ρ w' hE hB hs
            have h36 : ρ (.tmp 36) = .slice A0 m0 c0 := hs 36 (by decide)
            clear hs
            have hc := hE.const
            refine if_t (by rfl) ?_
            have hrun : (Instr.sliceAt 38 (.slice A0 m0 c0) (some (.int .i64 18)) (some (.int .i64 26)) none).run Try.prog w' = _ := run_lh elemU8 A0 m0 c0 (l := 18) (j := 26) (by omega) (by omega) .i64 .i64
            refine ⟨_, ?_, _, _, _, rfl, ((HRD0.out.below hI.out.2.2.1).below hB).sliced (l := 18) (j := 26) (by omega) (by omega)⟩
            unfold execOp
            simp only [Option.map, h36, hc, hrun, Sem.run_bind, Result.andThen_ok, Sem.run_pure]
          refine chain_static (fun v__ _ => v__ = .int .u64 z4) (stable_eq _) (S := [37]) rfl (Go.Cor.enters_f Try.func43 (by kernel_rfl) rfl) rfl ?_ ?_
          · intro ρ w' hE hB hs
            have h37 : (RdF .u8 ((b.drop 18).take 8)) (ρ (.tmp 37)) w' := hs 37 (by decide)
            clear hs
            obtain ⟨A37, n37, c37, e37, r37⟩ := h37
            refine ⟨(by rfl), ?_⟩
            simp only [List.map_toArray, List.map_cons, List.map_nil, e37]
            refine (refNumber_any _ _ _ _ _ r37 ((HBYB.out.drop 18).take 8) (by have := r37.len; rw [List.length_take] at this; omega)).mono ?_
            rintro e w3 ⟨rfl, rfl⟩
            exact ⟨_, rfl, Below.refl _ _, by rw [HH.out.2.2.2]⟩
          refine chain_val (.int .i64 (w64 z4)) (S := [38]) rfl ?_ ?_
          · intro ρ w' hE hB hs
            have h38 : ρ (.tmp 38) = .int .u64 z4 := hs 38 (by decide)
            clear hs
            refine if_t (by rfl) ?_
            (go_simp <;> exact wrapi64 _)
          refine chain_val (.agg #[.int .i64 z1, .int .i64 (w64 z2), .int .i64 (w64 z3), .int .i64 (w64 z4)]) (S := [27, 31, 35, 39]) rfl ?_ ?_
          · intro ρ w' hE hB hs
            have h27 : ρ (.tmp 27) = .int .i64 z1 := hs 27 (by decide)
            have h31 : ρ (.tmp 31) = .int .i64 (w64 z2) := hs 31 (by decide)
            have h35 : ρ (.tmp 35) = .int .i64 (w64 z3) := hs 35 (by decide)
            have h39 : ρ (.tmp 39) = .int .i64 (w64 z4) := hs 39 (by decide)
            clear hs
            refine if_t (by rfl) ?_
            (go_simp <;> exact wrapi64_in _ (by omega) (by omega))
          refine chain_make (BoxF (wr.heap.size) 29 (#[.int .i64 0, .int .i64 0, .int .i64 0, .int .i64 0])) (BoxF.stable _ _ _) (S := []) rfl ?_ ?_
          · intro ρ w' hE hB hs
            clear hs
            exact ⟨(by rfl), .pointer (some ⟨w'.heap.size, 0, none⟩), w'.alloc (.cells (#[.int .i64 0, .int .i64 0, .int .i64 0, .int .i64 0]) 29), (by go_simp), (Below.refl _ _).alloc (Nat.le_refl _) _, w'.heap.size, rfl, (by have := hB.size; first | omega | (simp at this; omega)), heap_alloc_new w' _⟩
          intro w1 hB1
          simp only [List.reverse_cons, List.reverse_nil, List.nil_append, List.cons_append, Go.Free.Ends, forall_eq, Act.put, List.setIfInBounds_toArray, List.set_cons_zero, List.set_cons_succ]
          rintro _ _ _ _ _ _ _ _ _ ⟨g, rfl, hg1, hg2⟩
          have HG2 := Lib.hid hg2
          have HB1 := Lib.hid (hI.out.2.2.1.trans (hB1.mono hI.out.2.2.1.size))
          have HO1 := Lib.hid (owns_keep (S := fun _ _ => True) hI.out.1 (.of_below hB1) (fun _ _ _ => trivial))
          have NE := Lib.hid (show (Value.slice A' i c').ownBlock ≠ some g from fun e => by have := (hI.out.1.lt _ e).2; omega)
          have hgw : w.heap.size ≤ g := by have := hI.out.2.2.1.size; omega
          have HGW := Lib.hid hgw
          clear hg2 hB1 hg1 hgw
          have hR := fun w => refRight_any ⟨z1, w64 z2, w64 z3, w64 z4⟩ w
          unfold zr at hR
          simp only at hR
          obtain ⟨q, hq⟩ : ∃ q, zright ⟨z1, w64 z2, w64 z3, w64 z4⟩ = q := ⟨_, rfl⟩
          rw [hq] at hR
          have HRG := Lib.hid hR
          have HQ := Lib.hid hq
          clear hR hq
          obtain ⟨w6, hw6⟩ : ∃ w6, w1.setRow g (zr ⟨z1, w64 z2, w64 z3, w64 z4⟩) = w6 := ⟨_, rfl⟩
          have hbk6 : Blk w6 g 29 (zr ⟨z1, w64 z2, w64 z3, w64 z4⟩) := by rw [← hw6]; exact setRow_heap _ _ _ _ _ _ HG2.out
          have HB6 := Lib.hid (show Below w.heap.size w w6 by rw [← hw6]; exact below_setRow HB1.out HGW.out _)
          have HO6 := Lib.hid (show w6.ownsRow w.heap.size 29 4 (.slice A' i c') i (zcells l) by rw [← hw6]; exact owns_keep HO1.out (keep_setRow w1 g _) fun k hk _ e => NE.out (by rw [hk, e]))
          have HLT6 := Lib.hid (lt_of_block hbk6)
          have c6_0 : w6.cell? ⟨g, 0, none⟩ = some (.int .i64 z1) := by rw [hbk6.cell]; rfl
          have c6_1 : w6.cell? ⟨g, 1, none⟩ = some (.int .i64 (w64 z2)) := by rw [hbk6.cell]; rfl
          have c6_2 : w6.cell? ⟨g, 2, none⟩ = some (.int .i64 (w64 z3)) := by rw [hbk6.cell]; rfl
          have c6_3 : w6.cell? ⟨g, 3, none⟩ = some (.int .i64 (w64 z4)) := by rw [hbk6.cell]; rfl
          have HBK6 := Lib.hid hbk6
          have HW6 := Lib.hid hw6
          clear hw6 hbk6 HB1 HO1
          go_wp2_with (first | (refine wpList_store_row rfl 29 (.tmp 7) (.tmp 40) rfl g (zr ⟨z1, w64 z2, w64 z3, w64 z4⟩) rfl rfl 29 #[.int .i64 0, .int .i64 0, .int .i64 0, .int .i64 0] HG2.out sizeR rfl (zr_one _) ?_; rw [HW6.out]))
          refine (HRG.out _).mono ?_
          rintro e w7 ⟨rfl, hb7⟩
          have HB7 := Lib.hid (HB6.out.trans (hb7.mono HB6.out.size))
          have HO7 := Lib.hid (owns_keep (S := fun _ _ => True) HO6.out (.of_below hb7) (fun _ _ _ => trivial))
          have hbk7 := Blk.keep (S := fun _ _ => True) HBK6.out (.of_below hb7) trivial
          have HBK7 := Lib.hid hbk7
          clear hb7 c6_0 c6_1 c6_2 c6_3 HB6 HO6 HBK6 hbk7
          cases q with
          | false =>
            have hR' := HRR.out
            rw [zll_bad _ _ _ _ HLB.out (by rw [HZP.out]; exact HQ.out)] at hR'
            have hz := zload_err HL4.out HMN.out HR.out (by rw [hR']; decide)
            rw [hR'] at hz
            have HZ := Lib.hid hz
            clear hR' hz
            go_wp2
            go_ret2
            exact ⟨none, 0, 0, by rw [HZ.out]; rfl, by rw [HZ.out]; exact World.ownsRow_nil _ _ _ _, HB7.out⟩
          | true =>
            have hR' := HRR.out
            rw [zll_step _ _ _ _ HLB.out (by rw [HZP.out]; exact HQ.out), HZP.out, List.drop_drop] at hR'
            have HRN := Lib.hid hR'
            have c7_0 : w7.cell? ⟨g, 0, none⟩ = some (.int .i64 z1) := by rw [HBK7.out.cell]; rfl
            have c7_1 : w7.cell? ⟨g, 1, none⟩ = some (.int .i64 (w64 z2)) := by rw [HBK7.out.cell]; rfl
            have c7_2 : w7.cell? ⟨g, 2, none⟩ = some (.int .i64 (w64 z3)) := by rw [HBK7.out.cell]; rfl
            have c7_3 : w7.cell? ⟨g, 3, none⟩ = some (.int .i64 (w64 z4)) := by rw [HBK7.out.cell]; rfl
            have hrowa := owns_keep (S := fun _ _ => True) HO7.out (.of_below ((Below.refl w7.heap.size w7).alloc (Nat.le_refl _) (.cells #[.int .i64 z1, .int .i64 (w64 z2), .int .i64 (w64 z3), .int .i64 (w64 z4)] 29))) (fun _ _ _ => trivial)
            have HROW := Lib.hid hrowa
            have HT := Lib.hid (hI.out.2.1.tail (l := 26) (by omega))
            clear hR' hrowa
            go_wp2_with (at_builtin; refine wpList_append_r rfl rfl elemR HROW.out rfl (RdZ.lit w7 29 ⟨z1, w64 z2, w64 z3, w64 z4⟩) rfl (zcells_one _) (by omega) (by omega) (by have := HB7.out.size; simp; omega) ?_; intro A2 c2' w8 hown hg _; have HOW := Lib.hid hown; have HG8 := Lib.hid (below_grown (HB7.out.alloc HB7.out.size _) HROW.out hg (by have := HB7.out.size; simp; omega)); clear hown hg c7_0 c7_1 c7_2 c7_3)
            go_roundw
            case rel =>
              refine ⟨i + 1, by go_num, by omega, A2, c2', rfl, a + 26, by have := HA.out; omega, by have := HA.out; omega, _, _, _, rfl, by have := HA.out; omega, l ++ [⟨z1, w64 z2, w64 z3, w64 z4⟩], Lib.hid ⟨?_, by have := HT.out; rw [List.drop_drop] at this; exact this, HG8.out, ?_⟩⟩
              · rw [zcells_snoc]; simpa [zcells, zr] using HOW.out
              · rw [show 26 * (i + 1) = 26 * i + 26 by omega]; exact HRN.out
            case measure => simp [intOf] <;> omega
      · obtain rfl : i = M := by omega
        have hR' := hI.out.2.2.2
        rw [Nat.sub_self, zll_end] at hR'
        have hz := zload_ok HL4.out HMN.out (HR.out.trans hR')
        rw [HLEN.out] at hz
        by_cases hlong : 0 < m0
        · rw [if_pos (by omega)] at hz
          have HZ := Lib.hid hz
          clear hz hR' ha hm0
          go_wp2
          go_ret2
          exact ⟨none, 0, 0, by rw [HZ.out]; rfl, by rw [HZ.out]; exact World.ownsRow_nil _ _ _ _, hI.out.2.2.1⟩
        · rw [if_neg (by omega)] at hz
          have HZ := Lib.hid hz
          clear hz hR' ha hm0
          go_wp2
          go_ret2
          exact ⟨A', i, c', by rw [HZ.out]; rfl, by rw [HZ.out]; exact hI.out.1, hI.out.2.2.1⟩
end Go.Proofs.Ythpndhdpohmoaaa
