/-
  Chapter 8: the reference; awake.
-/
import Derived.Test.YtbfnaigefmdcdaaZvarD
import Derived.Test.YtbfnaigefmdcdaaRefD
namespace Go.Proofs.Ytbfnaigefmdcdaa
open Go.RowKit Go.Cor Go.Free

set_option maxHeartbeats 1000000 in
theorem refZEncode_any (A : Option Addr) (n c : Nat) (xs : List Int) (w : World) (h : Rd w .i64 A n c xs) (hi : In .i64 xs) (hn : n ≤ 2000) :
    Calls Try.prog 16 #[.slice A n c] w (RetRow w.heap.size 5 .u8 w (zform xs)) := by
  have H := Lib.hid h
  have HI := Lib.hid hi
  clear h hi
  go_enter Try.func16, Try.ntmps16
  go_wp2
  go_loopw [3, 4, 5, 6, 7, 8, 9, 10, 11, 12, 13, 14, 15, 16, 17, 18] (fun v3 v4 _ _ _ _ _ _ _ _ _ _ _ _ _ _ wr => ∃ i : Nat, v4 = .int .i64 i ∧ i ≤ n ∧ ∃ A' m' c', v3 = .slice A' m' c' ∧ m' ≤ 10 * i ∧ Hid (Owns wr w.heap.size 5 .u8 A' m' c' (zform (xs.take i)) ∧ Below w.heap.size w wr))
    (fun _ v4 _ _ _ _ _ _ _ _ _ _ _ _ _ _ _ => n - (intOf v4).toNat)
  case atStart => exact ⟨0, rfl, by omega, none, 0, 0, rfl, by omega, Lib.hid ⟨owns_nil _ _ _ _, Below.refl _ _⟩⟩
  case round =>
    obtain ⟨i, rfl, hi, A', m', c', rfl, hm', hI⟩ := hrel
    by_cases hlt : i < n
    · obtain ⟨b', o, rfl, hbl, hc⟩ := (H.out.below hI.out.2).get (by omega)
      have hcell := hc i hlt
      have hl := H.out.len
      have e1 := zform_snoc (l := xs) (k := i) (by omega)
      rw [List.getD_eq_getElem?_getD] at hcell
      have hx := HI.out (xs[i]?.getD 0) (by rw [List.getElem?_eq_getElem (by omega)]; exact List.getElem_mem _)
      obtain ⟨x, hxe⟩ : ∃ x, xs[i]?.getD 0 = x := ⟨_, rfl⟩
      rw [hxe] at hcell e1 hx
      obtain ⟨hx0, hx1⟩ := hx
      obtain ⟨z, hz⟩ := Int.eq_ofNat_of_zero_le (zig_nonneg x)
      have hz2 := zig_max x hx0 hx1
      have hzig := fun w => refZig_any x w hx0 hx1
      rw [hz] at hz2 hzig
      rw [hz, Int.toNat_natCast] at e1
      have hv10 := vput_len_u64 z (by omega)
      have E1 := Lib.hid e1
      have HZ := Lib.hid hzig
      have HV10 := Lib.hid hv10
      have HPUT := Lib.hid (fun w => refVPut_any z w hz2)
      clear hc hl e1 hxe hz hzig hv10
      go_wp2_with fail
      refine (HZ.out _).mono ?_
      rintro e w2 ⟨rfl, rfl⟩
      go_wp2_with fail
      refine (HPUT.out _).mono ?_
      rintro e w2 ⟨A2, m2, c2, rfl, hown2, hb2⟩
      have hm2 : m2 ≤ 10 := by have := row_len hown2; have := HV10.out; omega
      have HR2 := Lib.hid (Rd.own hown2)
      have HO := Lib.hid (hI.out.1.below hb2)
      have HB := Lib.hid (hI.out.2.trans (hb2.mono hI.out.2.size))
      clear hown2 hb2
      go_wp2_with (at_builtin; refine wpList_append_r rfl rfl elemU8 HO.out rfl (Rd.toV HR2.out) rfl ints_one (by omega) (by omega) HB.out.size ?_; intro A3 c3 w3 hown hg _)
      go_roundw
      case rel =>
        refine ⟨i + 1, by go_num, by omega, A3, m' + m2, c3, rfl, by omega, Lib.hid ⟨?_, below_grown HB.out HO.out hg HB.out.size⟩⟩
        rw [← E1.out]
        exact owns_app hown
      case measure => simp [intOf] <;> omega
    · go_wp2
      go_ret
      obtain rfl : i = n := by omega
      refine ⟨A', m', c', rfl, ?_, hI.out.2⟩
      have := hI.out.1
      rwa [List.take_of_length_le (by have := H.out.len; omega)] at this

set_option maxRecDepth 100000 in
set_option maxHeartbeats 2000000 in
theorem refZDecode_any (w : World) (A : Option Addr) (n c : Nat) (ys : List Int) (N : Int) (h : Rd w .u8 A n c ys) (hby : By ys) (hn : n ≤ 100000) :
    Calls Try.prog 19 #[.slice A n c, .int .i64 N] w (DecG w.heap.size w zdec ys N) := by
  have hlen := h.len
  have hbk := refBlock_any N
  obtain ⟨q, hq⟩ : ∃ q, blk N = q := ⟨_, rfl⟩
  have hP : zdec ys N = (rlist N n (zrun N.toNat ys).2.1 (zrun N.toNat ys).2.2 (zrun N.toNat ys).1, rerr N n (zrun N.toNat ys).2.1 (zrun N.toNat ys).2.2) := by unfold zdec; rw [hlen]
  rw [hq] at hbk
  have HBK := Lib.hid hbk
  have H := Lib.hid h
  have HBY := Lib.hid hby
  have HLEN := Lib.hid hlen
  cases q with
  | false =>
    have HP := Lib.hid (show zdec ys N = ([], 7) by rw [hP, (rerr_blk hq).1, (rerr_blk (l := []) hq).2])
    clear h hby hlen hbk hq hP
    go_enter Try.func19, Try.ntmps19
    go_wp2_with fail
    refine (HBK.out w).mono ?_
    rintro e w' ⟨rfl, rfl⟩
    go_wp2
    go_ret2
    exact ⟨none, 0, 0, by rw [HP.out]; rfl, by rw [HP.out]; exact owns_nil _ _ _ _, Below.refl _ _⟩
  | true =>
    have hN := of_decide_eq_true hq
    obtain ⟨M, rfl⟩ := Int.eq_ofNat_of_zero_le (show 0 ≤ N by omega)
    have hM : M ≤ 1024 := by omega
    rw [show ((M : Int)).toNat = M from rfl] at hP
    have hst := zrun_start M ys
    obtain ⟨R, hR⟩ : ∃ R, zrun M ys = R := ⟨_, rfl⟩
    have HST := Lib.hid (show R = zlift [] 0 (zrun (M - 0) (ys.drop 0)) by rw [Nat.sub_zero, List.drop_zero, ← hR]; exact hst)
    rw [hR] at hP
    have HP := Lib.hid hP
    have HQ := Lib.hid hq
    clear h hby hlen hbk hq hP hN hst hR
    go_enter Try.func19, Try.ntmps19
    go_wp2_with fail
    refine (HBK.out w).mono ?_
    rintro e w' ⟨rfl, rfl⟩
    go_wp2
    go_loopw [0, 6, 7, 8, 9, 10, 14, 15, 16, 17, 18, 19, 20, 21, 22, 23, 24, 25, 26, 28, 29, 30, 31, 32, 33, 34, 35] (fun v0 v6 v7 _ _ _ _ _ _ _ _ _ _ _ _ _ _ _ _ _ _ _ _ _ _ _ _ wr => ∃ i : Nat, v7 = .int .i64 i ∧ i ≤ M ∧ ∃ A' c', v6 = .slice A' i c' ∧ ∃ l a, a ≤ n ∧ ∃ A0 c0, v0 = .slice A0 (n - a) c0 ∧ Hid (Owns wr w.heap.size 2 .i64 A' i c' l ∧ Rd w .u8 A0 (n - a) c0 (ys.drop a) ∧ Below w.heap.size w wr ∧ R = zlift l a (zrun (M - i) (ys.drop a))))
      (fun _ _ v7 _ _ _ _ _ _ _ _ _ _ _ _ _ _ _ _ _ _ _ _ _ _ _ _ _ => M - (intOf v7).toNat)
    case atStart => exact ⟨0, rfl, by omega, none, 0, rfl, [], 0, by omega, A, c, rfl, Lib.hid ⟨owns_nil _ _ _ _, by rw [Nat.sub_zero, List.drop_zero]; exact H.out, Below.refl _ _, HST.out⟩⟩
    case round =>
      obtain ⟨i, rfl, hi, A', c', rfl, l, a, han, A0, c0, rfl, hI⟩ := hrel
      by_cases hlt : i < M
      · have hbd := hI.out.2.2.2
        rw [show M - i = (M - (i + 1)) + 1 by omega] at hbd
        have hget := refGet_any A0 (n - a) c0 (ys.drop a) wr (hI.out.2.1.below hI.out.2.2.1) (HBY.out.drop a) (by omega)
        obtain ⟨g, hg⟩ : ∃ g, vget 0 (ys.drop a) = g := ⟨_, rfl⟩
        rw [hg] at hget
        obtain ⟨v, m, er⟩ := g
        simp only at hget
        have HGET := Lib.hid hget
        by_cases h0 : er = 0
        · subst h0
          have hgg := zrun_get (HBY.out.drop a) (by rw [hg])
          have hR' := hbd.trans (zlift_step l a (M - (i + 1)) (ys.drop a) (by rw [hg]))
          rw [hg, List.drop_drop] at hR'
          rw [hg, List.length_drop, HLEN.out] at hgg
          dsimp only at hgg hR'
          obtain ⟨k, rfl⟩ := Int.eq_ofNat_of_zero_le (show 0 ≤ m by have := hgg.2.2.1; omega)
          simp only [Int.toNat_natCast] at hR' hgg
          have HR := Lib.hid hR'
          have hk : k ≤ n - a := hgg.2.1
          have HZ := Lib.hid (fun w => refZag_any v w hgg.2.2.2.1 hgg.2.2.2.2)
          clear hbd hget hg hgg hR'
          go_wp2_with fail
          refine HGET.out.mono ?_
          rintro e w' ⟨rfl, rfl⟩
          go_wp2_with fail
          refine (HZ.out _).mono ?_
          rintro e w' ⟨rfl, rfl⟩
          go_wp2_with (at_builtin; refine wpList_append_r rfl rfl elemI64 (hI.out.1.alloc _) rfl (RdV.one (Box.new _ _ _)) rfl one_one (by omega) (by omega) (by have := hI.out.2.2.1.size; simp; omega) ?_; intro A2 c2 w3 hown hg _)
          have HG := Lib.hid (below_grown (hI.out.2.2.1.alloc hI.out.2.2.1.size _) (hI.out.1.alloc _) hg (by have := hI.out.2.2.1.size; simp; omega))
          have HO3 := Lib.hid (owns_snoc hown)
          clear hown hg
          have HRD := Lib.hid (hI.out.2.1.tail hk)
          go_roundw
          case rel => exact ⟨i + 1, by go_num, by omega, A2, c2, rfl, _, a + k, by omega, _, _, by rw [Nat.sub_add_eq], Lib.hid ⟨HO3.out, by have := HRD.out; rw [List.drop_drop] at this; rw [Nat.sub_add_eq]; exact this, HG.out, HR.out⟩⟩
          case measure => simp [intOf] <;> omega
        · have hR' := hbd.trans (zlift_err l a (M - (i + 1)) (ys.drop a) (by rw [hg]; exact h0))
          rw [hg] at hR'
          have HR := Lib.hid hR'
          clear hbd hget hg hR'
          have hne : (er != 0) = true := by simp [h0]
          have H0 := Lib.hid h0
          clear h0
          go_wp2_with fail
          refine HGET.out.mono ?_
          rintro e w' ⟨rfl, rfl⟩
          go_wp2
          go_ret2
          have e0 := HP.out
          rw [HR.out, (rerr_err HQ.out H0.out).1, (rerr_err (l := []) HQ.out H0.out).2] at e0
          exact ⟨none, 0, 0, by rw [e0]; rfl, by rw [e0]; exact owns_nil _ _ _ _, hI.out.2.2.1⟩
      · obtain rfl : i = M := by omega
        have hR' := hI.out.2.2.2
        rw [Nat.sub_self, zlift_end] at hR'
        have e0 := HP.out
        rw [hR'] at e0
        by_cases hlong : a < n
        · rw [(rerr_long HQ.out rfl hlong).1, (rerr_long (l := []) HQ.out rfl hlong).2] at e0
          have E0 := Lib.hid e0
          have hpos : (0 : Int) < ((n - a : Nat) : Int) := by omega
          clear e0 hR'
          go_wp2
          go_ret2
          exact ⟨none, 0, 0, by rw [E0.out]; rfl, by rw [E0.out]; exact owns_nil _ _ _ _, hI.out.2.2.1⟩
        · rw [(rerr_ok HQ.out rfl hlong).1, (rerr_ok (l := []) HQ.out rfl hlong).2] at e0
          have E0 := Lib.hid e0
          obtain rfl : a = n := by omega
          clear e0 hR'
          go_wp2
          go_ret2
          exact ⟨A', i, c', by rw [E0.out]; rfl, by rw [E0.out]; exact hI.out.1, hI.out.2.2.1⟩

theorem zName_any (w : World) : Calls Try.prog 17 #[.agg #[]] w fun e w' => e = .returned (.string ⟨#[122, 118, 97, 114]⟩) ∧ Below w.heap.size w w' := by
  go_enter Try.func17, Try.ntmps17
  go_wp2
  go_ret
  exact ⟨rfl, (Below.refl _ _).alloc (Nat.le_refl _) _⟩

set_option maxRecDepth 100000 in
set_option maxHeartbeats 1000000 in
theorem awake08 (w : World) : Calls Try.prog 14 #[] w fun e w' => e = .returned (.bool true) ∧ Below w.heap.size w w' := by
  have he := zvarE.c _ _ 3 3 [0, -1, 64] (Rd.lit w 2 .i64 [0, -1, 64]) (by intro x hx; simp at hx; rcases hx with rfl | rfl | rfl <;> exact ⟨by decide, by decide⟩) (by decide)
  unfold EncG at he
  rw [show wrg tkAll [0, -1, 64] = 0 by decide +kernel, show tak tkAll [0, -1, 64] = true by decide +kernel, if_pos rfl] at he
  have HE := Lib.hid he
  have e1 : strOfNums (zform [0, -1, 64]) = ⟨#[0, 1, 128, 1]⟩ := by decide +kernel
  have E1 := Lib.hid e1
  clear he e1
  go_enter Try.func14, Try.ntmps14
  go_wp2_with fail
  refine HE.out.mono ?_
  rintro e w1 ⟨A1, m1, c1, rfl, hown, hb1⟩
  have hcv := conv_bytes (Rd.own hown) 29 5 9 Try.underlying29 Try.underlying5 Try.underlying9
  rw [E1.out] at hcv
  have hcv2 := conv_bytes (Rd.lit w1 5 .u8 [0, 1, 128, 1]) 29 5 9 Try.underlying29 Try.underlying5 Try.underlying9
  rw [show strOfNums [0, 1, 128, 1] = ⟨#[0, 1, 128, 1]⟩ by decide +kernel] at hcv2
  simp only [List.map_cons, List.map_nil, List.length_cons, List.length_nil] at hcv2
  have HB := Lib.hid (((Below.refl w.heap.size w).alloc (Nat.le_refl _) _).trans (hb1.mono (by simp)))
  clear hown hb1
  go_wp2
  go_ret
  exact ⟨rfl, HB.out.alloc HB.out.size _⟩
end Go.Proofs.Ytbfnaigefmdcdaa
