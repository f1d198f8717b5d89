/-
  The reference: the block of a plain form.
-/
import Derived.Test.YthpndhdpohmoaaaRefD
import Derived.Test.YthpndhdpohmoaaaPlainD
namespace Go.Proofs.Ythpndhdpohmoaaa
open Go.RowKit Go.Cor Go.Free

set_option maxRecDepth 100000 in
set_option maxHeartbeats 2000000 in
theorem refPDecode_any (w : World) (A : Option Addr) (n c : Nat) (ys : List Int) (N : Int) (h : Rd w .u8 A n c ys) (hby : By ys) (hn : n ≤ 100000) (h1 : -9223372036854775808 ≤ N) (h2 : N ≤ 9223372036854775807) :
    Calls Try.prog 47 #[.slice A n c, .int .i64 N] w (DecG w.heap.size w pdec ys N) := by
  have hlen := h.len
  have hbk := refBlock_any N
  obtain ⟨q, hq⟩ : ∃ q, blk N = q := ⟨_, rfl⟩
  have hP : pdec ys N = (rlist N n (8 * N.toNat) (perr ys N) (pnums ys N.toNat), rerr N n (8 * N.toNat) (perr ys N)) := by unfold pdec; rw [hlen]
  have hpe : perr ys N = if (n : Int) < 8 * N then 1 else 0 := by unfold perr; rw [hlen]
  rw [hq] at hbk
  have HBK := Lib.hid hbk
  have H := Lib.hid h
  have HBY := Lib.hid hby
  cases q with
  | false =>
    have HP := Lib.hid (show pdec ys N = ([], 7) by rw [hP, (rerr_blk hq).1, (rerr_blk (l := []) hq).2])
    clear h hby hlen hbk hq hP hpe
    go_enter Try.func47, Try.ntmps47
    go_wp2_with fail
    refine (HBK.out w).mono ?_
    rintro e w' ⟨rfl, rfl⟩
    go_wp2
    go_ret2
    exact ⟨none, 0, 0, by rw [HP.out]; rfl, by rw [HP.out]; exact owns_nil _ _ _ _, Below.refl _ _⟩
  | true =>
    have hN := of_decide_eq_true hq
    obtain ⟨M, rfl⟩ := Int.eq_ofNat_of_zero_le (show 0 ≤ N by omega)
    have hM : M ≤ 1024 := by omega
    have hM1 : 1 ≤ M := by omega
    rw [show ((M : Int)).toNat = M from rfl] at hP
    rcases Nat.lt_trichotomy n (8 * M) with hlt | heq | hgt
    · have HP := Lib.hid (show pdec ys M = ([], 1) by rw [hP, hpe, if_pos (by omega), (rerr_err hq (by decide)).1, (rerr_err (l := []) hq (by decide)).2])
      clear h hby hlen hbk hq hP hpe hN
      go_enter Try.func47, Try.ntmps47
      go_wp2_with fail
      refine (HBK.out w).mono ?_
      rintro e w' ⟨rfl, rfl⟩
      go_wp2
      go_ret2
      exact ⟨none, 0, 0, by rw [HP.out]; rfl, by rw [HP.out]; exact owns_nil _ _ _ _, Below.refl _ _⟩
    · have HP := Lib.hid (show pdec ys M = (pnums ys M, 0) by rw [hP, hpe, if_neg (by omega), (rerr_ok hq rfl (by omega)).1, (rerr_ok (l := []) hq rfl (by omega)).2])
      clear h hby hlen hbk hq hP hpe hN
      subst heq
      go_enter Try.func47, Try.ntmps47
      go_wp2_with fail
      refine (HBK.out w).mono ?_
      rintro e w' ⟨rfl, rfl⟩
      go_wp2
      go_loopw [6, 7, 21, 22, 23, 24, 25, 26, 27, 28, 29, 30, 31, 32, 33, 34, 35, 36, 37] (fun v6 v7 _ _ _ _ _ _ _ _ _ _ _ _ _ _ _ _ _ wr => ∃ i : Nat, v7 = .int .i64 i ∧ i ≤ M ∧ ∃ A' c', v6 = .slice A' i c' ∧ Hid (Owns wr w.heap.size 2 .i64 A' i c' (pnums ys i) ∧ Below w.heap.size w wr))
        (fun _ v7 _ _ _ _ _ _ _ _ _ _ _ _ _ _ _ _ _ _ => M - (intOf v7).toNat)
      case atStart => exact ⟨0, rfl, by omega, none, 0, rfl, Lib.hid ⟨owns_nil _ _ _ _, Below.refl _ _⟩⟩
      case round =>
        obtain ⟨i, rfl, hi, A', c', rfl, hI⟩ := hrel
        by_cases hlt : i < M
        · have e1 := pnums_snoc ys i
          obtain ⟨z, hz⟩ : ∃ z, num ((ys.drop (8 * i)).take 8) = z := ⟨_, rfl⟩
          rw [hz] at e1
          have E1 := Lib.hid e1
          have HZ := Lib.hid hz
          have e2 : IntKind.i64.wrap z = w64 z := wrapi64 z
          clear e1 hz
          go_wp2_with ((refine wpList_slice_lh (o := ⟨some 33, _, _, _, _, _⟩) rfl rfl elemU8 (H.out.below hI.out.2) rfl (kl := .i64) (kh := .i64) (l := 8 * i) (j := 8 * i + 8) rfl rfl (by omega) (by omega) ?_; intro A5 c5 hrd; rw [Nat.add_sub_cancel_left] at hrd; have HRD := Lib.hid hrd; clear hrd))
          have hRN := refNumber_any A5 8 c5 _ wr HRD.out ((HBY.out.drop _).take _) (by decide)
          rw [HZ.out] at hRN
          have HRN := Lib.hid hRN
          clear hRN
          go_wp2_with fail
          refine HRN.out.mono ?_
          rintro e w2 ⟨rfl, rfl⟩
          go_wp2_with (at_builtin; refine wpList_append_r rfl rfl elemI64 (hI.out.1.alloc _) rfl (RdV.one (Box.new _ _ _)) rfl one_one (by omega) (by omega) (by have := hI.out.2.size; simp; omega) ?_; intro A2 c2 w3 hown hg _)
          have HG := Lib.hid (below_grown (hI.out.2.alloc hI.out.2.size _) (hI.out.1.alloc _) hg (by have := hI.out.2.size; simp; omega))
          have HO3 := Lib.hid (owns_snoc hown)
          clear hown hg
          go_roundw
          case rel =>
            refine ⟨i + 1, by go_num, by omega, A2, c2, rfl, Lib.hid ⟨?_, HG.out⟩⟩
            rw [← E1.out]; exact HO3.out
          case measure => simp [intOf] <;> omega
        · obtain rfl : i = M := by omega
          go_wp2
          go_ret2
          exact ⟨A', i, c', by rw [HP.out]; rfl, by rw [HP.out]; exact hI.out.1, hI.out.2⟩
    · have HP := Lib.hid (show pdec ys M = ([], 2) by rw [hP, hpe, if_neg (by omega), (rerr_long hq rfl (by omega)).1, (rerr_long (l := []) hq rfl (by omega)).2])
      clear h hby hlen hbk hq hP hpe hN
      go_enter Try.func47, Try.ntmps47
      go_wp2_with fail
      refine (HBK.out w).mono ?_
      rintro e w' ⟨rfl, rfl⟩
      go_wp2
      go_ret2
      exact ⟨none, 0, 0, by rw [HP.out]; rfl, by rw [HP.out]; exact owns_nil _ _ _ _, Below.refl _ _⟩
end Go.Proofs.Ythpndhdpohmoaaa
