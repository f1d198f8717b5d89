/-
  CursorReads: for every input the law returns true; the arguments read behind the call as they read before. No condition.
-/
import Derived.Test.YthpndhdpohmoaaaCurO
import Derived.Deep.CutBlock
import Derived.ChangeOld
namespace Go.Proofs.Ythpndhdpohmoaaa
open Go.RowKit Go.Cor Go.Free

set_option maxRecDepth 100000 in
set_option maxHeartbeats 4000000 in
theorem CursorReads_walk (W : World) (A : Option Addr) (n c : Nat) (xs : List Int) (h : Rd W .u8 A n c xs) (hi : In .u8 xs) (B : Option Addr) (m d : Nat) (l : List (Int × Int)) (h' : RdA W B m d l) (hf : ∀ z ∈ l, AFit z) :
    Calls Try.prog 7 #[.slice A n c, .slice B m d] W fun e w' => e = .returned (.bool true) ∧ Below W.heap.size W w' := by
  by_cases hn : 200 < n
  · clear h hi h' hf
    go_enter Try.func7, Try.ntmps7
    go_wp2
    go_ret
    exact ⟨rfl, Below.refl _ _⟩
  by_cases hm : 40 < m
  · clear h hi h' hf
    go_enter Try.func7, Try.ntmps7
    go_wp2
    go_ret
    exact ⟨rfl, Below.refl _ _⟩
  have hby : By xs := fun x hx => hi x hx
  have hl := h.len
  have HN := Lib.hid (new_any A n c xs W h (by omega) hby)
  have H := Lib.hid h
  have H' := Lib.hid h'
  have HF := Lib.hid hf
  have HX := Lib.hid (And.intro hby hl)
  clear h hi h' hf hby hl
  go_enter Try.func7, Try.ntmps7
  go_wp2_with fail
  refine HN.out.mono ?_
  rintro e w1 ⟨p, A1, c1, rfl, hcu, hb1, hp, hA1⟩
  have HC := Lib.hid hcu
  have HB1 := Lib.hid hb1
  have HP := Lib.hid (And.intro hp (And.intro hcu.lt hb1.size))
  have e0 : ∀ w : World, (binOp BinOp.eql 51 (.pointer (some ⟨p, 0, none⟩)) (.pointer none)).run Try.prog w = .ok (.bool false) w := fun _ => rfl
  clear hcu hb1 hp HN
  go_wp2_with (at_builtin; refine wpList_append_r rfl rfl elemU8 (owns_lit0 (Nat.le_refl _)) rfl (Rd.toV ((H.out.below HB1.out).alloc _)) rfl ints_one (by omega) (by omega) (by simp) ?_; intro A2 c2 w2 hown hg _; have HO := Lib.hid (owns_start hown); have hb2 := below_grown ((Below.refl _ _).alloc (Nat.le_refl _) _) (owns_lit0 (E := 5) (size := 1) (Nat.le_refl _)) hg (by simp); have HB2 := Lib.hid hb2; clear hown hg hb2)
  have hq3 : Below W.heap.size W (w2.alloc (.cells #[.slice A2 n c2, .int .i64 0] 62)) := (HB1.out.trans (HB2.out.mono HB1.out.size)).alloc (Nat.le_trans HB1.out.size HB2.out.size) _
  have hb13 : Below w1.heap.size w1 (w2.alloc (.cells #[.slice A2 n c2, .int .i64 0] 62)) := HB2.out.alloc HB2.out.size _
  have hne2 : ∀ b o, A2 = some ⟨b, o, none⟩ → w1.heap.size ≤ b ∧ b < w2.heap.size := fun b o e => by subst e; exact HO.out.lt b rfl
  have hne1 : 0 < n → ∀ b o, A1 = some ⟨b, o, none⟩ → b < w1.heap.size := fun hp b o e => by
    obtain ⟨b', o', e', hlt, _⟩ := HC.out.rd.get hp
    rw [e] at e'; injection e' with e'; injection e' with e1 e2; omega
  have hrc0 : RCur (w2.alloc (.cells #[.slice A2 n c2, .int .i64 0] 62)) w2.heap.size A2 n c2 xs 0 := ⟨heap_alloc_new _ _, (Rd.own HO.out).alloc _, fun b o e => by have := (hne2 b o e).2; omega, by omega, by omega, HX.out.1⟩
  have HQ := Lib.hid (And.intro (show p < w2.heap.size from by have := HP.out.2.1; have := HB2.out.size; omega) (And.intro hne2 hne1))
  have HI0 := Lib.hid (And.intro (HC.out.below hb13) (And.intro hrc0 hq3))
  have hpl := HP.out.1
  have hql := HB2.out.size
  have hql2 := HB1.out.size
  have HW := Lib.hid (show W.heap.size ≤ p ∧ p < w1.heap.size ∧ W.heap.size ≤ w2.heap.size from ⟨hpl, HP.out.2.1, by omega⟩)
  have HW2 := Lib.hid hql
  clear hq3 hb13 hne2 hne1 hrc0 hpl hql hql2 HC HB1 HB2 HO HP
  revert HI0
  generalize w2.alloc (.cells #[.slice A2 n c2, .int .i64 0] 62) = w3
  intro HI0
  obtain ⟨q, hq⟩ : ∃ q, w2.heap.size = q := ⟨_, rfl⟩
  rw [hq] at HI0 HQ HW HW2 ⊢
  clear hq
  go_loopg [7] m (fun g v7 wr => ∃ i : Nat, v7 = .int .i64 i ∧ i ≤ m ∧ g = m - i ∧ Hid (∃ at_, Cur wr p A1 n c1 xs at_ ∧ RCur wr q A2 n c2 xs at_ ∧ Below W.heap.size W wr))
  case atStart => exact ⟨0, rfl, by omega, by omega, Lib.hid ⟨0, HI0.out⟩⟩
  case round =>
    obtain ⟨i, rfl, hi, rfl, hI⟩ := hrel
    by_cases hlt : i < m
    · obtain ⟨at_, hcu, hrc, hb⟩ := hI.out
      obtain ⟨b, o, dd, mm, rfl, hbl, hz, k0, k1⟩ := rdA_at (H'.out.below hb) hlt
      have hfit := HF.out _ (List.mem_of_getElem? hz)
      obtain ⟨hd0, hd1, hm0, hm1⟩ := hfit
      simp only at hd0 hd1 hm0 hm1
      have HASK := Lib.hid (asked_any dd mm hd0 hcu)
      have HR0 := Lib.hid (And.intro hrc hb)
      have hwq := lt_of_block hrc.blk
      have hWr := hb.size
      have HZ := Lib.hid hz
      clear hcu hrc hb hI hz
      go_wp2_with fail
      refine HASK.out.mono ?_
      rintro e w5 ⟨⟨A8, k8, c8, rfl, ho8⟩, hcu, hm⟩
      have hrc5 : RCur w5 q A2 n c2 xs at_ := HR0.out.1.keep hm (by have := HQ.out.1; intro e; omega) (fun b o e => by have := (HQ.out.2.1 b o e).1; have := HW.out.2.1; intro e; omega)
      have hb5 : Below W.heap.size W w5 := HR0.out.2.trans (hm.below HR0.out.2.size (by rintro k rfl; exact HW.out.1))
      have hK := rdA_cell (H'.out.below hb5) HZ.out
      obtain ⟨k0', k1'⟩ := hK
      obtain ⟨r, hr⟩ : ∃ r, cstep xs at_ dd mm = r := ⟨_, rfl⟩
      have HS := Lib.hid hr
      rw [hr] at ho8 hcu ⊢
      have H5 := Lib.hid (And.intro ho8 (And.intro hcu (And.intro hrc5 hb5)))
      clear ho8 hcu hm hrc5 hb5 hr k0 k1 HASK HR0
      go_upto_block 2 with fail
      go_cut [10, 11] from 49 to 85 (fun v10 v11 wx => ∃ A9 k9 c9, v10 = .slice A9 k9 c9 ∧ v11 = .int .i64 r.2.1 ∧ Hid (Rd wx .u8 A9 k9 c9 r.1 ∧ Rd wx .u8 A8 k8 c8 r.1 ∧ Cur wx p A1 n c1 xs r.2.2 ∧ RCur wx q A2 n c2 xs r.2.2 ∧ Below W.heap.size W wx))
      case first =>
        obtain rfl | rfl | rfl | rfl | rfl | rfl | h6 : dd = 0 ∨ dd = 1 ∨ dd = 2 ∨ dd = 3 ∨ dd = 4 ∨ dd = 5 ∨ 5 < dd := by omega
        · skip
          have hR := refBytes_any H5.out.2.2.1 1 (by decide)
          rw [← cstep0 xs at_ mm, HS.out] at hR
          have HRB := Lib.hid hR
          clear hR
          go_wp2_with fail
          refine HRB.out.mono ?_
          rintro e w6 ⟨⟨A9, k9, c9, rfl, ho9⟩, hrc6, hm6⟩
          have HX6 := Lib.hid (And.intro ho9 (And.intro (Rd.own (owns_keep H5.out.1 hm6 fun g hg _ => by have := (H5.out.1.lt g hg).1; intro e; omega)) (And.intro (Cu.keep0 H5.out.2.1 hm6 (by have := HQ.out.1; intro e; omega) (fun hp b o e => by have := HQ.out.2.2 hp b o e; have := HW2.out; intro e; omega))
            (And.intro hrc6 (H5.out.2.2.2.trans (hm6.below H5.out.2.2.2.size (by rintro k rfl; exact HW.out.2.2)))))))
          clear ho9 hrc6 hm6 HRB
          go_wp2_with fail
          go_meet
          exact ⟨A9, k9, c9, rfl, rfl, HX6⟩
        · skip
          have hR := refBytes_any H5.out.2.2.1 2 (by decide)
          rw [← cstep1 xs at_ mm, HS.out] at hR
          have HRB := Lib.hid hR
          clear hR
          go_wp2_with fail
          refine HRB.out.mono ?_
          rintro e w6 ⟨⟨A9, k9, c9, rfl, ho9⟩, hrc6, hm6⟩
          have HX6 := Lib.hid (And.intro ho9 (And.intro (Rd.own (owns_keep H5.out.1 hm6 fun g hg _ => by have := (H5.out.1.lt g hg).1; intro e; omega)) (And.intro (Cu.keep0 H5.out.2.1 hm6 (by have := HQ.out.1; intro e; omega) (fun hp b o e => by have := HQ.out.2.2 hp b o e; have := HW2.out; intro e; omega))
            (And.intro hrc6 (H5.out.2.2.2.trans (hm6.below H5.out.2.2.2.size (by rintro k rfl; exact HW.out.2.2)))))))
          clear ho9 hrc6 hm6 HRB
          go_wp2_with fail
          go_meet
          exact ⟨A9, k9, c9, rfl, rfl, HX6⟩
        · skip
          have hR := refBytes_any H5.out.2.2.1 4 (by decide)
          rw [← cstep2 xs at_ mm, HS.out] at hR
          have HRB := Lib.hid hR
          clear hR
          go_wp2_with fail
          refine HRB.out.mono ?_
          rintro e w6 ⟨⟨A9, k9, c9, rfl, ho9⟩, hrc6, hm6⟩
          have HX6 := Lib.hid (And.intro ho9 (And.intro (Rd.own (owns_keep H5.out.1 hm6 fun g hg _ => by have := (H5.out.1.lt g hg).1; intro e; omega)) (And.intro (Cu.keep0 H5.out.2.1 hm6 (by have := HQ.out.1; intro e; omega) (fun hp b o e => by have := HQ.out.2.2 hp b o e; have := HW2.out; intro e; omega))
            (And.intro hrc6 (H5.out.2.2.2.trans (hm6.below H5.out.2.2.2.size (by rintro k rfl; exact HW.out.2.2)))))))
          clear ho9 hrc6 hm6 HRB
          go_wp2_with fail
          go_meet
          exact ⟨A9, k9, c9, rfl, rfl, HX6⟩
        · skip
          have hR := refBytes_any H5.out.2.2.1 8 (by decide)
          rw [← cstep3 xs at_ mm, HS.out] at hR
          have HRB := Lib.hid hR
          clear hR
          go_wp2_with fail
          refine HRB.out.mono ?_
          rintro e w6 ⟨⟨A9, k9, c9, rfl, ho9⟩, hrc6, hm6⟩
          have HX6 := Lib.hid (And.intro ho9 (And.intro (Rd.own (owns_keep H5.out.1 hm6 fun g hg _ => by have := (H5.out.1.lt g hg).1; intro e; omega)) (And.intro (Cu.keep0 H5.out.2.1 hm6 (by have := HQ.out.1; intro e; omega) (fun hp b o e => by have := HQ.out.2.2 hp b o e; have := HW2.out; intro e; omega))
            (And.intro hrc6 (H5.out.2.2.2.trans (hm6.below H5.out.2.2.2.size (by rintro k rfl; exact HW.out.2.2)))))))
          clear ho9 hrc6 hm6 HRB
          go_wp2_with fail
          go_meet
          exact ⟨A9, k9, c9, rfl, rfl, HX6⟩
        · skip
          have hR := refBytes_any H5.out.2.2.1 mm hm1
          rw [← cstep4 xs at_ mm, HS.out] at hR
          have HRB := Lib.hid hR
          clear hR
          go_wp2_with fail
          refine HRB.out.mono ?_
          rintro e w6 ⟨⟨A9, k9, c9, rfl, ho9⟩, hrc6, hm6⟩
          have HX6 := Lib.hid (And.intro ho9 (And.intro (Rd.own (owns_keep H5.out.1 hm6 fun g hg _ => by have := (H5.out.1.lt g hg).1; intro e; omega)) (And.intro (Cu.keep0 H5.out.2.1 hm6 (by have := HQ.out.1; intro e; omega) (fun hp b o e => by have := HQ.out.2.2 hp b o e; have := HW2.out; intro e; omega))
            (And.intro hrc6 (H5.out.2.2.2.trans (hm6.below H5.out.2.2.2.size (by rintro k rfl; exact HW.out.2.2)))))))
          clear ho9 hrc6 hm6 HRB
          go_wp2_with fail
          go_meet
          exact ⟨A9, k9, c9, rfl, rfl, HX6⟩
        · have hc := H5.out.2.2.1.c1
          by_cases hat : at_ < n
          · have hr : r = ([], 2, at_) := by rw [← HS.out]; unfold cstep; rw [if_neg (by decide), if_pos rfl, if_pos (by have := HX.out.2; omega)]
            subst hr
            go_wp2_with fail
            go_meet
            exact ⟨none, 0, 0, rfl, rfl, Lib.hid ⟨Rd.nilv _ _, Rd.own H5.out.1, H5.out.2⟩⟩
          · have hr : r = ([], 0, at_) := by rw [← HS.out]; unfold cstep; rw [if_neg (by decide), if_pos rfl, if_neg (by have := HX.out.2; omega)]
            subst hr
            go_wp2_with fail
            go_meet
            exact ⟨none, 0, 0, rfl, rfl, Lib.hid ⟨Rd.nilv _ _, Rd.own H5.out.1, H5.out.2⟩⟩
        · have hr : r = ([], 0, at_) := by rw [← HS.out]; unfold cstep; rw [if_neg (by omega), if_neg (by omega)]
          subst hr
          have f0 : (dd == 0) = false := by simp; omega
          have f1 : (dd == 1) = false := by simp; omega
          have f2 : (dd == 2) = false := by simp; omega
          have f3 : (dd == 3) = false := by simp; omega
          have f4 : (dd == 4) = false := by simp; omega
          have f5 : (dd == 5) = false := by simp; omega
          clear h6
          go_wp2_with fail
          go_meet
          exact ⟨none, 0, 0, rfl, rfl, Lib.hid ⟨Rd.nilv _ _, Rd.own H5.out.1, H5.out.2⟩⟩
      case rest =>
        obtain ⟨A9, k9, c9, rfl, rfl, hc⟩ := hcut
        obtain ⟨at2, hat2⟩ : ∃ a, r.2.2 = a := ⟨_, rfl⟩
        obtain ⟨er, her⟩ : ∃ a, r.2.1 = a := ⟨_, rfl⟩
        obtain ⟨ys, hys⟩ : ∃ a, r.1 = a := ⟨_, rfl⟩
        rw [hat2, hys] at hc
        rw [her]
        have hle := hc.out.2.2.1.le
        have hqw := lt_of_block hc.out.2.2.2.1.blk
        have hWx := hc.out.2.2.2.2.size
        clear H5 HS hat2 her hys k0' k1'
        go_upto_region 23 with fail
        refine wp_region_free 44 (by kernel_rfl) (by kernel_rfl) ?_
        refine chain_val (.slice A8 k8 c8) (S := [8]) rfl ?_ ?_
        · intro ρ w' hE hB hs
          have h8 : ρ (.tmp 8) = .slice A8 k8 c8 := hs 8 (by decide)
          clear hs
          refine if_t (by rfl) ?_
          (go_simp <;> exact wrapi64_in _ (by omega) (by omega))
        refine chain_val (.string (strOfNums ys)) (S := [86]) rfl ?_ ?_
        · intro ρ w' hE hB hs
          have h86 : ρ (.tmp 86) = .slice A8 k8 c8 := hs 86 (by decide)
          clear hs
          refine if_t (by rfl) ?_
          have hcv := conv_bytes (hc.out.2.1.below hB) 38 5 9 Try.underlying38 Try.underlying5 Try.underlying9
          go_simp
        refine chain_val (.slice A9 k9 c9) (S := [10]) rfl ?_ ?_
        · intro ρ w' hE hB hs
          have h10 : ρ (.tmp 10) = .slice A9 k9 c9 := hs 10 (by decide)
          clear hs
          refine if_t (by rfl) ?_
          (go_simp <;> exact wrapi64_in _ (by omega) (by omega))
        refine chain_val (.string (strOfNums ys)) (S := [88]) rfl ?_ ?_
        · intro ρ w' hE hB hs
          have h88 : ρ (.tmp 88) = .slice A9 k9 c9 := hs 88 (by decide)
          clear hs
          refine if_t (by rfl) ?_
          have hcv := conv_bytes (hc.out.1.below hB) 38 5 9 Try.underlying38 Try.underlying5 Try.underlying9
          go_simp
        refine chain_val (.bool false) (S := [87, 89]) rfl ?_ ?_
        · intro ρ w' hE hB hs
          have h87 : ρ (.tmp 87) = .string (strOfNums ys) := hs 87 (by decide)
          have h89 : ρ (.tmp 89) = .string (strOfNums ys) := hs 89 (by decide)
          clear hs
          refine if_t (by rfl) ?_
          go_simp
        refine chain_val (.bool false) (S := [90]) rfl ?_ ?_
        · intro ρ w' hE hB hs
          have h90 : ρ (.tmp 90) = .bool false := hs 90 (by decide)
          clear hs
          refine if_t (by rfl) ?_
          (go_simp <;> exact wrapi64_in _ (by omega) (by omega))
        refine chain_val (.int .i64 er) (S := [9, 91]) rfl ?_ ?_
        · intro ρ w' hE hB hs
          have h9 : ρ (.tmp 9) = .int .i64 er := hs 9 (by decide)
          have h91 : ρ (.tmp 91) = .bool false := hs 91 (by decide)
          clear hs
          refine if_t (by simp [Region.wanted, yieldedR, h91]) ?_
          (go_simp <;> exact wrapi64_in _ (by omega) (by omega))
        refine chain_val (.int .i64 er) (S := [11, 91]) rfl ?_ ?_
        · intro ρ w' hE hB hs
          have h11 : ρ (.tmp 11) = .int .i64 er := hs 11 (by decide)
          have h91 : ρ (.tmp 91) = .bool false := hs 91 (by decide)
          clear hs
          refine if_t (by simp [Region.wanted, yieldedR, h91]) ?_
          (go_simp <;> exact wrapi64_in _ (by omega) (by omega))
        refine chain_val (.bool false) (S := [92, 93, 91]) rfl ?_ ?_
        · intro ρ w' hE hB hs
          have h91 : ρ (.tmp 91) = .bool false := hs 91 (by decide)
          have h92 : ρ (.tmp 92) = .int .i64 er := hs 92 (by decide)
          have h93 : ρ (.tmp 93) = .int .i64 er := hs 93 (by decide)
          clear hs
          refine if_t (by simp [Region.wanted, yieldedR, h91]) ?_
          go_simp
        refine chain_val (.bool false) (S := [91, 94]) rfl ?_ ?_
        · intro ρ w' hE hB hs
          have h91 : ρ (.tmp 91) = .bool false := hs 91 (by decide)
          have h94 : ρ (.tmp 94) = .bool false := hs 94 (by decide)
          clear hs
          have hc := hE.const
          refine if_t (by rfl) ?_
          (go_simp <;> exact wrapi64_in _ (by omega) (by omega))
        refine chain_val (.bool false) (S := [95]) rfl ?_ ?_
        · intro ρ w' hE hB hs
          have h95 : ρ (.tmp 95) = .bool false := hs 95 (by decide)
          clear hs
          refine if_t (by rfl) ?_
          (go_simp <;> exact wrapi64_in _ (by omega) (by omega))
        refine chain_val (.pointer (some ⟨p, 0, none⟩)) (S := [5, 96]) rfl ?_ ?_
        · intro ρ w' hE hB hs
          have h5 : ρ (.tmp 5) = .pointer (some ⟨p, 0, none⟩) := hs 5 (by decide)
          have h96 : ρ (.tmp 96) = .bool false := hs 96 (by decide)
          clear hs
          refine if_t (by simp [Region.wanted, yieldedR, h96]) ?_
          (go_simp <;> exact wrapi64_in _ (by omega) (by omega))
        refine chain_static (fun v__ _ => v__ = .int .i64 (at2 : Int)) (stable_eq _) (S := [97, 96]) rfl (Go.Cor.enters_f Try.func37 (by kernel_rfl) rfl) rfl ?_ ?_
        · intro ρ w' hE hB hs
          have h96 : ρ (.tmp 96) = .bool false := hs 96 (by decide)
          have h97 : ρ (.tmp 97) = .pointer (some ⟨p, 0, none⟩) := hs 97 (by decide)
          clear hs
          refine ⟨(by simp [Region.wanted, yieldedR, h96]), ?_⟩
          simp only [List.map_toArray, List.map_cons, List.map_nil, h97]
          refine (at_any (hc.out.2.2.1.below hB)).mono ?_
          rintro e w3 ⟨rfl, rfl⟩
          exact ⟨_, rfl, Below.refl _ _, rfl⟩
        refine chain_val (.pointer (some ⟨q, 0, none⟩)) (S := [6, 96]) rfl ?_ ?_
        · intro ρ w' hE hB hs
          have h6 : ρ (.tmp 6) = .pointer (some ⟨q, 0, none⟩) := hs 6 (by decide)
          have h96 : ρ (.tmp 96) = .bool false := hs 96 (by decide)
          clear hs
          refine if_t (by simp [Region.wanted, yieldedR, h96]) ?_
          (go_simp <;> exact wrapi64_in _ (by omega) (by omega))
        refine chain_val (.pointer (some ⟨q, 0, none⟩)) (S := [99, 96]) rfl ?_ ?_
        · intro ρ w' hE hB hs
          have h96 : ρ (.tmp 96) = .bool false := hs 96 (by decide)
          have h99 : ρ (.tmp 99) = .pointer (some ⟨q, 0, none⟩) := hs 99 (by decide)
          clear hs
          refine if_t (by simp [Region.wanted, yieldedR, h96]) ?_
          (go_simp <;> exact wrapi64_in _ (by omega) (by omega))
        refine chain_val (.pointer (some ⟨q, 1, none⟩)) (S := [100, 96]) rfl ?_ ?_
        · intro ρ w' hE hB hs
          have h96 : ρ (.tmp 96) = .bool false := hs 96 (by decide)
          have h100 : ρ (.tmp 100) = .pointer (some ⟨q, 0, none⟩) := hs 100 (by decide)
          clear hs
          refine if_t (by simp [Region.wanted, yieldedR, h96]) ?_
          (go_simp <;> exact wrapi64_in _ (by omega) (by omega))
        refine chain_val (.int .i64 (at2 : Int)) (S := [101, 96]) rfl ?_ ?_
        · intro ρ w' hE hB hs
          have h96 : ρ (.tmp 96) = .bool false := hs 96 (by decide)
          have h101 : ρ (.tmp 101) = .pointer (some ⟨q, 1, none⟩) := hs 101 (by decide)
          clear hs
          refine if_t (by simp [Region.wanted, yieldedR, h96]) ?_
          have hcl := (hc.out.2.2.2.1.below hB).c1
          go_simp
        refine chain_val (.bool false) (S := [98, 102, 96]) rfl ?_ ?_
        · intro ρ w' hE hB hs
          have h96 : ρ (.tmp 96) = .bool false := hs 96 (by decide)
          have h98 : ρ (.tmp 98) = .int .i64 (at2 : Int) := hs 98 (by decide)
          have h102 : ρ (.tmp 102) = .int .i64 (at2 : Int) := hs 102 (by decide)
          clear hs
          refine if_t (by simp [Region.wanted, yieldedR, h96]) ?_
          go_simp
        refine chain_val (.bool false) (S := [96, 103]) rfl ?_ ?_
        · intro ρ w' hE hB hs
          have h96 : ρ (.tmp 96) = .bool false := hs 96 (by decide)
          have h103 : ρ (.tmp 103) = .bool false := hs 103 (by decide)
          clear hs
          have hc := hE.const
          refine if_t (by rfl) ?_
          (go_simp <;> exact wrapi64_in _ (by omega) (by omega))
        refine chain_val (.bool false) (S := [104]) rfl ?_ ?_
        · intro ρ w' hE hB hs
          have h104 : ρ (.tmp 104) = .bool false := hs 104 (by decide)
          clear hs
          refine if_t (by rfl) ?_
          (go_simp <;> exact wrapi64_in _ (by omega) (by omega))
        refine chain_val (.pointer (some ⟨p, 0, none⟩)) (S := [5, 105]) rfl ?_ ?_
        · intro ρ w' hE hB hs
          have h5 : ρ (.tmp 5) = .pointer (some ⟨p, 0, none⟩) := hs 5 (by decide)
          have h105 : ρ (.tmp 105) = .bool false := hs 105 (by decide)
          clear hs
          refine if_t (by simp [Region.wanted, yieldedR, h105]) ?_
          (go_simp <;> exact wrapi64_in _ (by omega) (by omega))
        refine chain_static (fun v__ _ => v__ = .int .i64 ((n - at2 : Nat) : Int)) (stable_eq _) (S := [106, 105]) rfl (Go.Cor.enters_f Try.func38 (by kernel_rfl) rfl) rfl ?_ ?_
        · intro ρ w' hE hB hs
          have h105 : ρ (.tmp 105) = .bool false := hs 105 (by decide)
          have h106 : ρ (.tmp 106) = .pointer (some ⟨p, 0, none⟩) := hs 106 (by decide)
          clear hs
          refine ⟨(by simp [Region.wanted, yieldedR, h105]), ?_⟩
          simp only [List.map_toArray, List.map_cons, List.map_nil, h106]
          refine (left_any (hc.out.2.2.1.below hB)).mono ?_
          rintro e w3 ⟨rfl, k, rfl⟩
          exact ⟨_, rfl, below_drewN (Below.refl _ _) _, rfl⟩
        refine chain_val (.slice A n c) (S := [0, 105]) rfl ?_ ?_
        · intro ρ w' hE hB hs
          have h0 : ρ (.tmp 0) = .slice A n c := hs 0 (by decide)
          have h105 : ρ (.tmp 105) = .bool false := hs 105 (by decide)
          clear hs
          refine if_t (by simp [Region.wanted, yieldedR, h105]) ?_
          (go_simp <;> exact wrapi64_in _ (by omega) (by omega))
        refine chain_val (.int .i64 (n : Int)) (S := [108, 105]) rfl ?_ ?_
        · intro ρ w' hE hB hs
          have h105 : ρ (.tmp 105) = .bool false := hs 105 (by decide)
          have h108 : ρ (.tmp 108) = .slice A n c := hs 108 (by decide)
          clear hs
          refine if_t (by simp [Region.wanted, yieldedR, h105]) ?_
          (go_simp <;> exact wrapi64_in _ (by omega) (by omega))
        refine chain_val (.pointer (some ⟨q, 0, none⟩)) (S := [6, 105]) rfl ?_ ?_
        · intro ρ w' hE hB hs
          have h6 : ρ (.tmp 6) = .pointer (some ⟨q, 0, none⟩) := hs 6 (by decide)
          have h105 : ρ (.tmp 105) = .bool false := hs 105 (by decide)
          clear hs
          refine if_t (by simp [Region.wanted, yieldedR, h105]) ?_
          (go_simp <;> exact wrapi64_in _ (by omega) (by omega))
        refine chain_val (.pointer (some ⟨q, 0, none⟩)) (S := [110, 105]) rfl ?_ ?_
        · intro ρ w' hE hB hs
          have h105 : ρ (.tmp 105) = .bool false := hs 105 (by decide)
          have h110 : ρ (.tmp 110) = .pointer (some ⟨q, 0, none⟩) := hs 110 (by decide)
          clear hs
          refine if_t (by simp [Region.wanted, yieldedR, h105]) ?_
          (go_simp <;> exact wrapi64_in _ (by omega) (by omega))
        refine chain_val (.pointer (some ⟨q, 1, none⟩)) (S := [111, 105]) rfl ?_ ?_
        · intro ρ w' hE hB hs
          have h105 : ρ (.tmp 105) = .bool false := hs 105 (by decide)
          have h111 : ρ (.tmp 111) = .pointer (some ⟨q, 0, none⟩) := hs 111 (by decide)
          clear hs
          refine if_t (by simp [Region.wanted, yieldedR, h105]) ?_
          (go_simp <;> exact wrapi64_in _ (by omega) (by omega))
        refine chain_val (.int .i64 (at2 : Int)) (S := [112, 105]) rfl ?_ ?_
        · intro ρ w' hE hB hs
          have h105 : ρ (.tmp 105) = .bool false := hs 105 (by decide)
          have h112 : ρ (.tmp 112) = .pointer (some ⟨q, 1, none⟩) := hs 112 (by decide)
          clear hs
          refine if_t (by simp [Region.wanted, yieldedR, h105]) ?_
          have hcl := (hc.out.2.2.2.1.below hB).c1
          go_simp
        refine chain_val (.int .i64 ((n - at2 : Nat) : Int)) (S := [109, 113, 105]) rfl ?_ ?_
        · intro ρ w' hE hB hs
          have h105 : ρ (.tmp 105) = .bool false := hs 105 (by decide)
          have h109 : ρ (.tmp 109) = .int .i64 (n : Int) := hs 109 (by decide)
          have h113 : ρ (.tmp 113) = .int .i64 (at2 : Int) := hs 113 (by decide)
          clear hs
          refine if_t (by simp [Region.wanted, yieldedR, h105]) ?_
          have e3 : IntKind.i64.wrap ((n : Int) - (at2 : Int)) = ((n - at2 : Nat) : Int) := by rw [wrapi64_in _ (by omega) (by omega)]; omega
          go_simp
        refine chain_val (.bool false) (S := [107, 114, 105]) rfl ?_ ?_
        · intro ρ w' hE hB hs
          have h105 : ρ (.tmp 105) = .bool false := hs 105 (by decide)
          have h107 : ρ (.tmp 107) = .int .i64 ((n - at2 : Nat) : Int) := hs 107 (by decide)
          have h114 : ρ (.tmp 114) = .int .i64 ((n - at2 : Nat) : Int) := hs 114 (by decide)
          clear hs
          refine if_t (by simp [Region.wanted, yieldedR, h105]) ?_
          go_simp
        refine chain_val (.bool false) (S := [105, 115]) rfl ?_ ?_
        · intro ρ w' hE hB hs
          have h105 : ρ (.tmp 105) = .bool false := hs 105 (by decide)
          have h115 : ρ (.tmp 115) = .bool false := hs 115 (by decide)
          clear hs
          have hc := hE.const
          refine if_t (by rfl) ?_
          (go_simp <;> exact wrapi64_in _ (by omega) (by omega))
        refine chain_val (.bool false) (S := [116]) rfl ?_ ?_
        · intro ρ w' hE hB hs
          have h116 : ρ (.tmp 116) = .bool false := hs 116 (by decide)
          clear hs
          refine if_t (by rfl) ?_
          (go_simp <;> exact wrapi64_in _ (by omega) (by omega))
        refine chain_val (.pointer (some ⟨p, 0, none⟩)) (S := [5, 117]) rfl ?_ ?_
        · intro ρ w' hE hB hs
          have h5 : ρ (.tmp 5) = .pointer (some ⟨p, 0, none⟩) := hs 5 (by decide)
          have h117 : ρ (.tmp 117) = .bool false := hs 117 (by decide)
          clear hs
          refine if_t (by simp [Region.wanted, yieldedR, h117]) ?_
          (go_simp <;> exact wrapi64_in _ (by omega) (by omega))
        refine chain_static (RdF .u8 (xs.drop at2)) (RdF.stable _ _) (S := [118, 117]) rfl (Go.Cor.enters_f Try.func39 (by kernel_rfl) rfl) rfl ?_ ?_
        · intro ρ w' hE hB hs
          have h117 : ρ (.tmp 117) = .bool false := hs 117 (by decide)
          have h118 : ρ (.tmp 118) = .pointer (some ⟨p, 0, none⟩) := hs 118 (by decide)
          clear hs
          refine ⟨(by simp [Region.wanted, yieldedR, h117]), ?_⟩
          simp only [List.map_toArray, List.map_cons, List.map_nil, h118]
          refine (peek_any (hc.out.2.2.1.below hB)).mono ?_
          rintro e w3 ⟨A', n', c', rfl, ho, hb⟩
          exact ⟨_, rfl, hb, A', n', c', rfl, Rd.own ho⟩
        refine chain_val (.string (strOfNums (xs.drop at2))) (S := [119, 117]) rfl ?_ ?_
        · intro ρ w' hE hB hs
          have h117 : ρ (.tmp 117) = .bool false := hs 117 (by decide)
          have h119 : (RdF .u8 (xs.drop at2)) (ρ (.tmp 119)) w' := hs 119 (by decide)
          clear hs
          refine if_t (by simp [Region.wanted, yieldedR, h117]) ?_
          obtain ⟨A119, n119, c119, e119, r119⟩ := h119
          have hcv := conv_bytes r119 38 5 9 Try.underlying38 Try.underlying5 Try.underlying9
          clear r119
          go_simp
        refine chain_val (.slice A n c) (S := [0, 117]) rfl ?_ ?_
        · intro ρ w' hE hB hs
          have h0 : ρ (.tmp 0) = .slice A n c := hs 0 (by decide)
          have h117 : ρ (.tmp 117) = .bool false := hs 117 (by decide)
          clear hs
          refine if_t (by simp [Region.wanted, yieldedR, h117]) ?_
          (go_simp <;> exact wrapi64_in _ (by omega) (by omega))
        refine chain_val (.pointer (some ⟨q, 0, none⟩)) (S := [6, 117]) rfl ?_ ?_
        · intro ρ w' hE hB hs
          have h6 : ρ (.tmp 6) = .pointer (some ⟨q, 0, none⟩) := hs 6 (by decide)
          have h117 : ρ (.tmp 117) = .bool false := hs 117 (by decide)
          clear hs
          refine if_t (by simp [Region.wanted, yieldedR, h117]) ?_
          (go_simp <;> exact wrapi64_in _ (by omega) (by omega))
        refine chain_val (.pointer (some ⟨q, 0, none⟩)) (S := [122, 117]) rfl ?_ ?_
        · intro ρ w' hE hB hs
          have h117 : ρ (.tmp 117) = .bool false := hs 117 (by decide)
          have h122 : ρ (.tmp 122) = .pointer (some ⟨q, 0, none⟩) := hs 122 (by decide)
          clear hs
          refine if_t (by simp [Region.wanted, yieldedR, h117]) ?_
          (go_simp <;> exact wrapi64_in _ (by omega) (by omega))
        refine chain_val (.pointer (some ⟨q, 1, none⟩)) (S := [123, 117]) rfl ?_ ?_
        · intro ρ w' hE hB hs
          have h117 : ρ (.tmp 117) = .bool false := hs 117 (by decide)
          have h123 : ρ (.tmp 123) = .pointer (some ⟨q, 0, none⟩) := hs 123 (by decide)
          clear hs
          refine if_t (by simp [Region.wanted, yieldedR, h117]) ?_
          (go_simp <;> exact wrapi64_in _ (by omega) (by omega))
        refine chain_val (.int .i64 (at2 : Int)) (S := [124, 117]) rfl ?_ ?_
        · intro ρ w' hE hB hs
          have h117 : ρ (.tmp 117) = .bool false := hs 117 (by decide)
          have h124 : ρ (.tmp 124) = .pointer (some ⟨q, 1, none⟩) := hs 124 (by decide)
          clear hs
          refine if_t (by simp [Region.wanted, yieldedR, h117]) ?_
          have hcl := (hc.out.2.2.2.1.below hB).c1
          go_simp
        refine chain_fact (RdF .u8 (xs.drop at2)) (RdF.stable _ _) (S := [121, 125, 117]) rfl ?_ ?_
        · intro ρ w' hE hB hs
          have h117 : ρ (.tmp 117) = .bool false := hs 117 (by decide)
          have h121 : ρ (.tmp 121) = .slice A n c := hs 121 (by decide)
          have h125 : ρ (.tmp 125) = .int .i64 (at2 : Int) := hs 125 (by decide)
          clear hs
          refine if_t (by simp [Region.wanted, yieldedR, h117]) ?_
          have hr := ((H.out.below hc.out.2.2.2.2).below hB).sliced (l := at2) (j := n) (by omega) (by omega)
          have hrun := run_l (P := Try.prog) (w := w') elemU8 A n c (l := at2) (by omega) .i64
          rw [List.take_of_length_le (by have := HX.out.2; simp; omega)] at hr
          refine ⟨_, ?_, _, _, _, rfl, hr⟩
          unfold execOp
          simp only [Option.map, h121, h125, hrun, Sem.run_bind, Result.andThen_ok, Sem.run_pure]
        refine chain_val (.string (strOfNums (xs.drop at2))) (S := [126, 117]) rfl ?_ ?_
        · intro ρ w' hE hB hs
          have h117 : ρ (.tmp 117) = .bool false := hs 117 (by decide)
          have h126 : (RdF .u8 (xs.drop at2)) (ρ (.tmp 126)) w' := hs 126 (by decide)
          clear hs
          refine if_t (by simp [Region.wanted, yieldedR, h117]) ?_
          obtain ⟨A126, n126, c126, e126, r126⟩ := h126
          have hcv := conv_bytes r126 38 5 9 Try.underlying38 Try.underlying5 Try.underlying9
          clear r126
          go_simp
        refine chain_val (.bool false) (S := [120, 127, 117]) rfl ?_ ?_
        · intro ρ w' hE hB hs
          have h117 : ρ (.tmp 117) = .bool false := hs 117 (by decide)
          have h120 : ρ (.tmp 120) = .string (strOfNums (xs.drop at2)) := hs 120 (by decide)
          have h127 : ρ (.tmp 127) = .string (strOfNums (xs.drop at2)) := hs 127 (by decide)
          clear hs
          refine if_t (by simp [Region.wanted, yieldedR, h117]) ?_
          go_simp
        refine chain_val (.bool false) (S := [117, 128]) rfl ?_ ?_
        · intro ρ w' hE hB hs
          have h117 : ρ (.tmp 117) = .bool false := hs 117 (by decide)
          have h128 : ρ (.tmp 128) = .bool false := hs 128 (by decide)
          clear hs
          have hc := hE.const
          refine if_t (by rfl) ?_
          (go_simp <;> exact wrapi64_in _ (by omega) (by omega))
        intro w1 hB1
        simp only [List.reverse_cons, List.reverse_nil, List.nil_append, List.cons_append, Go.Free.Ends, forall_eq, Act.put, List.setIfInBounds_toArray, List.set_cons_zero, List.set_cons_succ]
        rintro _ _ _ _
        have HN := Lib.hid (⟨at2, hc.out.2.2.1.below hB1, hc.out.2.2.2.1.below hB1, hc.out.2.2.2.2.trans (hB1.mono hWx)⟩ : ∃ at_, Cur w1 p A1 n c1 xs at_ ∧ RCur w1 q A2 n c2 xs at_ ∧ Below W.heap.size W w1)
        clear hB1 hc hqw hWx hle hd0 hd1 hm0 hm1 HZ
        go_wp2_with fail
        go_roundg (m - (i + 1))
        case measure => omega
        case rel => exact ⟨i + 1, by go_num, by omega, rfl, HN⟩
    · go_wp2_with fail
      refine (awake03 _).mono ?_
      rintro e w5 ⟨rfl, hb5⟩
      obtain ⟨at_, hcu, hrc, hb⟩ := hI.out
      have HB := Lib.hid (hb.trans (hb5.mono hb.size))
      clear hcu hrc hb hb5
      go_wp2
      go_ret
      exact ⟨rfl, HB.out⟩

namespace cursorReads
open Go.ChangeShapes Go.WideShapes Go.ChangeAt Go.RowKit Go.Cor
set_option linter.unusedVariables false

set_option maxRecDepth 100000 in
theorem lifted (os : Os) (started : os.Started) (H : Type) (enc : TypeId × Value → H) :
    ReturnsInHanded {} Try.checked os 7 .any (Rows.cursorReadsSpec.pre6 enc Try.prog Try.f7 Rows.cursorReadsRow.domain false) (Rows.cursorReadsSpec.post enc Try.prog Try.f7 false true false false) := by
  refine returnsInHanded_of_change (C := Try.checked) (by kernel_rfl : ownKnob Try.prog.godebug = none) started (by kernel_rfl) Try.func7
    (ChangeSpec.witness6 (enc := enc) (C := Try.checked) false ⟨#[], #[.slice none 0 0, .slice none 0 0], []⟩ 8 (by kernel_rfl) (by kernel_rfl) (by kernel_rfl) (by kernel_rfl)) ?_
  intro W base args ds gs before hval0 hW hcnd _
  have hval : ∀ (j : Nat) t v, Try.f7.params[j]? = some t → args[j]? = some v → Value.okWide Try.prog W .any base t v := hval0
  have hW' := hW
  obtain ⟨p, q, hA0, hV, rfl, hfz, hnd⟩ := hW
  have hA : DataW.TrodAll enc Try.prog W 0 (fun _ => true) true Try.f7.params.toList args.toList ds p := hA0
  rw [Try.params7] at hA hval
  obtain ⟨v0, vs0, d0, ds0, p0, q0, hargs, rfl, rfl, h0, r0⟩ := trodAll_cons hA
  obtain ⟨v1, vs1, d1, ds1, p1, q1, rfl, rfl, rfl, h1, r1⟩ := trodAll_cons r0
  obtain ⟨rfl, rfl, rfl⟩ := trodAll_nil r1
  obtain rfl : args = #[v0, v1] := by cases args; simp_all
  obtain ⟨rfl, rfl⟩ := trodVars_none hV
  obtain ⟨a0, len0, cap0, rfl⟩ := okWide_slice Try.underlying38 (hval 0 38 v0 rfl rfl)
  have k0 := h0
  have lt0 : ∀ x ∈ p0, x.block < W.heap.size := by obtain ⟨m, hm⟩ := k0; exact DataW.trod_lt m _ _ _ hm
  obtain ⟨x0, g0, b0⟩ : ∃ xs, Rd W .u8 a0 len0 cap0 xs ∧ In .u8 xs := by
    obtain ⟨fuel, hf⟩ := h0
    rcases open_ints Try.underlying38 Try.underlying5 (by kernel_rfl) hf with ⟨hcs, _⟩ | ⟨x, l, c, zs, hcs, _, hl, hm, hz, _, hcell, hwz⟩
    · simp [Value.cells] at hcs
      obtain ⟨rfl, rfl, rfl⟩ := hcs
      exact ⟨[], Rd.nilv _ _, fun _ h => by cases h⟩
    · simp [Value.cells] at hcs
      obtain ⟨rfl, rfl, rfl⟩ := hcs
      exact Rd.of_row hl hm hz hcell hwz
  obtain ⟨a1, len1, cap1, rfl⟩ := okWide_slice Try.underlying59 (hval 1 59 v1 rfl rfl)
  have k1 := h1
  have lt1 : ∀ x ∈ p1, x.block < W.heap.size := by obtain ⟨m, hm⟩ := k1; exact DataW.trod_lt m _ _ _ hm
  obtain ⟨x1, g1, b1⟩ : ∃ zs, RdA W a1 len1 cap1 zs ∧ ∀ z ∈ zs, AFit z := by
    obtain ⟨fuel, hf⟩ := h1
    obtain ⟨A, n, c, zs, hcs, h1, h2⟩ := open_acts Try.underlying59 Try.underlying66 (by kernel_rfl) rfl rfl (by kernel_rfl) (by kernel_rfl) Try.underlying5 Try.underlying3 hf
    simp [Value.cells] at hcs
    obtain ⟨rfl, rfl, rfl⟩ := hcs
    exact ⟨zs, h1, h2⟩
  clear hA0 hval0
  refine (CursorReads_walk W a0 len0 cap0 x0 g0 b0 a1 len1 cap1 x1 g1 b1).mono fun e W' ⟨he, bel⟩ => ?_
  subst he
  exact ⟨_, rfl, _, _, _, [], _, [], hW', trodAll_mk1 (shut_bool Try.underlying4 _), (trodAll_cons_mk (Below.trod (by kernel_rfl : laidOutB Try.prog = true) (by kernel_rfl) (of_decide_eq_true (by kernel_rfl)) k0 bel lt0) (trodAll_cons_mk (Below.trod (by kernel_rfl : laidOutB Try.prog = true) (by kernel_rfl) (of_decide_eq_true (by kernel_rfl)) k1 bel lt1) trodAll_mk0)), rfl, bel.frame _, fun h => by cases h⟩

theorem proved : Rows.CursorReadsSaid :=
  OpenClaim.holds_of_wide 7 Try.f7 rfl rfl rfl rfl rfl rfl rfl ⟨rfl, rfl, rfl, rfl, rfl⟩ rfl rfl rfl rfl rfl (by kernel_rfl) Try.func7 (by kernel_rfl)
    (of_decide_eq_true (by kernel_rfl)) (by unfold Func.isWrapper; first | (rw [if_pos (by decide +kernel)]; kernel_rfl) | (rw [if_neg (by decide +kernel)]; exact ⟨rfl, rfl⟩))
    (fun os started H enc _ => lifted os started H enc)
#print axioms proved
end cursorReads
end Go.Proofs.Ythpndhdpohmoaaa
