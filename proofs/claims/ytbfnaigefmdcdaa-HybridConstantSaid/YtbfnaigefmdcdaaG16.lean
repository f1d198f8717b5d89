/-
  Chapter 10: Decode.
  Chapter 10: Decode.
  The reference: a number of bytes; the block of a plain form.
-/
import Derived.Deep.CutBlock
import Derived.Test.YtbfnaigefmdcdaaG4
import Derived.Test.YtbfnaigefmdcdaaG7
import Derived.Test.YtbfnaigefmdcdaaG13
import Derived.Test.YtbfnaigefmdcdaaG15
namespace Go.Cor
open Go Go.RowKit
theorem zag_fit {u : Int} {k : Nat} (h0 : 0 ≤ u) (h : u.toNat < 2 ^ k) (hk : k ≤ 64) : u ≤ 18446744073709551615 := by
  have h1 : (2 : Nat) ^ k ≤ 2 ^ 64 := pow_mono2 hk
  have h2 : (2 : Nat) ^ 64 = 18446744073709551616 := by decide
  omega
theorem raw_fit {k lack o : Nat} {b : List Int} (_hk : k ≤ 64) : Fitl k (rone k lack o b).1 := by
  unfold rone
  split
  · intro u hu; simp at hu
  · split
    · intro u hu; simp at hu
    · split
      · intro u hu; simp at hu
      · intro u hu
        rw [List.eq_of_mem_replicate hu]
        exact ⟨by omega, by rw [Int.toNat_natCast]; omega⟩
theorem rawp_fit {k lack g : Nat} {b : List Int} (_hk : k ≤ 64) : Fitl k (rpak k lack g b).1 := by
  unfold rpak
  split
  · intro u hu; simp at hu
  · split
    · intro u hu; simp at hu
    · split
      · intro u hu; simp at hu
      · exact (unp_fit _ _ _).take _
theorem head_one {b : List Int} (h : By b) (hn : b ≠ []) : num (b.take 1) = (((b[0]?.getD 0).toNat : Nat) : Int) ∧ (b[0]?.getD 0).toNat ≤ 255 := by
  cases b with
  | nil => exact absurd rfl hn
  | cons x r =>
    have h1 := h x (by simp)
    simp [num]; omega
end Go.Cor
namespace Go.Proofs.Ytbfnaigefmdcdaa
open Go.RowKit Go.Cor Go.Free

set_option maxRecDepth 100000 in
set_option maxHeartbeats 8000000 in
theorem hdec1 {w : World} {p bN : Nat} {A : Option Addr} {n c : Nat} {xs : List Int} {N : Nat} (h : Cur w p A n c xs 0) (hb : Box w bN 3 (.int .i64 N)) (hbp : bN ≠ p) (hN : N ≤ 1024) :
    Calls Try.prog 55 #[.pointer (some ⟨p, 0, none⟩), .pointer (some ⟨bN, 0, none⟩)] w (Dec p A n c xs w (hrun N xs).1 (hrun N xs).2.1 (hrun N xs).2.2) := by
  have hlen := h.rd.len
  have hby := h.bytes
  by_cases hx0 : xs = []
  · have hn0 : n = 0 := by rw [← hlen, hx0]; rfl
    have HS := Lib.hid (U8_short h (by omega))
    have HR := Lib.hid (show hrun N xs = ([], 0, 1) by unfold hrun; rw [if_pos hx0])
    clear h hb hlen hby hx0
    go_enter Try.func55, Try.ntmps55
    go_wp2_with fail
    refine HS.out.mono ?_
    rintro e w2 ⟨rfl, hb⟩
    exact ⟨rfl, .of_below hb, .inr (by rw [HR.out]; exact ⟨by decide, rfl⟩)⟩
  have hnp : 0 < n := by rw [← hlen]; exact List.length_pos_iff.2 hx0
  obtain ⟨hu1, hu2⟩ := head_one hby hx0
  have hu8 := U8_ok h (by omega)
  rw [List.drop_zero, hu1] at hu8
  have hR : hrun N xs = if 64 < (xs[0]?.getD 0).toNat then ([], 0, 6) else dlift [] 1 (drun (hstep (xs[0]?.getD 0).toNat) N (xs.drop 1)) := by unfold hrun; rw [if_neg hx0]
  obtain ⟨k, hk⟩ : ∃ k, (xs[0]?.getD 0).toNat = k := ⟨_, rfl⟩
  rw [hk] at hu2 hu8 hR
  have HU8 := Lib.hid hu8
  have H := Lib.hid h
  have HBX := Lib.hid hb
  have HBY := Lib.hid hby
  have HLEN := Lib.hid hlen
  have hwb := lt_of_block hb
  clear h hb hlen hby hx0 hu1 hu8 hk
  by_cases hk64 : 64 < k
  · have hd : decide ((k : Int) ≤ 64) = false := by simp; omega
    have HR := Lib.hid (show hrun N xs = ([], 0, 6) by rw [hR, if_pos hk64])
    clear hR
    go_enter Try.func55, Try.ntmps55
    go_wp2_with fail
    refine HU8.out.mono ?_
    rintro e w2 ⟨rfl, hcu, hm⟩
    have HM := Lib.hid hm
    clear hcu hm
    go_wp2_with fail
    refine (check_false 6 _ (by decide)).mono ?_
    rintro e w3 ⟨rfl, rfl⟩
    exact ⟨rfl, HM.out, .inr (by rw [HR.out]; exact ⟨by decide, rfl⟩)⟩
  have hd : decide ((k : Int) ≤ 64) = true := by simp; omega
  have hk2 : k ≤ 64 := by omega
  rw [if_neg hk64] at hR
  obtain ⟨R, hRe⟩ : ∃ R, hrun N xs = R := ⟨_, rfl⟩
  rw [hRe] at hR ⊢
  have HR := Lib.hid hR
  clear hR hRe hk64
  go_enter Try.func55, Try.ntmps55
  go_wp2_with fail
  refine HU8.out.mono ?_
  rintro e w2 ⟨rfl, hcu, hm⟩
  have HC2 := Lib.hid hcu
  have HM2 := Lib.hid hm
  clear hcu hm
  go_wp2_with fail
  refine (check_true 6 _).mono ?_
  rintro e w3 ⟨rfl, rfl⟩
  go_wp2_with fail
  go_loopg [5] N (fun g v5 wr => ∃ (m : Nat) (A' : Option Addr) (c' : Nat) (l : List Int) (a : Nat), v5 = .slice A' m c' ∧ m ≤ N ∧ g = N - m ∧ Hid (Owns wr w.heap.size 2 .i64 A' m c' l ∧ Cur wr p A n c xs a ∧ Mod (· = p) w wr ∧ R = dlift l a (drun (hstep k) (N - m) (xs.drop a))))
  case atStart => exact ⟨0, none, 0, [], 1, rfl, by omega, rfl, Lib.hid ⟨owns_nil _ _ _ _, by have := HC2.out; rwa [Nat.zero_add] at this, HM2.out, HR.out⟩⟩
  case round =>
    obtain ⟨m, A', c', l, a, rfl, hm, rfl, hI⟩ := hrel
    obtain ⟨wo, rfl⟩ : ∃ wo, wo = wr := ⟨_, rfl⟩
    have hcb : wo.cell? ⟨bN, 0, none⟩ = some (.int .i64 (N : Int)) := cell_of_one (HBX.out.keep hI.out.2.2.1 hbp)
    by_cases hlt : m < N
    · have hba := HBY.out.drop a
      have hpk := peek_any hI.out.2.1
      have hle := hI.out.2.1.le
      obtain ⟨g, hg⟩ : ∃ g, vget 0 (xs.drop a) = g := ⟨_, rfl⟩
      have hget := fun w A n c h => get_any A n c (xs.drop a) w h hba
      rw [hg] at hget
      have hR1 := hI.out.2.2.2
      obtain ⟨v, mm, er⟩ := g
      have HPK := Lib.hid hpk
      by_cases he : er = 0
      · subst he
        have hgg := zrun_get hba (by rw [hg])
        rw [hg, List.length_drop, HLEN.out] at hgg
        dsimp only at hgg
        obtain ⟨m1, rfl⟩ := Int.eq_ofNat_of_zero_le (show 0 ≤ mm by have := hgg.2.2.1; omega)
        obtain ⟨hd0, rfl⟩ := Int.eq_ofNat_of_zero_le hgg.2.2.2.1
        simp only [Int.toNat_natCast] at hgg
        obtain ⟨hg1, hg2, _, _, hg5⟩ := hgg
        have hst := hstep_get k (N - m) hg
        rw [List.drop_drop] at hst
        have HST := Lib.hid hst
        have HGET := Lib.hid hget
        have HR1 := Lib.hid hR1
        clear hba hpk hg hget hR1 hst
        go_wp2_with fail
        refine HPK.out.mono ?_
        rintro e w4 ⟨A4, n4, c4, rfl, ho4, hb4⟩
        have HB4 := Lib.hid hb4
        have HO4 := Lib.hid (Rd.own ho4)
        clear ho4 hb4
        go_wp2_with fail
        refine (HGET.out _ _ _ _ HO4.out).mono ?_
        rintro e w5 ⟨rfl, rfl⟩
        go_wp2_with fail
        refine (throw_ok _).mono ?_
        rintro e w5 ⟨rfl, rfl⟩
        have HBK := Lib.hid (bytes_ok (hI.out.2.1.below HB4.out) m1 (by omega))
        go_wp2_with fail
        refine HBK.out.mono ?_
        rintro e w5 ⟨⟨A5, c5, rfl, _⟩, hcu5, hm5⟩
        have HC5 := Lib.hid hcu5
        have HM5 := Lib.hid (Mod.trans (Mod.trans hI.out.2.2.1 (.of_below HB4.out)) hm5)
        have HO5 := Lib.hid (owns_keep (owns_keep (S := fun _ _ => True) hI.out.1 (.of_below HB4.out) fun _ _ _ => trivial) hm5 fun g hg _ => by have h1 := (hI.out.1.lt g hg).1; have h2 := H.out.lt; show ¬ g = p; omega)
        clear hcu5 hm5
        by_cases h1 : hd0 ≤ 1
        · have HD2 := Lib.hid (show decide ((1 : Int) < (hd0 : Int)) = false by simp; omega)
          have hst1 := HST.out
          rw [hbody, if_pos h1] at hst1
          have hbad := HR1.out.trans (drun_bad l a (by omega) (by rw [hst1]; decide))
          rw [hst1] at hbad
          have HBAD := Lib.hid hbad
          clear hst1 hbad
          go_wp2_with fail
          rw [HD2.out]
          refine (check_false 7 _ (by decide)).mono ?_
          rintro e w6 ⟨rfl, rfl⟩
          exact ⟨rfl, HM5.out, .inr (by rw [HBAD.out]; exact ⟨by decide, rfl⟩)⟩
        · have HD2 := Lib.hid (show decide ((1 : Int) < (hd0 : Int)) = true by simp; omega)
          have hst1 := HST.out
          rw [hbody_raw, if_neg h1] at hst1
          obtain ⟨raw, hraw⟩ : ∃ raw, (if hd0 % 2 = 0 then rone k (N - m) (hd0 / 2) (xs.drop (a + m1)) else rpak k (N - m) (hd0 / 2) (xs.drop (a + m1))) = raw := ⟨_, rfl⟩
          have hfit : Fitl k raw.1 := by rw [← hraw]; split; exact raw_fit hk2; exact rawp_fit hk2
          rw [hraw] at hst1
          have HSTR := Lib.hid hst1
          have HRAW := Lib.hid hraw
          have HFIT := Lib.hid hfit
          have hand : bits .and .u64 (hd0 : Int) 1 = (hd0 : Int) % 2 := by have h2 := and_mask_u64 (hd0 : Int) 1 (by decide) (by omega) hg5; simpa using h2
          clear hst1 hraw hfit HST
          go_wp2_with fail
          rw [HD2.out]
          refine (check_true 7 _).mono ?_
          rintro e w6 ⟨rfl, rfl⟩
          go_upto_if 39 with fail
          have hef1 : ∀ args w, (callFunc 62 args).run Try.prog w = .ok (.enter 62 args) w := enters_f Try.func62 (by kernel_rfl) rfl
          have hef2 : ∀ args w, (callFunc 63 args).run Try.prog w = .ok (.enter 63 args) w := enters_f Try.func63 (by kernel_rfl) rfl
          have HEF := Lib.hid (And.intro hef1 hef2)
          clear hef1 hef2
          go_cut [9] from 18 to 60 (fun s9 wx => ∃ f : FuncId, s9 = .func (.func f) #[] #[] ∧ w5 = wx ∧ Hid ((∀ args w, (callFunc f args).run Try.prog w = .ok (.enter f args) w) ∧ Calls Try.prog f #[.pointer (some ⟨p, 0, none⟩), .int .u64 ((hd0 : Int) / 2), .int .i64 k, .int .i64 ((N : Int) - (m : Int))] w5 (RawP p A n c xs (a + m1) w5 raw)))
          case first =>
            by_cases h2 : hd0 % 2 = 0
            · have hb2 : ((hd0 : Int) % 2 == 1) = false := by simp; omega
              have h3 := one_any HC5.out (hd0 / 2) k (N - m) (by omega) hk2 (by omega)
              have h4 := HRAW.out
              rw [if_pos h2] at h4
              rw [h4, show ((hd0 / 2 : Nat) : Int) = (hd0 : Int) / 2 by omega, show ((N - m : Nat) : Int) = (N : Int) - (m : Int) by omega] at h3
              have H3 := Lib.hid h3
              clear h3 h4 h2
              go_wp2_with fail
              go_meet
              exact ⟨_, rfl, rfl, Lib.hid ⟨HEF.out.1, H3.out⟩⟩
            · have hb2 : ((hd0 : Int) % 2 == 1) = true := by simp; omega
              have h3 := packed_any HC5.out (hd0 / 2) k (N - m) (by omega) hk2 (by omega)
              have h4 := HRAW.out
              rw [if_neg h2] at h4
              rw [h4, show ((hd0 / 2 : Nat) : Int) = (hd0 : Int) / 2 by omega, show ((N - m : Nat) : Int) = (N : Int) - (m : Int) by omega] at h3
              have H3 := Lib.hid h3
              clear h3 h4 h2
              go_wp2_with fail
              go_meet
              exact ⟨_, rfl, rfl, Lib.hid ⟨HEF.out.2, H3.out⟩⟩
          case rest =>
            obtain ⟨f, rfl, rfl, hcf⟩ := hcut
            have hef := hcf.out.1
            have hcb5 : w5.cell? ⟨bN, 0, none⟩ = some (.int .i64 (N : Int)) := cell_of_one (HBX.out.keep HM5.out hbp)
            have HCF := Lib.hid hcf.out.2
            have HM5' := HM5
            clear hcf HEF
            go_wp2_with fail
            refine HCF.out.mono ?_
            rintro e w6 ⟨hm6, ⟨h0, ⟨A6, m6, c6, rfl, hr6, hn6⟩, hcu6⟩ | ⟨h0, rfl⟩⟩
            · have hs1 := HSTR.out
              unfold rlift at hs1
              rw [if_neg (by simp [h0])] at hs1
              have hok := hstep_ok hk2 (HBY.out.drop a) (show N - m ≠ 0 by omega) (by rw [hs1])
              rw [hs1] at hok
              simp only [List.length_map] at hok
              have hsr := HR1.out.trans (drun_step l a (show N - m ≠ 0 by omega) (by rw [hs1]) (by rw [hs1]; simp only [List.length_map]; exact hok.2.1))
              rw [hs1, List.drop_drop] at hsr
              simp only [List.length_map] at hsr
              obtain ⟨q, hq⟩ : ∃ q, raw.2.1 = q := ⟨_, rfl⟩
              obtain ⟨us, hus⟩ : ∃ us, raw.1 = us := ⟨_, rfl⟩
              have hfu := HFIT.out
              rw [hq] at hsr hcu6
              rw [hus] at hsr hr6 hok hfu
              have hrl := hr6.len
              rw [hrl] at hsr hok
              have HO6 := Lib.hid (owns_keep HO5.out hm6 fun g hg _ => by have h1 := (HO5.out.lt g hg).1; have h2 := H.out.lt; show ¬ g = p; omega)
              have HN6 := Lib.hid (show ∀ b, (∃ o, A6 = some ⟨b, o, none⟩) → b < w6.heap.size ∧ (Value.slice A' m c').ownBlock ≠ some b from fun b ⟨o, e⟩ => ⟨by
                obtain ⟨b', o', e', hb', _⟩ := hr6.get (by omega)
                rw [e] at e'; injection e' with e'; injection e' with e1 e2; omega, fun e2 => by
                have h1 := (HO5.out.lt b e2).2
                have h2 := hn6 b o e
                omega⟩)
              have HM6 := Lib.hid (Mod.trans HM5.out hm6)
              have HC6 := Lib.hid hcu6
              have HR6 := Lib.hid hr6
              have HSR := Lib.hid hsr
              have HFU := Lib.hid (And.intro hfu hrl)
              obtain ⟨hm61, hm62, _, _⟩ := hok
              clear hs1 hsr hq hus hfu hr6 hcu6 hm6 hn6 hrl h0 HSTR HRAW HFIT
              go_wp2_with fail
              go_loopg [5, 51] m6 (fun g v5 v51 wr => ∃ i : Nat, v51 = .int .i64 i ∧ i ≤ m6 ∧ g = m6 - i ∧ ∃ A2 c2, v5 = .slice A2 (m + i) c2 ∧ Hid (Owns wr w.heap.size 2 .i64 A2 (m + i) c2 (l ++ (us.take i).map zag) ∧ Cur wr p A n c xs (a + m1 + q) ∧ Mod (· = p) w wr ∧ Rd wr .u64 A6 m6 c6 us ∧ ∀ b, (∃ o, A6 = some ⟨b, o, none⟩) → b < wr.heap.size ∧ (Value.slice A2 (m + i) c2).ownBlock ≠ some b))
              case atStart => exact ⟨0, rfl, by omega, by omega, A', c', rfl, Lib.hid ⟨by simpa using HO6.out, HC6.out, HM6.out, HR6.out, HN6.out⟩⟩
              case round =>
                obtain ⟨i, rfl, hi, rfl, A2, c2, rfl, hJ⟩ := hrel
                by_cases hlt2 : i < m6
                · obtain ⟨b', o, rfl, hbl, hc⟩ := hJ.out.2.2.2.1.get (by omega)
                  have hcell := hc i hlt2
                  rw [List.getD_eq_getElem?_getD] at hcell
                  have e1 := map_take_snoc (l := us) (k := i) zag (by rw [HFU.out.2]; omega)
                  have hx := HFU.out.1 (us[i]?.getD 0) (by rw [List.getElem?_eq_getElem (by rw [HFU.out.2]; omega)]; exact List.getElem_mem _)
                  obtain ⟨x, hxe⟩ : ∃ x, us[i]?.getD 0 = x := ⟨_, rfl⟩
                  rw [hxe] at hcell e1 hx
                  have HZ := Lib.hid (fun w => zag_any x w hx.1 (zag_fit hx.1 hx.2 hk2))
                  have E1 := Lib.hid e1
                  clear hc e1 hx hxe
                  go_wp2_with fail
                  refine (HZ.out _).mono ?_
                  rintro e w7 ⟨rfl, rfl⟩
                  go_wp2_with (at_builtin; refine wpList_append_r rfl rfl elemI64 (hJ.out.1.alloc _) rfl (RdV.one (Box.new _ _ _)) rfl one_one (by omega) (by omega) (by have := hJ.out.2.2.1.size; simp; omega) ?_; intro A3 c3 w8 hown hg hat)
                  have hgr := Cu.grown H.out (Mod.trans hJ.out.2.2.1 (.alloc _ _ _)) (hJ.out.2.1.alloc' _) (hJ.out.1.alloc _) (Nat.le_refl _) hg
                  have hne := fun b hb => own_ne hat (hJ.out.2.2.2.2 b hb).2 (by have := (hJ.out.2.2.2.2 b hb).1; simp; omega)
                  have hr8 := (hJ.out.2.2.2.1.alloc _).keep hg.size (fun b hb he => hg.block b hb (fun e => (hJ.out.2.2.2.2 b he).2 e.symm))
                  have hsz := hg.size
                  have HSZ := Lib.hid hsz
                  have HG := Lib.hid hgr
                  have HNE := Lib.hid hne
                  have HR8 := Lib.hid hr8
                  have HO8 := Lib.hid (owns_snoc hown)
                  clear hgr hown hg hat hne hr8 hsz
                  go_roundg (m6 - (i + 1))
                  case measure => omega
                  case rel => exact ⟨i + 1, by go_num, by omega, rfl, A3, c3, rfl, Lib.hid ⟨by rw [← E1.out, ← List.append_assoc]; exact HO8.out, HG.out.1, HG.out.2, HR8.out, fun b hb => ⟨by have h1 := (hJ.out.2.2.2.2 b hb).1; have h2 := HSZ.out; simp at h2; omega, HNE.out b hb⟩⟩⟩
                · obtain rfl : i = m6 := by omega
                  go_wp2_with fail
                  go_roundg (N - (m + i))
                  case measure => omega
                  case rel =>
                    refine ⟨m + i, A2, c2, l ++ us.map zag, a + (m1 + q), rfl, by omega, rfl, Lib.hid ⟨?_, ?_, hJ.out.2.2.1, ?_⟩⟩
                    · have h1 := hJ.out.1
                      rwa [List.take_of_length_le (by rw [HFU.out.2]; exact Nat.le_refl _)] at h1
                    · rw [← Nat.add_assoc]; exact hJ.out.2.1
                    · rw [HSR.out, Nat.sub_add_eq]
            · have hst2 := HSTR.out
              unfold rlift at hst2
              rw [if_pos h0] at hst2
              have hbad := HR1.out.trans (drun_bad l a (by omega) (by rw [hst2]; exact h0))
              rw [hst2] at hbad
              exact ⟨rfl, Mod.trans HM5.out hm6, .inr (by rw [hbad]; exact ⟨h0, rfl⟩)⟩
      · have H0 := Lib.hid he
        have hgl := hstep_eq k (N - m) (xs.drop a)
        rw [hg, if_pos he] at hgl
        have hbad := hR1.trans (drun_bad l a (by omega) (by rw [hgl]; exact he))
        rw [hgl] at hbad
        have HBAD := Lib.hid hbad
        have HGET := Lib.hid hget
        clear hba hpk hg hget hR1 hgl hbad he
        go_wp2_with fail
        refine HPK.out.mono ?_
        rintro e w4 ⟨A4, n4, c4, rfl, ho4, hb4⟩
        have HB4 := Lib.hid hb4
        have HO4 := Lib.hid (Rd.own ho4)
        clear ho4 hb4
        go_wp2_with fail
        refine (HGET.out _ _ _ _ HO4.out).mono ?_
        rintro e w5 ⟨rfl, rfl⟩
        go_wp2_with fail
        refine (throw_any _ _ H0.out).mono ?_
        rintro e w5 ⟨rfl, rfl⟩
        exact ⟨rfl, Mod.trans hI.out.2.2.1 (.of_below HB4.out), .inr (by rw [HBAD.out]; exact ⟨H0.out, rfl⟩)⟩
    · obtain rfl : m = N := by omega
      have hR1 := hI.out.2.2.2
      rw [Nat.sub_self, drun_end] at hR1
      have HR1 := Lib.hid hR1
      clear hR1
      go_wp2
      go_ret
      exact ⟨hI.out.2.2.1, .inl (by rw [HR1.out]; exact ⟨rfl, ⟨A', m, c', rfl, hI.out.1⟩, hI.out.2.1⟩)⟩
end Go.Proofs.Ytbfnaigefmdcdaa

namespace Go.Proofs.Ytbfnaigefmdcdaa
open Go.RowKit Go.Cor Go.Free

set_option maxRecDepth 100000 in
set_option maxHeartbeats 2000000 in
theorem hDecode_any (w : World) (A : Option Addr) (n c : Nat) (ys : List Int) (N : Int) (h : Rd w .u8 A n c ys) (hby : By ys) (hn : n ≤ 100000) :
    Calls Try.prog 31 #[.agg #[], .slice A n c, .int .i64 N] w (DecG w.heap.size w hdec ys N) := by
  have hmf : ∀ (fn : Fn) (first cap : Array Value) (w : World), (Instr.makeFunc fn first cap).run Try.prog w = .ok (.func fn first cap) w := fun _ _ _ _ => rfl
  obtain ⟨w2, hw2⟩ : ∃ w2, (w.alloc (.cells #[] 47)).alloc (.cells #[.int .i64 N] 3) = w2 := ⟨_, rfl⟩
  have hb2 : Below w.heap.size w w2 := by rw [← hw2]; exact ((Below.refl _ _).alloc (Nat.le_refl _) _).alloc (by simp) _
  have hbx : Box w2 (w.heap.size + 1) 3 (.int .i64 N) := by rw [← hw2]; have := Box.new (w.alloc (.cells #[] 47)) 3 (.int .i64 N); rwa [World.size_alloc] at this
  have hs2 : w2.heap.size = w.heap.size + 2 := by rw [← hw2]; simp
  have hcell := cell_of_one hbx
  have eg1 : ∀ args w, (callFunc 55 args).run Try.prog w = .ok (.enter 55 args) w := enters_f Try.func55 (by kernel_rfl) rfl
  have hrd := read_any w2 A n c ys (h.below hb2) hn hby N 55 #[.pointer (some ⟨w.heap.size + 1, 0, none⟩)] (hrun N.toNat ys).1 (hrun N.toNat ys).2.1 (hrun N.toNat ys).2.2 eg1
    (fun hbk w4 p A1 c1 hb4 hcu hp => by
      have hN := of_decide_eq_true hbk
      obtain ⟨M, rfl⟩ := Int.eq_ofNat_of_zero_le (show 0 ≤ N by omega)
      exact hdec1 hcu (hbx.below hb4 (by omega)) (by omega) (by omega))
  have HP := Lib.hid (show hdec ys N = (rlist N n (hrun N.toNat ys).2.1 (hrun N.toNat ys).2.2 (hrun N.toNat ys).1, rerr N n (hrun N.toNat ys).2.1 (hrun N.toNat ys).2.2) by unfold hdec decOf; rw [h.len])
  have HR := Lib.hid hrd
  have HB2 := Lib.hid hb2
  clear h hby hn hb2 hbx hs2 eg1 hrd
  go_enter Try.func31, Try.ntmps31
  go_wp2_with fail
  refine HR.out.mono ?_
  rintro e w5 ⟨A', m, c', rfl, hown, hb5⟩
  have HO := Lib.hid (owns_weak hown HB2.out.size)
  have HB5 := Lib.hid (HB2.out.trans (hb5.mono HB2.out.size))
  clear hown hb5
  go_wp2
  go_ret2
  exact ⟨A', m, c', by rw [HP.out]; rfl, by rw [HP.out]; exact HO.out, HB5.out⟩
theorem hybD : Decer 47 31 hdec :=
  ⟨mh_decode, mh_ahead, enters_f Try.func31 (by kernel_rfl) rfl, fun w A n c ys N h hb hn => hDecode_any w A n c ys N h hb hn⟩
end Go.Proofs.Ytbfnaigefmdcdaa

namespace Go.Proofs.Ytbfnaigefmdcdaa
open Go.RowKit Go.Cor Go.Free

set_option maxHeartbeats 1000000 in
theorem refNumber_any (A : Option Addr) (n c : Nat) (xs : List Int) (w : World) (h : Rd w .u8 A n c xs) (hby : By xs) (hn : n ≤ 8) :
    Calls Try.prog 64 #[.slice A n c] w fun e w' => e = .returned (.int .u64 (num xs)) ∧ w = w' := by
  have H := Lib.hid h
  have HBY := Lib.hid hby
  clear h hby
  go_enter Try.func64, Try.ntmps64
  go_wp2
  go_loop [3, 4, 8, 9, 10, 11, 12, 13, 14, 15, 16, 17, 18, 19] (fun v3 v4 _ _ _ _ _ _ _ _ _ _ _ _ => ∃ j : Nat, v4 = .int .i64 ((j : Int) - 1) ∧ j ≤ n ∧ ∃ v : Int, v3 = .int .u64 v ∧ 0 ≤ v ∧ Hid (v = num (xs.drop j)))
    (fun _ v4 _ _ _ _ _ _ _ _ _ _ _ _ => (intOf v4 + 1).toNat)
  case atStart => exact ⟨n, rfl, by omega, 0, rfl, by omega, Lib.hid (by rw [List.drop_of_length_le (by have := H.out.len; omega)]; rfl)⟩
  case round =>
    obtain ⟨j, rfl, hj, v, rfl, hv0, hv⟩ := hrel
    by_cases hlt : 0 < j
    · obtain ⟨i, rfl⟩ : ∃ i, j = i + 1 := ⟨j - 1, by omega⟩
      have hi : ((i + 1 : Nat) : Int) - 1 = (i : Int) := by omega
      rw [hi]
      obtain ⟨b, o, rfl, _, hc⟩ := H.out.get (by omega)
      have hcell := hc i (by omega)
      have hl := H.out.len
      rw [List.getD_eq_getElem?_getD] at hcell
      have hx := HBY.out (xs[i]?.getD 0) (by rw [List.getElem?_eq_getElem (by omega)]; exact List.getElem_mem _)
      have e1 : num (xs.drop i) = xs[i]?.getD 0 + 256 * num (xs.drop (i + 1)) := by rw [drop_cons_getD xs 0 (by omega)]; rfl
      obtain ⟨x, hxe⟩ : ∃ x, xs[i]?.getD 0 = x := ⟨_, rfl⟩
      rw [hxe] at hcell hx e1
      rw [← hv.out] at e1
      obtain ⟨hx0, hx1⟩ := hx
      have hb := num_bd (HBY.out.drop i)
      rw [e1, List.length_drop, hl] at hb
      have hb2 : x + 256 * v ≤ 18446744073709551615 := by
        have h2 : ((256 ^ (n - i) : Nat) : Int) ≤ ((256 ^ 8 : Nat) : Int) := Int.ofNat_le.2 (Nat.pow_le_pow_right (by decide) (by omega))
        rw [Int.natCast_pow] at h2
        have h4 : ((256 : Nat) : Int) = 256 := rfl
        rw [h4] at h2
        have h3 : ((256 ^ 8 : Nat) : Int) = 18446744073709551616 := by decide
        omega
      have E1 := Lib.hid e1
      clear hc hl hxe e1 hb hi hv
      go_wp2
      go_round
      case rel => exact ⟨i, by go_num, by omega, x + 256 * v, val_i (by omega), by omega, Lib.hid E1.out.symm⟩
      case measure => simp [intOf] <;> omega
    · obtain rfl : j = 0 := by omega
      have hv' := hv.out
      rw [List.drop_zero] at hv'
      have HV := Lib.hid hv'
      clear hv hv'
      go_wp2
      go_ret
      exact ⟨ret_i HV.out, rfl⟩
end Go.Proofs.Ytbfnaigefmdcdaa
