/-
  Chapter 10: the runs are handed out.
-/
import Derived.Deep.CutBlock
import Derived.Test.YtbfnaigefmdcdaaG24
namespace Go.Cor
open Go Go.RowKit
/-- from a place on -/
theorem Rd.from_ {w : World} {k : IntKind} {ba o n c i : Nat} {xs : List Int} (h : Rd w k (some ⟨ba, o, none⟩) n c xs) (hi : i ≤ n) : Rd w k (some ⟨ba, o + i, none⟩) (n - i) (c - i) (xs.drop i) :=
  ⟨by rw [List.length_drop, h.len], by have := h.cap; omega, by have := h.max; omega, fun h => (by cases h), fun hp => by
    obtain ⟨b', o', e, hb, hc⟩ := h.get (by omega)
    injection e with e; injection e with e1 e2; subst e1 e2
    refine ⟨_, _, rfl, hb, fun k hk => ?_⟩
    rw [Nat.add_assoc, hc (i + k) (by omega)]
    simp [List.getD_eq_getElem?_getD, List.getElem?_drop]⟩
/-- a run as the walk hands it out -/
def runE (ba o c : Nat) (x : Nat × Nat × Nat) : Array Value := #[runV x.1 (some ⟨ba, o + x.2.1, none⟩) x.2.2 (c - x.2.1)]
end Go.Cor
namespace Go.Proofs.Ytbfnaigefmdcdaa
open Go.RowKit Go.Cor Go.Free

set_option maxRecDepth 100000 in
set_option maxHeartbeats 8000000 in
theorem runs_iter (ba o c n : Nat) (zs : List Int) (b : Nat) (w0 : World) (hrd : Rd w0 .u64 (some ⟨ba, o, none⟩) n c zs) (hbox : Box w0 b 62 (.slice (some ⟨ba, o, none⟩) n c)) (hne : ba ≠ b) (hn : n ≤ 1024) :
    Iter Try.prog 75 #[.pointer (some ⟨b, 0, none⟩)] (runE ba o c) (hlist 0 zs) (fun k => k = b ∨ k = ba) (fun k => k = b) w0 := by
  intro l J W hW hWs hJ hY hJ0
  refine callsIn_wide.2 ?_
  have hb0 : Box W b 62 (.slice (some ⟨ba, o, none⟩) n c) := hbox.keep hW (.inl rfl)
  have hr0 : Rd W .u64 (some ⟨ba, o, none⟩) n c zs := hrd.keep hWs fun k hk ⟨o', e⟩ => hW.block k hk (.inr (by injection e with e; injection e with e; exact e.symm))
  have HY := Lib.hid hY
  have HJ := Lib.hid hJ
  have H := Lib.hid (And.intro hb0 (And.intro hr0 hJ0))
  clear hY hJ hb0 hr0 hJ0 hrd hbox hW hWs
  go_enter Try.func75, Try.ntmps75
  go_wp2
  go_loopg [] n (fun g wr => ∃ (at_ : Nat) (V : Option Addr) (pre : List (Nat × Nat × Nat)), at_ ≤ n ∧ g = n - at_ ∧ Hid ((at_ < n → V = some ⟨ba, o + at_, none⟩) ∧ Box wr b 62 (.slice V (n - at_) (c - at_)) ∧ Rd wr .u64 (some ⟨ba, o, none⟩) n c zs ∧ hlist 0 zs = pre ++ hlist at_ (zs.drop at_) ∧ J pre wr))
  case atStart => exact ⟨0, some ⟨ba, o, none⟩, [], by omega, rfl, Lib.hid ⟨fun _ => rfl, H.out.1, H.out.2.1, by simp, H.out.2.2⟩⟩
  case round =>
    obtain ⟨at_, V, pre, hat, rfl, hI⟩ := hrel
    obtain ⟨wo, rfl⟩ : ∃ wo, wo = wr := ⟨_, rfl⟩
    have hc := cell_of_one hI.out.2.1
    have hf := free_of_one hI.out.2.1
    by_cases hlt : at_ < n
    · obtain rfl := hI.out.1 hlt
      have hL := hI.out.2.2.1.from_ (i := at_) (by omega)
      obtain ⟨L, hLe⟩ : ∃ L, n - at_ = L := ⟨_, rfl⟩
      obtain ⟨C, hCe⟩ : ∃ C, c - at_ = C := ⟨_, rfl⟩
      obtain ⟨zl, hze⟩ : ∃ zl, zs.drop at_ = zl := ⟨_, rfl⟩
      rw [hLe, hCe] at hc hL
      rw [hze] at hL
      have HL := Lib.hid hL
      have HE := Lib.hid (And.intro hLe (And.intro hCe hze))
      have hL0 : 0 < L := by omega
      have hLn : L ≤ 1024 := by omega
      have HS := Lib.hid (fun w h => same_any (some ⟨ba, o + at_, none⟩) L C zl w h (by omega))
      have hse := same_le zl
      rw [hL.len] at hse
      clear hL hLe hCe hze
      obtain ⟨s, hs⟩ : ∃ s, same zl = s := ⟨_, rfl⟩
      rw [hs] at HS hse
      go_wp2_with fail
      refine (HS.out _ HL.out).mono ?_
      rintro e w1 ⟨rfl, hb1⟩
      have HB1 := Lib.hid hb1
      clear hb1
      go_upto_if 14 with fail
      obtain ⟨p, hp⟩ : ∃ p, w1.heap.size = p := ⟨_, rfl⟩
      obtain ⟨W2, hW2⟩ : ∃ W2, w1.alloc (.cells #[.int .i64 (s : Int), .slice none 0 0] 69) = W2 := ⟨_, rfl⟩
      have hP : W2.heap[p]? = some (.cells #[.int .i64 (s : Int), .slice none 0 0] 69 (0, 0)) := by rw [← hW2, ← hp]; exact heap_alloc_new w1 _
      have hpw : wo.heap.size ≤ p := by rw [← hp]; exact HB1.out.size
      have hb2 : Below wo.heap.size wo W2 := by rw [← hW2]; exact HB1.out.alloc HB1.out.size _
      rw [hp, hW2]
      have HP := Lib.hid hP
      have HB2 := Lib.hid hb2
      have hbw : b < wo.heap.size := lt_of_block hI.out.2.1
      clear hP hb2 hW2 hp HB1 hc hf
      go_cut [] from 6 to 55 (fun wx => ∃ (o' m cl : Nat) (SV : Option Addr), Hid (wx.heap[p]? = some (.cells #[.int .i64 (o' : Int), .slice SV m cl] 69 (0, 0)) ∧ Below wo.heap.size wo wx ∧ ((8 ≤ s ∧ o' = s ∧ m = 0) ∨ (s < 8 ∧ o' = 0 ∧ SV = some ⟨ba, o + at_, none⟩ ∧ m = htak zl ∧ cl = C))))
      case first =>
        by_cases h8 : s < 8
        · have k0 : W2.cell? ⟨p, 0, none⟩ = some (.int .i64 (s : Int)) := by simp [World.cell?, HP.out]
          have f0 : W2.frozen? ⟨p, 0, none⟩ = false := by simp [World.frozen?, HP.out]
          have hP3 := Joins.block_setCell (i := 0) HP.out (.int .i64 0)
          have HP3 := Lib.hid hP3
          have HB3 := Lib.hid (HB2.out.setCell (p := ⟨p, 0, none⟩) hpw (.int .i64 0))
          clear hP3
          go_upto_block 2 with fail
          obtain ⟨W3, hW3⟩ : ∃ W3, W2.setCell ⟨p, 0, none⟩ (.int .i64 0) = W3 := ⟨_, rfl⟩
          rw [hW3] at HP3 HB3 ⊢
          obtain ⟨d14, hd14⟩ : ∃ d, decide ((s : Int) < 8) = d := ⟨_, rfl⟩
          rw [hd14]
          clear hd14
          have hP3' : W3.heap[p]? = some (.cells #[.int .i64 0, .slice none 0 0] 69 (0, 0)) := by simpa using HP3.out
          have HQ3 := Lib.hid hP3'
          clear hP3' HP3 hW3 k0 f0 HP HB2
          go_wp2_with fail
          go_loopg [4] (L + 8) (fun gi v4 wr => ∃ q : Nat, v4 = .int .i64 (q : Int) ∧ q ≤ L + 7 ∧ gi = L + 8 - q ∧ ∃ (g m cl : Nat) (SV : Option Addr), Hid (q = 8 * g ∧ hgr L zl = g + hgr (L - g) (zl.drop q) ∧ wr.heap[p]? = some (.cells #[.int .i64 0, .slice SV m cl] 69 (0, 0)) ∧ (0 < g → SV = some ⟨ba, o + at_, none⟩ ∧ m = min q L ∧ cl = C) ∧ Below wo.heap.size wo wr))
          case atStart => exact ⟨0, rfl, by omega, by omega, 0, 0, 0, none, Lib.hid ⟨rfl, by simp, HQ3.out, fun h => by omega, HB3.out⟩⟩
          case round =>
            obtain ⟨q, rfl, hq, rfl, g, m, cl, SV, hK⟩ := hrel
            have hcb : wr.cell? ⟨b, 0, none⟩ = some (.slice (some ⟨ba, o + at_, none⟩) L C) := by
              have h1 := cell_of_one (hI.out.2.1.below hK.out.2.2.2.2 hbw)
              rw [HE.out.1, HE.out.2.1] at h1; exact h1
            have hCL : L ≤ C := HL.out.cap
            by_cases hqL : q < L
            · have hd : decide ((q : Int) < (L : Int)) = true := by simp; omega
              have hsl : ∀ w, (Instr.sliceAt 62 (.slice (some ⟨ba, o + at_, none⟩) L C) (some (.int .i64 q)) none none).run Try.prog w = .ok (.slice (some ⟨ba, o + at_ + q, none⟩) (L - q) (C - q)) w := by
                intro w
                have := run_l (P := Try.prog) (w := w) elemU64 (some ⟨ba, o + at_, none⟩) L C (l := q) (by omega) .i64
                rw [if_neg (show ¬ C = q by omega)] at this
                simpa [Addr.add_lit] using this
              have HS2 := Lib.hid (same_any (some ⟨ba, o + at_ + q, none⟩) (L - q) (C - q) (zl.drop q) wr ((HL.out.below (hK.out.2.2.2.2)).from_ (by omega)) (by omega))
              have hfu : L - g = (L - (g + 1)) + 1 := by have := hK.out.1; omega
              have hgr1 := hK.out.2.1
              rw [hfu, hgr] at hgr1
              have hzne : zl.drop q ≠ [] := fun e => by have := congrArg List.length e; rw [List.length_drop, HL.out.len] at this; simp at this; omega
              obtain ⟨s2, hs2⟩ : ∃ s2, same (zl.drop q) = s2 := ⟨_, rfl⟩
              rw [hs2] at HS2 hgr1
              by_cases h82 : s2 < 8
              · rw [if_neg (by simp [hzne]; omega)] at hgr1
                have HG1 := Lib.hid hgr1
                have hd2 : decide ((s2 : Int) < 8) = true := by simp; omega
                clear hgr1 hfu hzne hs2
                have hcw := HS2.out
                go_wp2_with fail
                refine HS2.out.mono ?_
                rintro e w2 ⟨rfl, hb2⟩
                have hK2 := (hb2.block p (lt_of_block hK.out.2.2.1)).trans hK.out.2.2.1
                have hcb2 : w2.cell? ⟨b, 0, none⟩ = some (.slice (some ⟨ba, o + at_, none⟩) L C) := by rw [World.cell?_of_block (w := wr) (hb2.block b (by have := hK.out.2.2.2.2.size; omega))]; exact hcb
                have k1 : w2.cell? ⟨p, 1, none⟩ = some (.slice SV m cl) := by simp [World.cell?, hK2]
                have f1 : w2.frozen? ⟨p, 1, none⟩ = false := by simp [World.frozen?, hK2]
                have HB2 := Lib.hid (hK.out.2.2.2.2.trans (hb2.mono hK.out.2.2.2.2.size))
                have HK2 := Lib.hid hK2
                clear hb2 hK2 hcb hcw
                go_wp2_with fail
                go_roundg (L - q)
                case measure => omega
                case rel =>
                  have h1 := Joins.block_setCell (i := 1) HK2.out (.slice (some ⟨ba, o + at_, none⟩) (min ((q : Int) + 8) (L : Int)).toNat C)
                  exact ⟨q + 8, by go_num, by omega, by omega, g + 1, (min ((q : Int) + 8) (L : Int)).toNat, C, some ⟨ba, o + at_, none⟩, Lib.hid ⟨by have := hK.out.1; omega, by rw [HG1.out, List.drop_drop]; omega, by simpa using h1, fun _ => ⟨rfl, by omega, rfl⟩, HB2.out.setCell (p := ⟨p, 1, none⟩) hpw _⟩⟩
              · rw [if_pos (by simp; omega)] at hgr1
                have hg0 : 0 < g := by
                  rcases Nat.eq_zero_or_pos g with h0 | h0
                  · have := hK.out.1; rw [h0] at this; subst this; rw [List.drop_zero, hs] at hs2; omega
                  · exact h0
                have HG1 := Lib.hid hgr1
                have hd2 : decide ((s2 : Int) < 8) = false := by simp; omega
                clear hgr1 hfu hzne hs2
                go_wp2_with fail
                refine HS2.out.mono ?_
                rintro e w2 ⟨rfl, hb2⟩
                have HK2 := Lib.hid ((hb2.block p (lt_of_block hK.out.2.2.1)).trans hK.out.2.2.1)
                have HB2 := Lib.hid (hK.out.2.2.2.2.trans (hb2.mono hK.out.2.2.2.2.size))
                clear hb2
                go_wp2_with fail
                go_meet
                obtain ⟨e1, e2, e3⟩ := hK.out.2.2.2.1 hg0
                refine ⟨0, m, cl, SV, Lib.hid ⟨HK2.out, HB2.out, .inr ⟨h8, rfl, e1, ?_, e3⟩⟩⟩
                rw [e2]; unfold htak; rw [if_neg (by rw [hs]; omega), HL.out.len, HG1.out, hK.out.1]; rfl
            · have hd : decide ((q : Int) < (L : Int)) = false := by simp; omega
              have hg0 : 0 < g := by have := hK.out.1; omega
              have hgr1 := hK.out.2.1
              rw [List.drop_of_length_le (by rw [HL.out.len]; omega)] at hgr1
              have hz0 : ∀ f, hgr f [] = 0 := fun f => by cases f <;> simp [hgr]
              rw [hz0] at hgr1
              have HG1 := Lib.hid hgr1
              clear hgr1 hz0
              go_wp2_with fail
              go_meet
              obtain ⟨e1, e2, e3⟩ := hK.out.2.2.2.1 hg0
              refine ⟨0, m, cl, SV, Lib.hid ⟨hK.out.2.2.1, hK.out.2.2.2.2, .inr ⟨h8, rfl, e1, ?_, e3⟩⟩⟩
              rw [e2]; unfold htak; rw [if_neg (by rw [hs]; omega), HL.out.len, HG1.out, hK.out.1]; rfl
        · go_wp2_with fail
          go_meet
          exact ⟨s, 0, 0, none, Lib.hid ⟨HP.out, HB2.out, .inl ⟨by omega, rfl, rfl⟩⟩⟩
      case rest =>
        obtain ⟨o', m, cl, SV, hC⟩ := hcut
        have k0 : wc.cell? ⟨p, 0, none⟩ = some (.int .i64 (o' : Int)) := by simp [World.cell?, hC.out.1]
        have k1 : wc.cell? ⟨p, 1, none⟩ = some (.slice SV m cl) := by simp [World.cell?, hC.out.1]
        have hcb : wc.cell? ⟨b, 0, none⟩ = some (.slice (some ⟨ba, o + at_, none⟩) L C) := by
          have h1 := cell_of_one (hI.out.2.1.below hC.out.2.1 hbw)
          rw [HE.out.1, HE.out.2.1] at h1; exact h1
        go_upto_if 45 with fail
        have hht : 8 ≤ s → htak zl = s := fun h => by unfold htak; rw [if_pos (by rw [hs]; exact h), hs]
        obtain ⟨t, ht⟩ : ∃ t, htak zl = t := ⟨_, rfl⟩
        have hmax : max (o' : Int) (m : Int) = (t : Int) := by
          rcases hC.out.2.2 with ⟨h1, h2, h3⟩ | ⟨h1, h2, h3, h4, h5⟩
          · have := hht h1; omega
          · omega
        rw [hmax]
        have HT := Lib.hid (And.intro ht hht)
        clear hmax ht hht
        go_cut [] from 6 to 55 (fun wx => ∃ x1 x2 : Nat, Hid (wx.heap[p]? = some (.cells #[.int .i64 (x1 : Int), .slice (some ⟨ba, o + at_, none⟩) x2 C] 69 (0, 0)) ∧ Below wo.heap.size wo wx ∧ (if 8 ≤ s then (s, at_, 1) else (0, at_, t)) = (x1, at_, x2)))
        case first =>
          rcases hC.out.2.2 with ⟨h1, rfl, rfl⟩ | ⟨h1, rfl, rfl, h4, rfl⟩
          · have ho : decide (0 < o') = true := by simp; omega
            have hlt2 : (1 : Nat) ≤ C := by have := HL.out.cap; omega
            have f1 : wc.frozen? ⟨p, 1, none⟩ = false := by simp [World.frozen?, hC.out.1]
            go_wp2_with fail
            go_meet
            have h2 := Joins.block_setCell (i := 1) hC.out.1 (.slice (some ⟨ba, o + at_, none⟩) 1 C)
            exact ⟨o', 1, Lib.hid ⟨by simpa using h2, hC.out.2.1.setCell (p := ⟨p, 1, none⟩) hpw _, by rw [if_pos h1]⟩⟩
          · have ho : decide ((0 : Nat) < 0) = false := by simp
            go_wp2_with fail
            go_meet
            exact ⟨0, m, Lib.hid ⟨hC.out.1, hC.out.2.1, by rw [if_neg (by omega), h4, HT.out.1]⟩⟩
        case rest =>
          obtain ⟨x1, x2, hD⟩ := hcut
          obtain ⟨wd, rfl⟩ : ∃ wd, wd = wc := ⟨_, rfl⟩
          have hzne : zl ≠ [] := fun e => by have := HL.out.len; rw [e] at this; simp at this; omega
          have hJw := HJ.out pre wo wd hI.out.2.2.2.2 (.of_below hD.out.2.1)
          have hli := hI.out.2.2.2.1
          rw [HE.out.2.2, hlist_step at_ hzne, hs, HT.out.1, hD.out.2.2] at hli
          obtain ⟨fn, tmps, assign, body, hy, hR⟩ := HY.out pre (x1, at_, x2) wd ⟨_, by rw [hli, List.append_assoc]; rfl⟩ hJw
          have hy' : (Instr.yield l #[.agg #[.int .i64 (x1 : Int), .slice (some ⟨ba, o + at_, none⟩) x2 C]]).run Try.prog wd = .ok (.round l fn tmps assign body) wd := by
            have h1 := hy; unfold runE runV at h1; simp only at h1; rw [HE.out.2.1] at h1; exact h1
          have k0' : wd.cell? ⟨p, 0, none⟩ = some (.int .i64 (x1 : Int)) := by simp [World.cell?, hD.out.1]
          have k1' : wd.cell? ⟨p, 1, none⟩ = some (.slice (some ⟨ba, o + at_, none⟩) x2 C) := by simp [World.cell?, hD.out.1]
          have HLI := Lib.hid hli
          have HRR := Lib.hid hR
          clear hli hy hJw k0 k1 hcb hC hR
          go_upto_region 11 with fail
          refine (wpIn_wide (n := 0)).1 ?_
          gi_wp2
          refine ⟨rfl, HRR.out.mono ?_⟩
          rintro e W3 ⟨rfl, hJ3, hk3⟩
          have hbd : Box wd b 62 (.slice (some ⟨ba, o + at_, none⟩) L C) := by
            have h1 := hI.out.2.1.below hD.out.2.1 hbw
            rw [HE.out.1, HE.out.2.1] at h1; exact h1
          have hb3 := hbd.keep hk3 (.inl rfl)
          have hr3 : Rd W3 .u64 (some ⟨ba, o, none⟩) n c zs := (hI.out.2.2.1.below hD.out.2.1).keep hk3.size fun k hk ⟨o', e⟩ => hk3.block k hk (.inr (by injection e with e; injection e with e; exact e.symm))
          have hc3 := cell_of_one hb3
          have hf3 := free_of_one hb3
          have HB3 := Lib.hid hb3
          have HR3 := Lib.hid hr3
          have HJ3 := Lib.hid hJ3
          have htL : t ≤ L := by have h1 := htak_le zl; rw [HL.out.len] at h1; have := HT.out.1; omega
          have ht0 : 1 ≤ t := by have := htak_pos hzne; have := HT.out.1; omega
          have hsl := fun w => run_l (P := Try.prog) (w := w) elemU64 (some ⟨ba, o + at_, none⟩) L C (l := t) htL .i64
          obtain ⟨V, hV⟩ : ∃ V, (if C = t then some (⟨ba, o + at_, none⟩ : Addr) else (some (⟨ba, o + at_, none⟩ : Addr)).map (·.add (t * 1))) = V := ⟨_, rfl⟩
          rw [hV] at hsl
          have HV := Lib.hid hV
          clear hbd hb3 hr3 hJ3 hk3 HRR hy' k0' k1' HY hV
          gi_wp2
          go_wp2_with fail
          go_roundg (n - (at_ + t))
          case measure => have := HE.out.1; omega
          case rel =>
            refine ⟨at_ + t, V, pre ++ [(x1, at_, x2)], by have := HE.out.1; omega, rfl, Lib.hid ⟨fun h => ?_, ?_, ?_, ?_, ?_⟩⟩
            · rw [← HV.out, if_neg (by have := HL.out.cap; have := HE.out.1; omega)]
              simp [Addr.add_lit, Nat.add_assoc]
            · have h1 := one_setCell (u := .slice V (L - t) (C - t)) HB3.out
              rw [show n - (at_ + t) = L - t by have := HE.out.1; omega, show c - (at_ + t) = C - t by have := HE.out.2.1; omega]
              exact h1
            · exact HR3.out.setCell (p := ⟨b, 0, none⟩) (fun b' o' e => by injection e with e; injection e with e; rw [← e]; exact hne) _
            · rw [HLI.out, ← HE.out.2.2, List.drop_drop]; simp
            · exact HJ.out _ _ _ HJ3.out (.setCell _ (fun h => h rfl) _)
    · obtain rfl : at_ = n := by omega
      have hli := hI.out.2.2.2.1
      have hl0 : zs.drop at_ = [] := List.drop_of_length_le (by rw [hI.out.2.2.1.len]; exact Nat.le_refl _)
      rw [hl0, hlist_nil, List.append_nil] at hli
      rw [Nat.sub_self] at hc
      have HLI := Lib.hid hli
      clear hli hl0
      go_wp2
      go_end0
      exact ⟨⟨_, rfl⟩, by rw [HLI.out]; exact hI.out.2.2.2.2⟩
end Go.Proofs.Ytbfnaigefmdcdaa
