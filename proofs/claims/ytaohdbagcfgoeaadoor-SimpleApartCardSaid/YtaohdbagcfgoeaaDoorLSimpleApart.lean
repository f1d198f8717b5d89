/-
  SimpleApart: for every input the law returns true; the arguments read behind the call as they read before. No condition.
-/
import Derived.Deep.DeepCutAuto
import Derived.ChangeOld
import Derived.Test.YtaohdbagcfgoeaaDoorTie
import Derived.Test.YtaohdbagcfgoeaaDoorCards
import Derived.SevenTiedAt
import Derived.Test.YtaohdbagcfgoeaaDoorG20
import Derived.Test.YtaohdbagcfgoeaaDoorG21
namespace Go.Proofs.YtaohdbagcfgoeaaDoor
open Go.RowKit Go.Cor Go.Free
open Go

set_option maxRecDepth 100000 in
set_option maxHeartbeats 8000000 in
theorem SimpleApart_walk (W : World) (hj : Shp W) (A : Option Addr) (n c : Nat) (xs : List Int) (h : Rd W .i64 A n c xs) (hi : In .i64 xs) (B : Option Addr) (m d : Nat) (ys : List Int) (h' : Rd W .i64 B m d ys) (hi' : In .i64 ys)
    (D : Option Addr) (k f : Nat) (bs : List Int) (h2 : Rd W .u8 D k f bs) (hi2 : In .u8 bs) :
    Calls Tryd.prog 6 #[.slice A n c, .slice B m d, .slice D k f] W fun e w' => e = .returned (.bool true) ∧ Below W.heap.size W w' := by
  by_cases hn : 300 < n
  · clear h hi h' hi' h2 hi2
    go_enter Tryd.func6, Tryd.ntmps6
    go_wp2
    go_ret
    exact ⟨rfl, Below.refl _ _⟩
  by_cases hm : 300 < m
  · clear h hi h' hi' h2 hi2
    go_enter Tryd.func6, Tryd.ntmps6
    go_wp2
    go_ret
    exact ⟨rfl, Below.refl _ _⟩
  by_cases hk : 3000 < k
  · clear h hi h' hi' h2 hi2
    go_enter Tryd.func6, Tryd.ntmps6
    go_wp2
    go_ret
    exact ⟨rfl, Below.refl _ _⟩
  have hln := h.len
  have hlm := h'.len
  have hx : ∀ x ∈ xs, I64 x := fun x hx => hi x hx
  have hy : ∀ x ∈ ys, I64 x := fun x hx => hi' x hx
  have hby : By bs := fun x hx => hi2 x hx
  have hE := fun w hj h => simE.c w hj A n c xs h hi (by omega)
  have hE' := fun w hj h => simE.c w hj B m d ys h hi' (by omega)
  have hD := fun w hj h => simD.c w hj D k f bs n h hby (by omega)
  unfold EncG at hE hE'
  unfold DecG at hD
  have hdok := sdec_ok bs n hby
  obtain ⟨r1, hr1⟩ : ∃ r, wrg stk xs = r := ⟨_, rfl⟩
  obtain ⟨r2, hr2⟩ : ∃ r, wrg stk ys = r := ⟨_, rfl⟩
  obtain ⟨er, her⟩ : ∃ er, (sdec bs n).2 = er := ⟨_, rfl⟩
  obtain ⟨l, hl⟩ : ∃ l, (sdec bs n).1 = l := ⟨_, rfl⟩
  rw [her, hl] at hD hdok
  obtain ⟨qa, ha⟩ : ∃ q, tak stk xs = q := ⟨_, rfl⟩
  obtain ⟨qb, hb⟩ : ∃ q, tak stk ys = q := ⟨_, rfl⟩
  have HQ := Lib.hid (And.intro ha hb)
  rw [hr1, ha] at hE
  rw [hr2, hb] at hE'
  have HJ := Lib.hid (fun w' (hb : Below W.heap.size W w') => shpKeep _ _ hj hb)
  have H := Lib.hid h
  have H' := Lib.hid h'
  have H2 := Lib.hid h2
  have HX := Lib.hid hx
  have HY := Lib.hid hy
  have HE := Lib.hid hE
  have HE' := Lib.hid hE'
  have HD := Lib.hid hD
  have HDOK := Lib.hid hdok
  have HRR := Lib.hid (And.intro hr1 hr2)
  have HLL := Lib.hid (And.intro hln hlm)
  clear hj h hi h' hi' h2 hi2 hx hy hby hE hE' hD hdok hr1 hr2 her hl ha hb hln hlm
  go_enter Tryd.func6, Tryd.ntmps6
  go_wp2_with fail
  refine (HE.out _ (HJ.out _ ((Below.refl W.heap.size W).alloc (Nat.le_refl _) _)) (H.out.alloc _)).mono ?_
  rintro e w1 ⟨A1, m1, c1, rfl, ho1, hb1⟩
  have HO1 := Lib.hid (Rd.own ho1)
  have HB1 := Lib.hid (((Below.refl W.heap.size W).alloc (Nat.le_refl _) _).trans (hb1.mono (by simp)))
  clear ho1 hb1
  go_wp2_with fail
  refine (HE'.out _ (HJ.out _ HB1.out) (H'.out.below HB1.out)).mono ?_
  rintro e w2 ⟨A2, m2, c2, rfl, ho2, hb2⟩
  have HO2 := Lib.hid (Rd.own ho2)
  have HO1' := Lib.hid (HO1.out.below hb2)
  have HB2 := Lib.hid (HB1.out.trans (hb2.mono HB1.out.size))
  clear ho2 hb2 HO1 HB1 HE HE'
  go_upto_region 6 with fail
  go_cut [67] (fun v67 wx => v67 = .bool false ∧ Hid (Below W.heap.size W wx))
  case first =>
    cases qa with
    | false =>
      have N1 : (r1 == 0) = false := by have := wrg_not HQ.out.1; rw [HRR.out.1] at this; simp [this]
      refine wp_region_free 24 (by kernel_rfl) (by kernel_rfl) ?_
      refine chain_val (.int .i64 r1) (S := [9]) rfl ?_ ?_
      · intro ρ w' hE hB hs
        have h9 : ρ (.tmp 9) = .int .i64 r1 := hs 9 (by decide)
        clear hs
        refine if_t (by rfl) ?_
        (go_simp <;> exact wrapi64_in _ (by omega) (by omega))
      refine chain_val (.bool false) (S := [44]) rfl ?_ ?_
      · intro ρ w' hE hB hs
        have h44 : ρ (.tmp 44) = .int .i64 r1 := hs 44 (by decide)
        clear hs
        have hc := hE.const
        refine if_t (by rfl) ?_
        go_simp
      refine chain_val (.bool false) (S := [45]) rfl ?_ ?_
      · intro ρ w' hE hB hs
        have h45 : ρ (.tmp 45) = .bool false := hs 45 (by decide)
        clear hs
        refine if_t (by rfl) ?_
        (go_simp <;> exact wrapi64_in _ (by omega) (by omega))
      refine chain_val undef (S := [11, 46]) rfl ?_ ?_
      · intro ρ w' hE hB hs
        have h11 : ρ (.tmp 11) = .int .i64 r2 := hs 11 (by decide)
        have h46 : ρ (.tmp 46) = .bool false := hs 46 (by decide)
        clear hs
        exact if_f (by simp [Region.wanted, yieldedR, h46]) rfl
      refine chain_val undef (S := [47, 46]) rfl ?_ ?_
      · intro ρ w' hE hB hs
        have h46 : ρ (.tmp 46) = .bool false := hs 46 (by decide)
        have h47 : ρ (.tmp 47) = undef := hs 47 (by decide)
        clear hs
        have hc := hE.const
        exact if_f (by simp [Region.wanted, yieldedR, h46]) rfl
      refine chain_val (.bool false) (S := [46, 48]) rfl ?_ ?_
      · intro ρ w' hE hB hs
        have h46 : ρ (.tmp 46) = .bool false := hs 46 (by decide)
        have h48 : ρ (.tmp 48) = undef := hs 48 (by decide)
        clear hs
        have hc := hE.const
        refine if_t (by rfl) ?_
        (go_simp <;> exact wrapi64_in _ (by omega) (by omega))
      refine chain_val (.bool false) (S := [49]) rfl ?_ ?_
      · intro ρ w' hE hB hs
        have h49 : ρ (.tmp 49) = .bool false := hs 49 (by decide)
        clear hs
        refine if_t (by rfl) ?_
        (go_simp <;> exact wrapi64_in _ (by omega) (by omega))
      refine chain_val undef (S := [0, 50]) rfl ?_ ?_
      · intro ρ w' hE hB hs
        have h0 : ρ (.tmp 0) = .slice A n c := hs 0 (by decide)
        have h50 : ρ (.tmp 50) = .bool false := hs 50 (by decide)
        clear hs
        exact if_f (by simp [Region.wanted, yieldedR, h50]) rfl
      refine chain_val undef (S := [51, 50]) rfl ?_ ?_
      · intro ρ w' hE hB hs
        have h50 : ρ (.tmp 50) = .bool false := hs 50 (by decide)
        have h51 : ρ (.tmp 51) = undef := hs 51 (by decide)
        clear hs
        exact if_f (by simp [Region.wanted, yieldedR, h50]) rfl
      refine chain_val undef (S := [1, 50]) rfl ?_ ?_
      · intro ρ w' hE hB hs
        have h1 : ρ (.tmp 1) = .slice B m d := hs 1 (by decide)
        have h50 : ρ (.tmp 50) = .bool false := hs 50 (by decide)
        clear hs
        exact if_f (by simp [Region.wanted, yieldedR, h50]) rfl
      refine chain_val undef (S := [53, 50]) rfl ?_ ?_
      · intro ρ w' hE hB hs
        have h50 : ρ (.tmp 50) = .bool false := hs 50 (by decide)
        have h53 : ρ (.tmp 53) = undef := hs 53 (by decide)
        clear hs
        exact if_f (by simp [Region.wanted, yieldedR, h50]) rfl
      refine chain_val undef (S := [52, 54, 50]) rfl ?_ ?_
      · intro ρ w' hE hB hs
        have h50 : ρ (.tmp 50) = .bool false := hs 50 (by decide)
        have h52 : ρ (.tmp 52) = undef := hs 52 (by decide)
        have h54 : ρ (.tmp 54) = undef := hs 54 (by decide)
        clear hs
        exact if_f (by simp [Region.wanted, yieldedR, h50]) rfl
      refine chain_val (.bool false) (S := [50, 55]) rfl ?_ ?_
      · intro ρ w' hE hB hs
        have h50 : ρ (.tmp 50) = .bool false := hs 50 (by decide)
        have h55 : ρ (.tmp 55) = undef := hs 55 (by decide)
        clear hs
        have hc := hE.const
        refine if_t (by rfl) ?_
        (go_simp <;> exact wrapi64_in _ (by omega) (by omega))
      refine chain_val (.bool false) (S := [56]) rfl ?_ ?_
      · intro ρ w' hE hB hs
        have h56 : ρ (.tmp 56) = .bool false := hs 56 (by decide)
        clear hs
        refine if_t (by rfl) ?_
        (go_simp <;> exact wrapi64_in _ (by omega) (by omega))
      refine chain_val undef (S := [8, 57]) rfl ?_ ?_
      · intro ρ w' hE hB hs
        have h8 : ρ (.tmp 8) = .slice A1 m1 c1 := hs 8 (by decide)
        have h57 : ρ (.tmp 57) = .bool false := hs 57 (by decide)
        clear hs
        exact if_f (by simp [Region.wanted, yieldedR, h57]) rfl
      refine chain_val undef (S := [58, 57]) rfl ?_ ?_
      · intro ρ w' hE hB hs
        have h57 : ρ (.tmp 57) = .bool false := hs 57 (by decide)
        have h58 : ρ (.tmp 58) = undef := hs 58 (by decide)
        clear hs
        exact if_f (by simp [Region.wanted, yieldedR, h57]) rfl
      refine chain_val undef (S := [10, 57]) rfl ?_ ?_
      · intro ρ w' hE hB hs
        have h10 : ρ (.tmp 10) = .slice A2 m2 c2 := hs 10 (by decide)
        have h57 : ρ (.tmp 57) = .bool false := hs 57 (by decide)
        clear hs
        exact if_f (by simp [Region.wanted, yieldedR, h57]) rfl
      refine chain_val undef (S := [60, 57]) rfl ?_ ?_
      · intro ρ w' hE hB hs
        have h57 : ρ (.tmp 57) = .bool false := hs 57 (by decide)
        have h60 : ρ (.tmp 60) = undef := hs 60 (by decide)
        clear hs
        exact if_f (by simp [Region.wanted, yieldedR, h57]) rfl
      refine chain_val undef (S := [59, 61, 57]) rfl ?_ ?_
      · intro ρ w' hE hB hs
        have h57 : ρ (.tmp 57) = .bool false := hs 57 (by decide)
        have h59 : ρ (.tmp 59) = undef := hs 59 (by decide)
        have h61 : ρ (.tmp 61) = undef := hs 61 (by decide)
        clear hs
        exact if_f (by simp [Region.wanted, yieldedR, h57]) rfl
      refine chain_val undef (S := [0, 57]) rfl ?_ ?_
      · intro ρ w' hE hB hs
        have h0 : ρ (.tmp 0) = .slice A n c := hs 0 (by decide)
        have h57 : ρ (.tmp 57) = .bool false := hs 57 (by decide)
        clear hs
        exact if_f (by simp [Region.wanted, yieldedR, h57]) rfl
      refine chain_val undef (S := [1, 57]) rfl ?_ ?_
      · intro ρ w' hE hB hs
        have h1 : ρ (.tmp 1) = .slice B m d := hs 1 (by decide)
        have h57 : ρ (.tmp 57) = .bool false := hs 57 (by decide)
        clear hs
        exact if_f (by simp [Region.wanted, yieldedR, h57]) rfl
      refine chain_val undef (S := [63, 64, 57]) rfl ?_ ?_
      · intro ρ w' hE hB hs
        have h57 : ρ (.tmp 57) = .bool false := hs 57 (by decide)
        have h63 : ρ (.tmp 63) = undef := hs 63 (by decide)
        have h64 : ρ (.tmp 64) = undef := hs 64 (by decide)
        clear hs
        exact if_f (by simp [Region.wanted, yieldedR, h57]) rfl
      refine chain_val undef (S := [62, 65, 57]) rfl ?_ ?_
      · intro ρ w' hE hB hs
        have h57 : ρ (.tmp 57) = .bool false := hs 57 (by decide)
        have h62 : ρ (.tmp 62) = undef := hs 62 (by decide)
        have h65 : ρ (.tmp 65) = undef := hs 65 (by decide)
        clear hs
        exact if_f (by simp [Region.wanted, yieldedR, h57]) rfl
      refine chain_val (.bool false) (S := [57, 66]) rfl ?_ ?_
      · intro ρ w' hE hB hs
        have h57 : ρ (.tmp 57) = .bool false := hs 57 (by decide)
        have h66 : ρ (.tmp 66) = undef := hs 66 (by decide)
        clear hs
        have hc := hE.const
        refine if_t (by rfl) ?_
        (go_simp <;> exact wrapi64_in _ (by omega) (by omega))
      intro w1 hB1
      simp only [List.reverse_cons, List.reverse_nil, List.nil_append, List.cons_append, Go.Free.Ends, forall_eq, Act.put, List.setIfInBounds_toArray, List.set_cons_zero, List.set_cons_succ]
      have HB3 := HB2.out.trans (hB1.mono HB2.out.size)
      have HW2 := hB1
      clear hB1
      go_wp2_with fail
      go_meet
      exact ⟨rfl, Lib.hid HB3⟩
    | true =>
      have e1 := wrg_tak HQ.out.1
      rw [HRR.out.1] at e1
      subst e1
      cases qb with
      | false =>
        have N2 : (r2 == 0) = false := by have := wrg_not HQ.out.2; rw [HRR.out.2] at this; simp [this]
        refine wp_region_free 24 (by kernel_rfl) (by kernel_rfl) ?_
        refine chain_val (.int .i64 0) (S := [9]) rfl ?_ ?_
        · intro ρ w' hE hB hs
          have h9 : ρ (.tmp 9) = .int .i64 0 := hs 9 (by decide)
          clear hs
          refine if_t (by rfl) ?_
          (go_simp <;> exact wrapi64_in _ (by omega) (by omega))
        refine chain_val (.bool true) (S := [44]) rfl ?_ ?_
        · intro ρ w' hE hB hs
          have h44 : ρ (.tmp 44) = .int .i64 0 := hs 44 (by decide)
          clear hs
          have hc := hE.const
          refine if_t (by rfl) ?_
          go_simp
        refine chain_val (.bool true) (S := [45]) rfl ?_ ?_
        · intro ρ w' hE hB hs
          have h45 : ρ (.tmp 45) = .bool true := hs 45 (by decide)
          clear hs
          refine if_t (by rfl) ?_
          (go_simp <;> exact wrapi64_in _ (by omega) (by omega))
        refine chain_val (.int .i64 r2) (S := [11, 46]) rfl ?_ ?_
        · intro ρ w' hE hB hs
          have h11 : ρ (.tmp 11) = .int .i64 r2 := hs 11 (by decide)
          have h46 : ρ (.tmp 46) = .bool true := hs 46 (by decide)
          clear hs
          refine if_t (by simp [Region.wanted, yieldedR, h46]) ?_
          (go_simp <;> exact wrapi64_in _ (by omega) (by omega))
        refine chain_val (.bool false) (S := [47, 46]) rfl ?_ ?_
        · intro ρ w' hE hB hs
          have h46 : ρ (.tmp 46) = .bool true := hs 46 (by decide)
          have h47 : ρ (.tmp 47) = .int .i64 r2 := hs 47 (by decide)
          clear hs
          have hc := hE.const
          refine if_t (by simp [Region.wanted, yieldedR, h46]) ?_
          go_simp
        refine chain_val (.bool false) (S := [46, 48]) rfl ?_ ?_
        · intro ρ w' hE hB hs
          have h46 : ρ (.tmp 46) = .bool true := hs 46 (by decide)
          have h48 : ρ (.tmp 48) = .bool false := hs 48 (by decide)
          clear hs
          have hc := hE.const
          refine if_t (by rfl) ?_
          (go_simp <;> exact wrapi64_in _ (by omega) (by omega))
        refine chain_val (.bool false) (S := [49]) rfl ?_ ?_
        · intro ρ w' hE hB hs
          have h49 : ρ (.tmp 49) = .bool false := hs 49 (by decide)
          clear hs
          refine if_t (by rfl) ?_
          (go_simp <;> exact wrapi64_in _ (by omega) (by omega))
        refine chain_val undef (S := [0, 50]) rfl ?_ ?_
        · intro ρ w' hE hB hs
          have h0 : ρ (.tmp 0) = .slice A n c := hs 0 (by decide)
          have h50 : ρ (.tmp 50) = .bool false := hs 50 (by decide)
          clear hs
          exact if_f (by simp [Region.wanted, yieldedR, h50]) rfl
        refine chain_val undef (S := [51, 50]) rfl ?_ ?_
        · intro ρ w' hE hB hs
          have h50 : ρ (.tmp 50) = .bool false := hs 50 (by decide)
          have h51 : ρ (.tmp 51) = undef := hs 51 (by decide)
          clear hs
          exact if_f (by simp [Region.wanted, yieldedR, h50]) rfl
        refine chain_val undef (S := [1, 50]) rfl ?_ ?_
        · intro ρ w' hE hB hs
          have h1 : ρ (.tmp 1) = .slice B m d := hs 1 (by decide)
          have h50 : ρ (.tmp 50) = .bool false := hs 50 (by decide)
          clear hs
          exact if_f (by simp [Region.wanted, yieldedR, h50]) rfl
        refine chain_val undef (S := [53, 50]) rfl ?_ ?_
        · intro ρ w' hE hB hs
          have h50 : ρ (.tmp 50) = .bool false := hs 50 (by decide)
          have h53 : ρ (.tmp 53) = undef := hs 53 (by decide)
          clear hs
          exact if_f (by simp [Region.wanted, yieldedR, h50]) rfl
        refine chain_val undef (S := [52, 54, 50]) rfl ?_ ?_
        · intro ρ w' hE hB hs
          have h50 : ρ (.tmp 50) = .bool false := hs 50 (by decide)
          have h52 : ρ (.tmp 52) = undef := hs 52 (by decide)
          have h54 : ρ (.tmp 54) = undef := hs 54 (by decide)
          clear hs
          exact if_f (by simp [Region.wanted, yieldedR, h50]) rfl
        refine chain_val (.bool false) (S := [50, 55]) rfl ?_ ?_
        · intro ρ w' hE hB hs
          have h50 : ρ (.tmp 50) = .bool false := hs 50 (by decide)
          have h55 : ρ (.tmp 55) = undef := hs 55 (by decide)
          clear hs
          have hc := hE.const
          refine if_t (by rfl) ?_
          (go_simp <;> exact wrapi64_in _ (by omega) (by omega))
        refine chain_val (.bool false) (S := [56]) rfl ?_ ?_
        · intro ρ w' hE hB hs
          have h56 : ρ (.tmp 56) = .bool false := hs 56 (by decide)
          clear hs
          refine if_t (by rfl) ?_
          (go_simp <;> exact wrapi64_in _ (by omega) (by omega))
        refine chain_val undef (S := [8, 57]) rfl ?_ ?_
        · intro ρ w' hE hB hs
          have h8 : ρ (.tmp 8) = .slice A1 m1 c1 := hs 8 (by decide)
          have h57 : ρ (.tmp 57) = .bool false := hs 57 (by decide)
          clear hs
          exact if_f (by simp [Region.wanted, yieldedR, h57]) rfl
        refine chain_val undef (S := [58, 57]) rfl ?_ ?_
        · intro ρ w' hE hB hs
          have h57 : ρ (.tmp 57) = .bool false := hs 57 (by decide)
          have h58 : ρ (.tmp 58) = undef := hs 58 (by decide)
          clear hs
          exact if_f (by simp [Region.wanted, yieldedR, h57]) rfl
        refine chain_val undef (S := [10, 57]) rfl ?_ ?_
        · intro ρ w' hE hB hs
          have h10 : ρ (.tmp 10) = .slice A2 m2 c2 := hs 10 (by decide)
          have h57 : ρ (.tmp 57) = .bool false := hs 57 (by decide)
          clear hs
          exact if_f (by simp [Region.wanted, yieldedR, h57]) rfl
        refine chain_val undef (S := [60, 57]) rfl ?_ ?_
        · intro ρ w' hE hB hs
          have h57 : ρ (.tmp 57) = .bool false := hs 57 (by decide)
          have h60 : ρ (.tmp 60) = undef := hs 60 (by decide)
          clear hs
          exact if_f (by simp [Region.wanted, yieldedR, h57]) rfl
        refine chain_val undef (S := [59, 61, 57]) rfl ?_ ?_
        · intro ρ w' hE hB hs
          have h57 : ρ (.tmp 57) = .bool false := hs 57 (by decide)
          have h59 : ρ (.tmp 59) = undef := hs 59 (by decide)
          have h61 : ρ (.tmp 61) = undef := hs 61 (by decide)
          clear hs
          exact if_f (by simp [Region.wanted, yieldedR, h57]) rfl
        refine chain_val undef (S := [0, 57]) rfl ?_ ?_
        · intro ρ w' hE hB hs
          have h0 : ρ (.tmp 0) = .slice A n c := hs 0 (by decide)
          have h57 : ρ (.tmp 57) = .bool false := hs 57 (by decide)
          clear hs
          exact if_f (by simp [Region.wanted, yieldedR, h57]) rfl
        refine chain_val undef (S := [1, 57]) rfl ?_ ?_
        · intro ρ w' hE hB hs
          have h1 : ρ (.tmp 1) = .slice B m d := hs 1 (by decide)
          have h57 : ρ (.tmp 57) = .bool false := hs 57 (by decide)
          clear hs
          exact if_f (by simp [Region.wanted, yieldedR, h57]) rfl
        refine chain_val undef (S := [63, 64, 57]) rfl ?_ ?_
        · intro ρ w' hE hB hs
          have h57 : ρ (.tmp 57) = .bool false := hs 57 (by decide)
          have h63 : ρ (.tmp 63) = undef := hs 63 (by decide)
          have h64 : ρ (.tmp 64) = undef := hs 64 (by decide)
          clear hs
          exact if_f (by simp [Region.wanted, yieldedR, h57]) rfl
        refine chain_val undef (S := [62, 65, 57]) rfl ?_ ?_
        · intro ρ w' hE hB hs
          have h57 : ρ (.tmp 57) = .bool false := hs 57 (by decide)
          have h62 : ρ (.tmp 62) = undef := hs 62 (by decide)
          have h65 : ρ (.tmp 65) = undef := hs 65 (by decide)
          clear hs
          exact if_f (by simp [Region.wanted, yieldedR, h57]) rfl
        refine chain_val (.bool false) (S := [57, 66]) rfl ?_ ?_
        · intro ρ w' hE hB hs
          have h57 : ρ (.tmp 57) = .bool false := hs 57 (by decide)
          have h66 : ρ (.tmp 66) = undef := hs 66 (by decide)
          clear hs
          have hc := hE.const
          refine if_t (by rfl) ?_
          (go_simp <;> exact wrapi64_in _ (by omega) (by omega))
        intro w1 hB1
        simp only [List.reverse_cons, List.reverse_nil, List.nil_append, List.cons_append, Go.Free.Ends, forall_eq, Act.put, List.setIfInBounds_toArray, List.set_cons_zero, List.set_cons_succ]
        have HB3 := HB2.out.trans (hB1.mono HB2.out.size)
        have HW2 := hB1
        clear hB1
        go_wp2_with fail
        go_meet
        exact ⟨rfl, Lib.hid HB3⟩
      | true =>
        have e2 := wrg_tak HQ.out.2
        rw [HRR.out.2] at e2
        subst e2
        by_cases hnm : n = m
        · have e3 : ((n : Int) == (m : Int)) = true := by simp [hnm]
          have hb1 := simBacks xs HX.out HQ.out.1
          have hb2 := simBacks ys HY.out HQ.out.2
          have hstr : ((strOfNums (sform xs)).toList == (strOfNums (sform ys)).toList) = decide (xs = ys) := by
            rw [str_beq hb1.by_ hb2.by_, Bool.eq_iff_iff]
            simp only [decide_eq_true_eq]
            refine ⟨fun e => ?_, fun e => by rw [e]⟩
            have h3 := hb1.back
            rw [e, show xs.length = ys.length by rw [HLL.out.1, HLL.out.2]; exact hnm, hb2.back] at h3
            exact (Prod.mk.inj h3).1.symm
          have HS := Lib.hid hstr
          have HNM := Lib.hid hnm
          simp only [if_true] at HO1' HO2
          clear hb1 hb2 hstr hnm
          refine wp_region_free 24 (by kernel_rfl) (by kernel_rfl) ?_
          refine chain_val (.int .i64 0) (S := [9]) rfl ?_ ?_
          · intro ρ w' hE hB hs
            have h9 : ρ (.tmp 9) = .int .i64 0 := hs 9 (by decide)
            clear hs
            refine if_t (by rfl) ?_
            (go_simp <;> exact wrapi64_in _ (by omega) (by omega))
          refine chain_val (.bool true) (S := [44]) rfl ?_ ?_
          · intro ρ w' hE hB hs
            have h44 : ρ (.tmp 44) = .int .i64 0 := hs 44 (by decide)
            clear hs
            have hc := hE.const
            refine if_t (by rfl) ?_
            go_simp
          refine chain_val (.bool true) (S := [45]) rfl ?_ ?_
          · intro ρ w' hE hB hs
            have h45 : ρ (.tmp 45) = .bool true := hs 45 (by decide)
            clear hs
            refine if_t (by rfl) ?_
            (go_simp <;> exact wrapi64_in _ (by omega) (by omega))
          refine chain_val (.int .i64 0) (S := [11, 46]) rfl ?_ ?_
          · intro ρ w' hE hB hs
            have h11 : ρ (.tmp 11) = .int .i64 0 := hs 11 (by decide)
            have h46 : ρ (.tmp 46) = .bool true := hs 46 (by decide)
            clear hs
            refine if_t (by simp [Region.wanted, yieldedR, h46]) ?_
            (go_simp <;> exact wrapi64_in _ (by omega) (by omega))
          refine chain_val (.bool true) (S := [47, 46]) rfl ?_ ?_
          · intro ρ w' hE hB hs
            have h46 : ρ (.tmp 46) = .bool true := hs 46 (by decide)
            have h47 : ρ (.tmp 47) = .int .i64 0 := hs 47 (by decide)
            clear hs
            have hc := hE.const
            refine if_t (by simp [Region.wanted, yieldedR, h46]) ?_
            go_simp
          refine chain_val (.bool true) (S := [46, 48]) rfl ?_ ?_
          · intro ρ w' hE hB hs
            have h46 : ρ (.tmp 46) = .bool true := hs 46 (by decide)
            have h48 : ρ (.tmp 48) = .bool true := hs 48 (by decide)
            clear hs
            have hc := hE.const
            refine if_t (by rfl) ?_
            (go_simp <;> exact wrapi64_in _ (by omega) (by omega))
          refine chain_val (.bool true) (S := [49]) rfl ?_ ?_
          · intro ρ w' hE hB hs
            have h49 : ρ (.tmp 49) = .bool true := hs 49 (by decide)
            clear hs
            refine if_t (by rfl) ?_
            (go_simp <;> exact wrapi64_in _ (by omega) (by omega))
          refine chain_val (.slice A n c) (S := [0, 50]) rfl ?_ ?_
          · intro ρ w' hE hB hs
            have h0 : ρ (.tmp 0) = .slice A n c := hs 0 (by decide)
            have h50 : ρ (.tmp 50) = .bool true := hs 50 (by decide)
            clear hs
            refine if_t (by simp [Region.wanted, yieldedR, h50]) ?_
            (go_simp <;> exact wrapi64_in _ (by omega) (by omega))
          refine chain_val (.int .i64 (n : Nat)) (S := [51, 50]) rfl ?_ ?_
          · intro ρ w' hE hB hs
            have h50 : ρ (.tmp 50) = .bool true := hs 50 (by decide)
            have h51 : ρ (.tmp 51) = .slice A n c := hs 51 (by decide)
            clear hs
            refine if_t (by simp [Region.wanted, yieldedR, h50]) ?_
            (go_simp <;> exact wrapi64_in _ (by omega) (by omega))
          refine chain_val (.slice B m d) (S := [1, 50]) rfl ?_ ?_
          · intro ρ w' hE hB hs
            have h1 : ρ (.tmp 1) = .slice B m d := hs 1 (by decide)
            have h50 : ρ (.tmp 50) = .bool true := hs 50 (by decide)
            clear hs
            refine if_t (by simp [Region.wanted, yieldedR, h50]) ?_
            (go_simp <;> exact wrapi64_in _ (by omega) (by omega))
          refine chain_val (.int .i64 (m : Nat)) (S := [53, 50]) rfl ?_ ?_
          · intro ρ w' hE hB hs
            have h50 : ρ (.tmp 50) = .bool true := hs 50 (by decide)
            have h53 : ρ (.tmp 53) = .slice B m d := hs 53 (by decide)
            clear hs
            refine if_t (by simp [Region.wanted, yieldedR, h50]) ?_
            (go_simp <;> exact wrapi64_in _ (by omega) (by omega))
          refine chain_val (.bool true) (S := [52, 54, 50]) rfl ?_ ?_
          · intro ρ w' hE hB hs
            have h50 : ρ (.tmp 50) = .bool true := hs 50 (by decide)
            have h52 : ρ (.tmp 52) = .int .i64 (n : Nat) := hs 52 (by decide)
            have h54 : ρ (.tmp 54) = .int .i64 (m : Nat) := hs 54 (by decide)
            clear hs
            refine if_t (by simp [Region.wanted, yieldedR, h50]) ?_
            go_simp
          refine chain_val (.bool true) (S := [50, 55]) rfl ?_ ?_
          · intro ρ w' hE hB hs
            have h50 : ρ (.tmp 50) = .bool true := hs 50 (by decide)
            have h55 : ρ (.tmp 55) = .bool true := hs 55 (by decide)
            clear hs
            have hc := hE.const
            refine if_t (by rfl) ?_
            (go_simp <;> exact wrapi64_in _ (by omega) (by omega))
          refine chain_val (.bool true) (S := [56]) rfl ?_ ?_
          · intro ρ w' hE hB hs
            have h56 : ρ (.tmp 56) = .bool true := hs 56 (by decide)
            clear hs
            refine if_t (by rfl) ?_
            (go_simp <;> exact wrapi64_in _ (by omega) (by omega))
          refine chain_val (.slice A1 m1 c1) (S := [8, 57]) rfl ?_ ?_
          · intro ρ w' hE hB hs
            have h8 : ρ (.tmp 8) = .slice A1 m1 c1 := hs 8 (by decide)
            have h57 : ρ (.tmp 57) = .bool true := hs 57 (by decide)
            clear hs
            refine if_t (by simp [Region.wanted, yieldedR, h57]) ?_
            (go_simp <;> exact wrapi64_in _ (by omega) (by omega))
          refine chain_val (.string (strOfNums (sform xs))) (S := [58, 57]) rfl ?_ ?_
          · intro ρ w' hE hB hs
            have h57 : ρ (.tmp 57) = .bool true := hs 57 (by decide)
            have h58 : ρ (.tmp 58) = .slice A1 m1 c1 := hs 58 (by decide)
            clear hs
            refine if_t (by simp [Region.wanted, yieldedR, h57]) ?_
            have hcv := conv_bytes (HO1'.out.below hB) 30 5 9 Tryd.underlying30 Tryd.underlying5 Tryd.underlying9
            go_simp
          refine chain_val (.slice A2 m2 c2) (S := [10, 57]) rfl ?_ ?_
          · intro ρ w' hE hB hs
            have h10 : ρ (.tmp 10) = .slice A2 m2 c2 := hs 10 (by decide)
            have h57 : ρ (.tmp 57) = .bool true := hs 57 (by decide)
            clear hs
            refine if_t (by simp [Region.wanted, yieldedR, h57]) ?_
            (go_simp <;> exact wrapi64_in _ (by omega) (by omega))
          refine chain_val (.string (strOfNums (sform ys))) (S := [60, 57]) rfl ?_ ?_
          · intro ρ w' hE hB hs
            have h57 : ρ (.tmp 57) = .bool true := hs 57 (by decide)
            have h60 : ρ (.tmp 60) = .slice A2 m2 c2 := hs 60 (by decide)
            clear hs
            refine if_t (by simp [Region.wanted, yieldedR, h57]) ?_
            have hcv := conv_bytes (HO2.out.below hB) 30 5 9 Tryd.underlying30 Tryd.underlying5 Tryd.underlying9
            go_simp
          refine chain_val (.bool (decide (xs = ys))) (S := [59, 61, 57]) rfl ?_ ?_
          · intro ρ w' hE hB hs
            have h57 : ρ (.tmp 57) = .bool true := hs 57 (by decide)
            have h59 : ρ (.tmp 59) = .string (strOfNums (sform xs)) := hs 59 (by decide)
            have h61 : ρ (.tmp 61) = .string (strOfNums (sform ys)) := hs 61 (by decide)
            clear hs
            refine if_t (by simp [Region.wanted, yieldedR, h57]) ?_
            have hst := HS.out
            go_simp
          refine chain_val (.slice A n c) (S := [0, 57]) rfl ?_ ?_
          · intro ρ w' hE hB hs
            have h0 : ρ (.tmp 0) = .slice A n c := hs 0 (by decide)
            have h57 : ρ (.tmp 57) = .bool true := hs 57 (by decide)
            clear hs
            refine if_t (by simp [Region.wanted, yieldedR, h57]) ?_
            (go_simp <;> exact wrapi64_in _ (by omega) (by omega))
          refine chain_val (.slice B m d) (S := [1, 57]) rfl ?_ ?_
          · intro ρ w' hE hB hs
            have h1 : ρ (.tmp 1) = .slice B m d := hs 1 (by decide)
            have h57 : ρ (.tmp 57) = .bool true := hs 57 (by decide)
            clear hs
            refine if_t (by simp [Region.wanted, yieldedR, h57]) ?_
            (go_simp <;> exact wrapi64_in _ (by omega) (by omega))
          refine chain_static (fun v__ _ => v__ = .bool (decide (xs = ys))) (stable_eq _) (S := [63, 64, 57]) rfl (Go.Cor.enters_f Tryd.func16 (by kernel_rfl) rfl) rfl ?_ ?_
          · intro ρ w' hE hB hs
            have h57 : ρ (.tmp 57) = .bool true := hs 57 (by decide)
            have h63 : ρ (.tmp 63) = .slice A n c := hs 63 (by decide)
            have h64 : ρ (.tmp 64) = .slice B m d := hs 64 (by decide)
            clear hs
            refine ⟨(by simp [Region.wanted, yieldedR, h57]), ?_⟩
            simp only [List.map_toArray, List.map_cons, List.map_nil, h63, h64]
            refine (sameI_any A B n c m d xs ys _ ((H.out.below HB2.out).below hB) ((H'.out.below HB2.out).below hB)).mono ?_
            rintro e w3 ⟨rfl, hb⟩
            exact ⟨_, rfl, hb, rfl⟩
          refine chain_val (.bool false) (S := [62, 65, 57]) rfl ?_ ?_
          · intro ρ w' hE hB hs
            have h57 : ρ (.tmp 57) = .bool true := hs 57 (by decide)
            have h62 : ρ (.tmp 62) = .bool (decide (xs = ys)) := hs 62 (by decide)
            have h65 : ρ (.tmp 65) = .bool (decide (xs = ys)) := hs 65 (by decide)
            clear hs
            refine if_t (by simp [Region.wanted, yieldedR, h57]) ?_
            go_simp
          refine chain_val (.bool false) (S := [57, 66]) rfl ?_ ?_
          · intro ρ w' hE hB hs
            have h57 : ρ (.tmp 57) = .bool true := hs 57 (by decide)
            have h66 : ρ (.tmp 66) = .bool false := hs 66 (by decide)
            clear hs
            have hc := hE.const
            refine if_t (by rfl) ?_
            (go_simp <;> exact wrapi64_in _ (by omega) (by omega))
          intro w1 hB1
          simp only [List.reverse_cons, List.reverse_nil, List.nil_append, List.cons_append, Go.Free.Ends, forall_eq, Act.put, List.setIfInBounds_toArray, List.set_cons_zero, List.set_cons_succ]
          have HB3 := HB2.out.trans (hB1.mono HB2.out.size)
          have HW2 := hB1
          clear hB1
          go_wp2_with fail
          go_meet
          exact ⟨rfl, Lib.hid HB3⟩
        · have e3 : ((n : Int) == (m : Int)) = false := by simp; omega
          clear hnm
          refine wp_region_free 24 (by kernel_rfl) (by kernel_rfl) ?_
          refine chain_val (.int .i64 0) (S := [9]) rfl ?_ ?_
          · intro ρ w' hE hB hs
            have h9 : ρ (.tmp 9) = .int .i64 0 := hs 9 (by decide)
            clear hs
            refine if_t (by rfl) ?_
            (go_simp <;> exact wrapi64_in _ (by omega) (by omega))
          refine chain_val (.bool true) (S := [44]) rfl ?_ ?_
          · intro ρ w' hE hB hs
            have h44 : ρ (.tmp 44) = .int .i64 0 := hs 44 (by decide)
            clear hs
            have hc := hE.const
            refine if_t (by rfl) ?_
            go_simp
          refine chain_val (.bool true) (S := [45]) rfl ?_ ?_
          · intro ρ w' hE hB hs
            have h45 : ρ (.tmp 45) = .bool true := hs 45 (by decide)
            clear hs
            refine if_t (by rfl) ?_
            (go_simp <;> exact wrapi64_in _ (by omega) (by omega))
          refine chain_val (.int .i64 0) (S := [11, 46]) rfl ?_ ?_
          · intro ρ w' hE hB hs
            have h11 : ρ (.tmp 11) = .int .i64 0 := hs 11 (by decide)
            have h46 : ρ (.tmp 46) = .bool true := hs 46 (by decide)
            clear hs
            refine if_t (by simp [Region.wanted, yieldedR, h46]) ?_
            (go_simp <;> exact wrapi64_in _ (by omega) (by omega))
          refine chain_val (.bool true) (S := [47, 46]) rfl ?_ ?_
          · intro ρ w' hE hB hs
            have h46 : ρ (.tmp 46) = .bool true := hs 46 (by decide)
            have h47 : ρ (.tmp 47) = .int .i64 0 := hs 47 (by decide)
            clear hs
            have hc := hE.const
            refine if_t (by simp [Region.wanted, yieldedR, h46]) ?_
            go_simp
          refine chain_val (.bool true) (S := [46, 48]) rfl ?_ ?_
          · intro ρ w' hE hB hs
            have h46 : ρ (.tmp 46) = .bool true := hs 46 (by decide)
            have h48 : ρ (.tmp 48) = .bool true := hs 48 (by decide)
            clear hs
            have hc := hE.const
            refine if_t (by rfl) ?_
            (go_simp <;> exact wrapi64_in _ (by omega) (by omega))
          refine chain_val (.bool true) (S := [49]) rfl ?_ ?_
          · intro ρ w' hE hB hs
            have h49 : ρ (.tmp 49) = .bool true := hs 49 (by decide)
            clear hs
            refine if_t (by rfl) ?_
            (go_simp <;> exact wrapi64_in _ (by omega) (by omega))
          refine chain_val (.slice A n c) (S := [0, 50]) rfl ?_ ?_
          · intro ρ w' hE hB hs
            have h0 : ρ (.tmp 0) = .slice A n c := hs 0 (by decide)
            have h50 : ρ (.tmp 50) = .bool true := hs 50 (by decide)
            clear hs
            refine if_t (by simp [Region.wanted, yieldedR, h50]) ?_
            (go_simp <;> exact wrapi64_in _ (by omega) (by omega))
          refine chain_val (.int .i64 (n : Nat)) (S := [51, 50]) rfl ?_ ?_
          · intro ρ w' hE hB hs
            have h50 : ρ (.tmp 50) = .bool true := hs 50 (by decide)
            have h51 : ρ (.tmp 51) = .slice A n c := hs 51 (by decide)
            clear hs
            refine if_t (by simp [Region.wanted, yieldedR, h50]) ?_
            (go_simp <;> exact wrapi64_in _ (by omega) (by omega))
          refine chain_val (.slice B m d) (S := [1, 50]) rfl ?_ ?_
          · intro ρ w' hE hB hs
            have h1 : ρ (.tmp 1) = .slice B m d := hs 1 (by decide)
            have h50 : ρ (.tmp 50) = .bool true := hs 50 (by decide)
            clear hs
            refine if_t (by simp [Region.wanted, yieldedR, h50]) ?_
            (go_simp <;> exact wrapi64_in _ (by omega) (by omega))
          refine chain_val (.int .i64 (m : Nat)) (S := [53, 50]) rfl ?_ ?_
          · intro ρ w' hE hB hs
            have h50 : ρ (.tmp 50) = .bool true := hs 50 (by decide)
            have h53 : ρ (.tmp 53) = .slice B m d := hs 53 (by decide)
            clear hs
            refine if_t (by simp [Region.wanted, yieldedR, h50]) ?_
            (go_simp <;> exact wrapi64_in _ (by omega) (by omega))
          refine chain_val (.bool false) (S := [52, 54, 50]) rfl ?_ ?_
          · intro ρ w' hE hB hs
            have h50 : ρ (.tmp 50) = .bool true := hs 50 (by decide)
            have h52 : ρ (.tmp 52) = .int .i64 (n : Nat) := hs 52 (by decide)
            have h54 : ρ (.tmp 54) = .int .i64 (m : Nat) := hs 54 (by decide)
            clear hs
            refine if_t (by simp [Region.wanted, yieldedR, h50]) ?_
            go_simp
          refine chain_val (.bool false) (S := [50, 55]) rfl ?_ ?_
          · intro ρ w' hE hB hs
            have h50 : ρ (.tmp 50) = .bool true := hs 50 (by decide)
            have h55 : ρ (.tmp 55) = .bool false := hs 55 (by decide)
            clear hs
            have hc := hE.const
            refine if_t (by rfl) ?_
            (go_simp <;> exact wrapi64_in _ (by omega) (by omega))
          refine chain_val (.bool false) (S := [56]) rfl ?_ ?_
          · intro ρ w' hE hB hs
            have h56 : ρ (.tmp 56) = .bool false := hs 56 (by decide)
            clear hs
            refine if_t (by rfl) ?_
            (go_simp <;> exact wrapi64_in _ (by omega) (by omega))
          refine chain_val undef (S := [8, 57]) rfl ?_ ?_
          · intro ρ w' hE hB hs
            have h8 : ρ (.tmp 8) = .slice A1 m1 c1 := hs 8 (by decide)
            have h57 : ρ (.tmp 57) = .bool false := hs 57 (by decide)
            clear hs
            exact if_f (by simp [Region.wanted, yieldedR, h57]) rfl
          refine chain_val undef (S := [58, 57]) rfl ?_ ?_
          · intro ρ w' hE hB hs
            have h57 : ρ (.tmp 57) = .bool false := hs 57 (by decide)
            have h58 : ρ (.tmp 58) = undef := hs 58 (by decide)
            clear hs
            exact if_f (by simp [Region.wanted, yieldedR, h57]) rfl
          refine chain_val undef (S := [10, 57]) rfl ?_ ?_
          · intro ρ w' hE hB hs
            have h10 : ρ (.tmp 10) = .slice A2 m2 c2 := hs 10 (by decide)
            have h57 : ρ (.tmp 57) = .bool false := hs 57 (by decide)
            clear hs
            exact if_f (by simp [Region.wanted, yieldedR, h57]) rfl
          refine chain_val undef (S := [60, 57]) rfl ?_ ?_
          · intro ρ w' hE hB hs
            have h57 : ρ (.tmp 57) = .bool false := hs 57 (by decide)
            have h60 : ρ (.tmp 60) = undef := hs 60 (by decide)
            clear hs
            exact if_f (by simp [Region.wanted, yieldedR, h57]) rfl
          refine chain_val undef (S := [59, 61, 57]) rfl ?_ ?_
          · intro ρ w' hE hB hs
            have h57 : ρ (.tmp 57) = .bool false := hs 57 (by decide)
            have h59 : ρ (.tmp 59) = undef := hs 59 (by decide)
            have h61 : ρ (.tmp 61) = undef := hs 61 (by decide)
            clear hs
            exact if_f (by simp [Region.wanted, yieldedR, h57]) rfl
          refine chain_val undef (S := [0, 57]) rfl ?_ ?_
          · intro ρ w' hE hB hs
            have h0 : ρ (.tmp 0) = .slice A n c := hs 0 (by decide)
            have h57 : ρ (.tmp 57) = .bool false := hs 57 (by decide)
            clear hs
            exact if_f (by simp [Region.wanted, yieldedR, h57]) rfl
          refine chain_val undef (S := [1, 57]) rfl ?_ ?_
          · intro ρ w' hE hB hs
            have h1 : ρ (.tmp 1) = .slice B m d := hs 1 (by decide)
            have h57 : ρ (.tmp 57) = .bool false := hs 57 (by decide)
            clear hs
            exact if_f (by simp [Region.wanted, yieldedR, h57]) rfl
          refine chain_val undef (S := [63, 64, 57]) rfl ?_ ?_
          · intro ρ w' hE hB hs
            have h57 : ρ (.tmp 57) = .bool false := hs 57 (by decide)
            have h63 : ρ (.tmp 63) = undef := hs 63 (by decide)
            have h64 : ρ (.tmp 64) = undef := hs 64 (by decide)
            clear hs
            exact if_f (by simp [Region.wanted, yieldedR, h57]) rfl
          refine chain_val undef (S := [62, 65, 57]) rfl ?_ ?_
          · intro ρ w' hE hB hs
            have h57 : ρ (.tmp 57) = .bool false := hs 57 (by decide)
            have h62 : ρ (.tmp 62) = undef := hs 62 (by decide)
            have h65 : ρ (.tmp 65) = undef := hs 65 (by decide)
            clear hs
            exact if_f (by simp [Region.wanted, yieldedR, h57]) rfl
          refine chain_val (.bool false) (S := [57, 66]) rfl ?_ ?_
          · intro ρ w' hE hB hs
            have h57 : ρ (.tmp 57) = .bool false := hs 57 (by decide)
            have h66 : ρ (.tmp 66) = undef := hs 66 (by decide)
            clear hs
            have hc := hE.const
            refine if_t (by rfl) ?_
            (go_simp <;> exact wrapi64_in _ (by omega) (by omega))
          intro w1 hB1
          simp only [List.reverse_cons, List.reverse_nil, List.nil_append, List.cons_append, Go.Free.Ends, forall_eq, Act.put, List.setIfInBounds_toArray, List.set_cons_zero, List.set_cons_succ]
          have HB3 := HB2.out.trans (hB1.mono HB2.out.size)
          have HW2 := hB1
          clear hB1
          go_wp2_with fail
          go_meet
          exact ⟨rfl, Lib.hid HB3⟩
  case rest =>
    obtain ⟨rfl, hcut⟩ := hcut
    clear HO1' HO2 HB2
    go_wp2_with fail
    refine (HD.out _ (HJ.out _ hcut.out) (H2.out.below hcut.out)).mono ?_
    rintro e w3 ⟨A3, m3, c3, rfl, ho3, hb3⟩
    have HO3 := Lib.hid (Rd.own ho3)
    have hl3 := row_len ho3
    have HB3 := Lib.hid (hcut.out.trans (hb3.mono hcut.out.size))
    clear ho3 hb3
    by_cases her : er = 0
    · subst her
      have hok := HDOK.out.1 rfl
      obtain rfl : m3 = n := by omega
      have hin : In .i64 l := fun x hx => hok.2 x hx
      have hT := fun w hj h => simT.c w hj A3 m3 c3 l h hin (by omega)
      obtain ⟨q, hq⟩ : ∃ q, tak stk l = q := ⟨_, rfl⟩
      rw [hq] at hT
      have HT := Lib.hid hT
      have HIN := Lib.hid hin
      have HOK := Lib.hid hok
      have HL3 := Lib.hid hl3
      have HQ3 := Lib.hid hq
      clear hok hin hT hl3 hq
      cases q with
      | false =>
        go_wp2_with fail
        refine (HT.out _ (HJ.out _ HB3.out) HO3.out).mono ?_
        rintro e w4 ⟨rfl, hb4⟩
        have HB4 := Lib.hid (HB3.out.trans (hb4.mono HB3.out.size))
        clear hb4
        go_wp2_with fail
        refine (awake09 _ (HJ.out _ HB4.out)).mono ?_
        rintro e w5 ⟨rfl, hb5⟩
        have HB5 := Lib.hid (HB4.out.trans (hb5.mono HB4.out.size))
        clear hb5
        go_wp2
        go_ret
        exact ⟨rfl, HB5.out⟩
      | true =>
        have hbk := simBacks l HOK.out.2 HQ3.out
        have HBK := Lib.hid hbk
        clear hbk
        go_wp2_with fail
        refine (HT.out _ (HJ.out _ HB3.out) HO3.out).mono ?_
        rintro e w4 ⟨rfl, hb4⟩
        have HO4 := Lib.hid (HO3.out.below hb4)
        have HB4 := Lib.hid (HB3.out.trans (hb4.mono HB3.out.size))
        clear hb4
        go_wp2_with fail
        refine (simE.c _ (HJ.out _ HB4.out) A3 m3 c3 l HO4.out HIN.out (by omega)).mono ?_
        rintro e w5 ⟨A5, m5, c5, rfl, ho5, hb5⟩
        rw [HQ3.out, if_pos rfl] at ho5
        have hl5 := row_len ho5
        have hle := HBK.out.len
        have HO5 := Lib.hid (Rd.own ho5)
        have HO4' := Lib.hid (HO4.out.below hb5)
        have HB5 := Lib.hid (HB4.out.trans (hb5.mono HB4.out.size))
        have hm5 : m5 ≤ 20000 := by omega
        rw [wrg_tak HQ3.out]
        clear ho5 hb5 hl5 hle
        go_wp2_with fail
        refine (simD.c _ (HJ.out _ HB5.out) A5 m5 c5 _ m3 HO5.out HBK.out.by_ (by omega)).mono ?_
        rintro e w6 ⟨A6, m6, c6, rfl, ho6, hb6⟩
        have hbb := HBK.out.back
        rw [HL3.out] at hbb
        rw [hbb] at ho6 ⊢
        have HO6 := Lib.hid (Rd.own ho6)
        have HO4'' := Lib.hid (HO4'.out.below hb6)
        have HB6 := Lib.hid (HB5.out.trans (hb6.mono HB5.out.size))
        clear ho6 hb6 hbb
        go_wp2_with fail
        refine (sameI_any A6 A3 m6 c6 m3 c3 l l _ HO6.out HO4''.out).mono ?_
        rintro e w7 ⟨rfl, hb7⟩
        rw [decide_eq_true rfl]
        have HB7 := Lib.hid (HB6.out.trans (hb7.mono HB6.out.size))
        clear hb7
        go_wp2_with fail
        refine (awake09 _ (HJ.out _ HB7.out)).mono ?_
        rintro e w8 ⟨rfl, hb8⟩
        have HB8 := Lib.hid (HB7.out.trans (hb8.mono HB7.out.size))
        clear hb8
        go_wp2
        go_ret
        exact ⟨rfl, HB8.out⟩
    · have hz := HDOK.out.2 her
      rw [hz] at hl3
      obtain rfl : m3 = 0 := hl3.symm
      have hne : (er != 0) = true := by simp [her]
      clear her hz hl3
      go_wp2_with fail
      refine (awake09 _ (HJ.out _ HB3.out)).mono ?_
      rintro e w5 ⟨rfl, hb5⟩
      have HB5 := Lib.hid (HB3.out.trans (hb5.mono HB3.out.size))
      clear hb5
      go_wp2
      go_ret
      exact ⟨rfl, HB5.out⟩

namespace simpleApart
open Go.ChangeShapes Go.WideShapes Go.ChangeAt Go.RowKit Go.Cor
set_option linter.unusedVariables false

set_option maxRecDepth 100000 in
theorem lifted (os : Os) (started : os.Started) (H : Type) (enc : TypeId × Value → H) :
    ReturnsInHanded {} Tryd.checked os 6 .any (fun w args => (Rows.simpleApartSpec.pre enc Tryd.prog Tryd.f6 [] false w args ∧ laidMetH Tryd.prog laidS w) ∧ sizedMet enc Tryd.prog Tryd.f6 (OpenSpec.ofChange Rows.simpleApartSpec) false w args) (Rows.simpleApartSpec.post enc Tryd.prog Tryd.f6 false true false false) := by
  refine returnsInHanded_of_change_and (C := Tryd.checked) (X := fun w _ => laidMetH Tryd.prog laidS w) (fun _ _ _ hh h => h.of_heap hh) (by kernel_rfl : ownKnob Tryd.prog.godebug = none) started (by kernel_rfl) Tryd.func6
    (ChangeSpec.witness_shaped (enc := enc) (C := Tryd.checked) (os := os) (X := fun w _ => laidMetH Tryd.prog laidS w) false (World.doorLaid Tryd.prog 400 os) #[.slice none 0 0, .slice none 0 0, .slice none 0 0] 8 rfl (World.shaped_of_RefB (by kernel_rfl) (by kernel_rfl)) (by kernel_rfl) (by kernel_rfl) (by kernel_rfl) (door_met os _)) ?_
  intro W base args ds gs before hval0 hW hcnd _ hL _
  have hj := of_laid hL
  have hval : ∀ (j : Nat) t v, Tryd.f6.params[j]? = some t → args[j]? = some v → Value.okWide Tryd.prog W .any base t v := hval0
  have hW' := hW
  obtain ⟨p, q, hA0, hV, rfl, hfz, hnd⟩ := hW
  have hA : DataW.TrodAll enc Tryd.prog W 0 (fun _ => true) true Tryd.f6.params.toList args.toList ds p := hA0
  rw [Tryd.params6] at hA hval
  obtain ⟨v0, vs0, d0, ds0, p0, q0, hargs, rfl, rfl, h0, r0⟩ := trodAll_cons hA
  obtain ⟨v1, vs1, d1, ds1, p1, q1, rfl, rfl, rfl, h1, r1⟩ := trodAll_cons r0
  obtain ⟨v2, vs2, d2, ds2, p2, q2, rfl, rfl, rfl, h2, r2⟩ := trodAll_cons r1
  obtain ⟨rfl, rfl, rfl⟩ := trodAll_nil r2
  obtain rfl : args = #[v0, v1, v2] := by cases args; simp_all
  obtain ⟨rfl, rfl⟩ := trodVars_none hV
  obtain ⟨a0, len0, cap0, rfl⟩ := okWide_slice Tryd.underlying22 (hval 0 22 v0 rfl rfl)
  have k0 := h0
  have lt0 : ∀ x ∈ p0, x.block < W.heap.size := by obtain ⟨m, hm⟩ := k0; exact DataW.trod_lt m _ _ _ hm
  obtain ⟨x0, g0, b0⟩ : ∃ xs, Rd W .i64 a0 len0 cap0 xs ∧ In .i64 xs := by
    obtain ⟨fuel, hf⟩ := h0
    rcases open_ints Tryd.underlying22 Tryd.underlying2 (by kernel_rfl) hf with ⟨hcs, _⟩ | ⟨x, l, c, zs, hcs, _, hl, hm, hz, _, hcell, hwz⟩
    · simp [Value.cells] at hcs
      obtain ⟨rfl, rfl, rfl⟩ := hcs
      exact ⟨[], Rd.nilv _ _, fun _ h => by cases h⟩
    · simp [Value.cells] at hcs
      obtain ⟨rfl, rfl, rfl⟩ := hcs
      exact Rd.of_row hl hm hz hcell hwz
  obtain ⟨a1, len1, cap1, rfl⟩ := okWide_slice Tryd.underlying22 (hval 1 22 v1 rfl rfl)
  have k1 := h1
  have lt1 : ∀ x ∈ p1, x.block < W.heap.size := by obtain ⟨m, hm⟩ := k1; exact DataW.trod_lt m _ _ _ hm
  obtain ⟨x1, g1, b1⟩ : ∃ xs, Rd W .i64 a1 len1 cap1 xs ∧ In .i64 xs := by
    obtain ⟨fuel, hf⟩ := h1
    rcases open_ints Tryd.underlying22 Tryd.underlying2 (by kernel_rfl) hf with ⟨hcs, _⟩ | ⟨x, l, c, zs, hcs, _, hl, hm, hz, _, hcell, hwz⟩
    · simp [Value.cells] at hcs
      obtain ⟨rfl, rfl, rfl⟩ := hcs
      exact ⟨[], Rd.nilv _ _, fun _ h => by cases h⟩
    · simp [Value.cells] at hcs
      obtain ⟨rfl, rfl, rfl⟩ := hcs
      exact Rd.of_row hl hm hz hcell hwz
  obtain ⟨a2, len2, cap2, rfl⟩ := okWide_slice Tryd.underlying30 (hval 2 30 v2 rfl rfl)
  have k2 := h2
  have lt2 : ∀ x ∈ p2, x.block < W.heap.size := by obtain ⟨m, hm⟩ := k2; exact DataW.trod_lt m _ _ _ hm
  obtain ⟨x2, g2, b2⟩ : ∃ xs, Rd W .u8 a2 len2 cap2 xs ∧ In .u8 xs := by
    obtain ⟨fuel, hf⟩ := h2
    rcases open_ints Tryd.underlying30 Tryd.underlying5 (by kernel_rfl) hf with ⟨hcs, _⟩ | ⟨x, l, c, zs, hcs, _, hl, hm, hz, _, hcell, hwz⟩
    · simp [Value.cells] at hcs
      obtain ⟨rfl, rfl, rfl⟩ := hcs
      exact ⟨[], Rd.nilv _ _, fun _ h => by cases h⟩
    · simp [Value.cells] at hcs
      obtain ⟨rfl, rfl, rfl⟩ := hcs
      exact Rd.of_row hl hm hz hcell hwz
  clear hA0 hval0
  refine (SimpleApart_walk W hj a0 len0 cap0 x0 g0 b0 a1 len1 cap1 x1 g1 b1 a2 len2 cap2 x2 g2 b2).mono fun e W' ⟨he, bel⟩ => ?_
  subst he
  exact ⟨_, rfl, _, _, _, [], _, [], hW', trodAll_mk1 (shut_bool Tryd.underlying4 _), (trodAll_cons_mk (Below.trod (by kernel_rfl : laidOutB Tryd.prog = true) (by kernel_rfl) (of_decide_eq_true (by kernel_rfl)) k0 bel lt0) (trodAll_cons_mk (Below.trod (by kernel_rfl : laidOutB Tryd.prog = true) (by kernel_rfl) (of_decide_eq_true (by kernel_rfl)) k1 bel lt1) (trodAll_cons_mk (Below.trod (by kernel_rfl : laidOutB Tryd.prog = true) (by kernel_rfl) (of_decide_eq_true (by kernel_rfl)) k2 bel lt2) trodAll_mk0))), rfl, bel.frame _, fun h => by cases h⟩

theorem proved : Rows.SimpleApartSaid :=
  OpenClaim.holds_of_wide 6 Tryd.f6 rfl rfl rfl rfl rfl rfl rfl ⟨rfl, rfl, rfl, rfl, rfl⟩ rfl rfl rfl rfl rfl (by kernel_rfl) Tryd.func6 (by kernel_rfl)
    (of_decide_eq_true (by kernel_rfl)) (by unfold Func.isWrapper; first | (rw [if_pos (by decide +kernel)]; kernel_rfl) | (rw [if_neg (by decide +kernel)]; exact ⟨rfl, rfl⟩))
    (fun os started H enc _ => lifted os started H enc)
theorem card_proved : Rows.SimpleApartCardSaid :=
  Claim7.holds_tied_plain_at .later [] [.data] true (true, "6933165eb7f8d73dc3c6c10d1f49503a8c38ba8ec1b11c202a4084b20d70737c") true
    proved (fun _ h => by cases h) (by kernel_rfl) (fun _ h => by cases h) simpleApart_row_tie rfl ⟨rfl, rfl⟩ (by kernel_rfl) rfl
    (fun f fn hf hfn => by
      obtain rfl : f = 6 := Option.some.inj ((show Tryd.prog.funcNamed "corduroy/corduroylaw09.SimpleApart" = some 6 by kernel_rfl).symm.trans hf) |>.symm
      obtain rfl : fn = Tryd.f6 := (Option.some.inj (Tryd.func6.symm.trans hfn)).symm
      exact ⟨by kernel_rfl, fun j t ht => by
        rw [Tryd.params6] at ht
        have hm : t ∈ [22, 22, 30] := by simpa using Array.mem_of_getElem? ht
        have hall : ([22, 22, 30].all fun u => !Tryd.prog.wantsStandIn u) = true := by kernel_rfl
        exact (show Tryd.prog.wantsStandIn t = false by simpa using List.all_eq_true.1 hall t hm)⟩)
    (by kernel_rfl)
#print axioms card_proved
end simpleApart
end Go.Proofs.YtaohdbagcfgoeaaDoor
