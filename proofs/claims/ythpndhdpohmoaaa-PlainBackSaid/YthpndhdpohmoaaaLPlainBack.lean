/-
  PlainBack: for every input the law returns true; the arguments read behind the call as they read before. No condition.
-/
import Derived.Test.YthpndhdpohmoaaaPlainM
import Derived.Test.YthpndhdpohmoaaaPlainT
import Derived.ChangeOld
namespace Go.Proofs.Ythpndhdpohmoaaa
open Go.RowKit Go.Cor Go.Free

theorem plainBack_tail (W w : World) (A : Option Addr) (n c : Nat) (xs : List Int) (hb : Below W.heap.size W w) (h : Rd W .i64 A n c xs) (hi : In .i64 xs) (hn : n ≤ 300) :
    Calls Try.prog 55 #[.iface 37 (.agg #[]), .slice A n c] w fun e w' => e = .returned (.bool true) ∧ Below W.heap.size W w' :=
  (backG plainE plainS plainD A n c xs w (h.below hb) hi (by omega) (fun ht => plainBacks xs (fun x hx => hi x hx) (by rw [tak_all] at ht; exact ht))).mono fun _ _ ⟨h1, h2⟩ => ⟨h1, hb.trans (h2.mono hb.size)⟩

set_option maxRecDepth 100000 in
set_option maxHeartbeats 4000000 in
theorem PlainBack_walk (W : World) (A : Option Addr) (n c : Nat) (xs : List Int) (h : Rd W .i64 A n c xs) (hi : In .i64 xs) (B : Option Addr) (m d : Nat) (ys : List Int) (h' : Rd W .i64 B m d ys) (hi' : In .i64 ys) :
    Calls Try.prog 12 #[.slice A n c, .slice B m d] W fun e w' => e = .returned (.bool true) ∧ Below W.heap.size W w' := by
  by_cases hn : 300 < n
  · clear h hi h' hi'
    go_enter Try.func12, Try.ntmps12
    go_wp2
    go_ret
    exact ⟨rfl, Below.refl _ _⟩
  by_cases hm : 300 < m
  · clear h hi h' hi'
    go_enter Try.func12, Try.ntmps12
    go_wp2
    go_ret
    exact ⟨rfl, Below.refl _ _⟩
  have H := Lib.hid h
  have H' := Lib.hid h'
  have HI := Lib.hid hi
  have HI' := Lib.hid hi'
  have hx : ∀ x ∈ xs, -9223372036854775808 ≤ x ∧ x ≤ 9223372036854775807 := fun x hx => hi x hx
  have hy : ∀ x ∈ ys, -9223372036854775808 ≤ x ∧ x ≤ 9223372036854775807 := fun x hx => hi' x hx
  have hstr : ((strOfNums (pform xs)).toList == (strOfNums (pform ys)).toList) = decide (xs = ys) := by
    rw [str_beq (pform_bytes xs) (pform_bytes ys), Bool.eq_iff_iff]
    simp only [decide_eq_true_eq]
    exact ⟨fun e => pform_inj hx hy e, fun e => by rw [e]⟩
  have HS := Lib.hid hstr
  have hE := encode_any A n c xs W h
  have hE' := fun w h => encode_any B m d ys w h
  unfold EncRow at hE hE'
  obtain ⟨qa, ha⟩ : ∃ q, blk n = q := ⟨_, rfl⟩
  obtain ⟨qb, hb⟩ : ∃ q, blk m = q := ⟨_, rfl⟩
  rw [ha] at hE
  rw [hb] at hE'
  have HE := Lib.hid hE
  have HE' := Lib.hid hE'
  clear h hi h' hi' hx hy hstr hE hE' ha hb
  cases qa with
  | false =>
    cases qb with
    | false =>
      go_enter Try.func12, Try.ntmps12
      go_wp2_with fail
      refine HE.out.mono ?_
      rintro e w1 ⟨A1, m1, c1, rfl, ho1, hb1⟩
      simp only [Bool.false_eq_true, if_false] at ho1
      have HO1 := Lib.hid (Rd.own ho1)
      have HB1 := Lib.hid hb1
      clear ho1 hb1
      go_wp2_with fail
      refine (HE'.out w1 (H'.out.below HB1.out)).mono ?_
      rintro e w2 ⟨A2, m2, c2, rfl, ho2, hb2⟩
      simp only [Bool.false_eq_true, if_false] at ho2
      have HO2 := Lib.hid (Rd.own ho2)
      have HO1' := Lib.hid (HO1.out.below hb2)
      have HB2 := Lib.hid (HB1.out.trans (hb2.mono HB1.out.size))
      clear ho2 hb2
      go_wp2_with fail
      refine wp_region_free 17 (by kernel_rfl) (by kernel_rfl) ?_
      refine chain_val (.int .i64 7) (S := [6]) rfl ?_ ?_
      · intro ρ w' hE hB hs
        have h6 : ρ (.tmp 6) = .int .i64 7 := hs 6 (by decide)
        clear hs
        refine if_t (by rfl) ?_
        (go_simp <;> exact wrapi64_in _ (by omega) (by omega))
      refine chain_val (.bool false) (S := [29]) rfl ?_ ?_
      · intro ρ w' hE hB hs
        have h29 : ρ (.tmp 29) = .int .i64 7 := hs 29 (by decide)
        clear hs
        have hc := hE.const
        refine if_t (by rfl) ?_
        go_simp
      refine chain_val (.bool false) (S := [30]) rfl ?_ ?_
      · intro ρ w' hE hB hs
        have h30 : ρ (.tmp 30) = .bool false := hs 30 (by decide)
        clear hs
        refine if_t (by rfl) ?_
        (go_simp <;> exact wrapi64_in _ (by omega) (by omega))
      refine chain_val undef (S := [8, 31]) rfl ?_ ?_
      · intro ρ w' hE hB hs
        have h8 : ρ (.tmp 8) = .int .i64 7 := hs 8 (by decide)
        have h31 : ρ (.tmp 31) = .bool false := hs 31 (by decide)
        clear hs
        exact if_f (by simp [Region.wanted, yieldedR, h31]) rfl
      refine chain_val undef (S := [32, 31]) rfl ?_ ?_
      · intro ρ w' hE hB hs
        have h31 : ρ (.tmp 31) = .bool false := hs 31 (by decide)
        have h32 : ρ (.tmp 32) = undef := hs 32 (by decide)
        clear hs
        have hc := hE.const
        exact if_f (by simp [Region.wanted, yieldedR, h31]) rfl
      refine chain_val (.bool false) (S := [31, 33]) rfl ?_ ?_
      · intro ρ w' hE hB hs
        have h31 : ρ (.tmp 31) = .bool false := hs 31 (by decide)
        have h33 : ρ (.tmp 33) = undef := hs 33 (by decide)
        clear hs
        have hc := hE.const
        refine if_t (by rfl) ?_
        (go_simp <;> exact wrapi64_in _ (by omega) (by omega))
      refine chain_val (.bool false) (S := [34]) rfl ?_ ?_
      · intro ρ w' hE hB hs
        have h34 : ρ (.tmp 34) = .bool false := hs 34 (by decide)
        clear hs
        refine if_t (by rfl) ?_
        (go_simp <;> exact wrapi64_in _ (by omega) (by omega))
      refine chain_val undef (S := [5, 35]) rfl ?_ ?_
      · intro ρ w' hE hB hs
        have h5 : ρ (.tmp 5) = .slice A1 m1 c1 := hs 5 (by decide)
        have h35 : ρ (.tmp 35) = .bool false := hs 35 (by decide)
        clear hs
        exact if_f (by simp [Region.wanted, yieldedR, h35]) rfl
      refine chain_val undef (S := [36, 35]) rfl ?_ ?_
      · intro ρ w' hE hB hs
        have h35 : ρ (.tmp 35) = .bool false := hs 35 (by decide)
        have h36 : ρ (.tmp 36) = undef := hs 36 (by decide)
        clear hs
        exact if_f (by simp [Region.wanted, yieldedR, h35]) rfl
      refine chain_val undef (S := [7, 35]) rfl ?_ ?_
      · intro ρ w' hE hB hs
        have h7 : ρ (.tmp 7) = .slice A2 m2 c2 := hs 7 (by decide)
        have h35 : ρ (.tmp 35) = .bool false := hs 35 (by decide)
        clear hs
        exact if_f (by simp [Region.wanted, yieldedR, h35]) rfl
      refine chain_val undef (S := [38, 35]) rfl ?_ ?_
      · intro ρ w' hE hB hs
        have h35 : ρ (.tmp 35) = .bool false := hs 35 (by decide)
        have h38 : ρ (.tmp 38) = undef := hs 38 (by decide)
        clear hs
        exact if_f (by simp [Region.wanted, yieldedR, h35]) rfl
      refine chain_val undef (S := [37, 39, 35]) rfl ?_ ?_
      · intro ρ w' hE hB hs
        have h35 : ρ (.tmp 35) = .bool false := hs 35 (by decide)
        have h37 : ρ (.tmp 37) = undef := hs 37 (by decide)
        have h39 : ρ (.tmp 39) = undef := hs 39 (by decide)
        clear hs
        exact if_f (by simp [Region.wanted, yieldedR, h35]) rfl
      refine chain_val undef (S := [0, 35]) rfl ?_ ?_
      · intro ρ w' hE hB hs
        have h0 : ρ (.tmp 0) = .slice A n c := hs 0 (by decide)
        have h35 : ρ (.tmp 35) = .bool false := hs 35 (by decide)
        clear hs
        exact if_f (by simp [Region.wanted, yieldedR, h35]) rfl
      refine chain_val undef (S := [1, 35]) rfl ?_ ?_
      · intro ρ w' hE hB hs
        have h1 : ρ (.tmp 1) = .slice B m d := hs 1 (by decide)
        have h35 : ρ (.tmp 35) = .bool false := hs 35 (by decide)
        clear hs
        exact if_f (by simp [Region.wanted, yieldedR, h35]) rfl
      refine chain_val undef (S := [41, 42, 35]) rfl ?_ ?_
      · intro ρ w' hE hB hs
        have h35 : ρ (.tmp 35) = .bool false := hs 35 (by decide)
        have h41 : ρ (.tmp 41) = undef := hs 41 (by decide)
        have h42 : ρ (.tmp 42) = undef := hs 42 (by decide)
        clear hs
        exact if_f (by simp [Region.wanted, yieldedR, h35]) rfl
      refine chain_val undef (S := [40, 43, 35]) rfl ?_ ?_
      · intro ρ w' hE hB hs
        have h35 : ρ (.tmp 35) = .bool false := hs 35 (by decide)
        have h40 : ρ (.tmp 40) = undef := hs 40 (by decide)
        have h43 : ρ (.tmp 43) = undef := hs 43 (by decide)
        clear hs
        exact if_f (by simp [Region.wanted, yieldedR, h35]) rfl
      refine chain_val (.bool false) (S := [35, 44]) rfl ?_ ?_
      · intro ρ w' hE hB hs
        have h35 : ρ (.tmp 35) = .bool false := hs 35 (by decide)
        have h44 : ρ (.tmp 44) = undef := hs 44 (by decide)
        clear hs
        have hc := hE.const
        refine if_t (by rfl) ?_
        (go_simp <;> exact wrapi64_in _ (by omega) (by omega))
      intro w1 hB1
      simp only [List.reverse_cons, List.reverse_nil, List.nil_append, List.cons_append, Go.Free.Ends, forall_eq, Act.put, List.setIfInBounds_toArray, List.set_cons_zero, List.set_cons_succ]
      have HB3 := Lib.hid (HB2.out.trans (hB1.mono HB2.out.size))
      clear hB1
      go_wp2_with fail
      refine (plainBack_tail W _ A n c xs HB3.out H.out HI.out (by omega)).mono ?_
      rintro e w4 ⟨rfl, hb4⟩
      have HB4 := Lib.hid hb4
      clear hb4
      go_wp2_with fail
      refine (awake07 _).mono ?_
      rintro e w5 ⟨rfl, hb5⟩
      have HB5 := Lib.hid (HB4.out.trans (hb5.mono HB4.out.size))
      clear hb5
      go_wp2
      go_ret
      exact ⟨rfl, HB5.out⟩
    | true =>
      go_enter Try.func12, Try.ntmps12
      go_wp2_with fail
      refine HE.out.mono ?_
      rintro e w1 ⟨A1, m1, c1, rfl, ho1, hb1⟩
      simp only [Bool.false_eq_true, if_false] at ho1
      have HO1 := Lib.hid (Rd.own ho1)
      have HB1 := Lib.hid hb1
      clear ho1 hb1
      go_wp2_with fail
      refine (HE'.out w1 (H'.out.below HB1.out)).mono ?_
      rintro e w2 ⟨A2, m2, c2, rfl, ho2, hb2⟩
      simp only [if_true] at ho2
      have HO2 := Lib.hid (Rd.own ho2)
      have HO1' := Lib.hid (HO1.out.below hb2)
      have HB2 := Lib.hid (HB1.out.trans (hb2.mono HB1.out.size))
      clear ho2 hb2
      go_wp2_with fail
      refine wp_region_free 17 (by kernel_rfl) (by kernel_rfl) ?_
      refine chain_val (.int .i64 7) (S := [6]) rfl ?_ ?_
      · intro ρ w' hE hB hs
        have h6 : ρ (.tmp 6) = .int .i64 7 := hs 6 (by decide)
        clear hs
        refine if_t (by rfl) ?_
        (go_simp <;> exact wrapi64_in _ (by omega) (by omega))
      refine chain_val (.bool false) (S := [29]) rfl ?_ ?_
      · intro ρ w' hE hB hs
        have h29 : ρ (.tmp 29) = .int .i64 7 := hs 29 (by decide)
        clear hs
        have hc := hE.const
        refine if_t (by rfl) ?_
        go_simp
      refine chain_val (.bool false) (S := [30]) rfl ?_ ?_
      · intro ρ w' hE hB hs
        have h30 : ρ (.tmp 30) = .bool false := hs 30 (by decide)
        clear hs
        refine if_t (by rfl) ?_
        (go_simp <;> exact wrapi64_in _ (by omega) (by omega))
      refine chain_val undef (S := [8, 31]) rfl ?_ ?_
      · intro ρ w' hE hB hs
        have h8 : ρ (.tmp 8) = .int .i64 0 := hs 8 (by decide)
        have h31 : ρ (.tmp 31) = .bool false := hs 31 (by decide)
        clear hs
        exact if_f (by simp [Region.wanted, yieldedR, h31]) rfl
      refine chain_val undef (S := [32, 31]) rfl ?_ ?_
      · intro ρ w' hE hB hs
        have h31 : ρ (.tmp 31) = .bool false := hs 31 (by decide)
        have h32 : ρ (.tmp 32) = undef := hs 32 (by decide)
        clear hs
        have hc := hE.const
        exact if_f (by simp [Region.wanted, yieldedR, h31]) rfl
      refine chain_val (.bool false) (S := [31, 33]) rfl ?_ ?_
      · intro ρ w' hE hB hs
        have h31 : ρ (.tmp 31) = .bool false := hs 31 (by decide)
        have h33 : ρ (.tmp 33) = undef := hs 33 (by decide)
        clear hs
        have hc := hE.const
        refine if_t (by rfl) ?_
        (go_simp <;> exact wrapi64_in _ (by omega) (by omega))
      refine chain_val (.bool false) (S := [34]) rfl ?_ ?_
      · intro ρ w' hE hB hs
        have h34 : ρ (.tmp 34) = .bool false := hs 34 (by decide)
        clear hs
        refine if_t (by rfl) ?_
        (go_simp <;> exact wrapi64_in _ (by omega) (by omega))
      refine chain_val undef (S := [5, 35]) rfl ?_ ?_
      · intro ρ w' hE hB hs
        have h5 : ρ (.tmp 5) = .slice A1 m1 c1 := hs 5 (by decide)
        have h35 : ρ (.tmp 35) = .bool false := hs 35 (by decide)
        clear hs
        exact if_f (by simp [Region.wanted, yieldedR, h35]) rfl
      refine chain_val undef (S := [36, 35]) rfl ?_ ?_
      · intro ρ w' hE hB hs
        have h35 : ρ (.tmp 35) = .bool false := hs 35 (by decide)
        have h36 : ρ (.tmp 36) = undef := hs 36 (by decide)
        clear hs
        exact if_f (by simp [Region.wanted, yieldedR, h35]) rfl
      refine chain_val undef (S := [7, 35]) rfl ?_ ?_
      · intro ρ w' hE hB hs
        have h7 : ρ (.tmp 7) = .slice A2 m2 c2 := hs 7 (by decide)
        have h35 : ρ (.tmp 35) = .bool false := hs 35 (by decide)
        clear hs
        exact if_f (by simp [Region.wanted, yieldedR, h35]) rfl
      refine chain_val undef (S := [38, 35]) rfl ?_ ?_
      · intro ρ w' hE hB hs
        have h35 : ρ (.tmp 35) = .bool false := hs 35 (by decide)
        have h38 : ρ (.tmp 38) = undef := hs 38 (by decide)
        clear hs
        exact if_f (by simp [Region.wanted, yieldedR, h35]) rfl
      refine chain_val undef (S := [37, 39, 35]) rfl ?_ ?_
      · intro ρ w' hE hB hs
        have h35 : ρ (.tmp 35) = .bool false := hs 35 (by decide)
        have h37 : ρ (.tmp 37) = undef := hs 37 (by decide)
        have h39 : ρ (.tmp 39) = undef := hs 39 (by decide)
        clear hs
        exact if_f (by simp [Region.wanted, yieldedR, h35]) rfl
      refine chain_val undef (S := [0, 35]) rfl ?_ ?_
      · intro ρ w' hE hB hs
        have h0 : ρ (.tmp 0) = .slice A n c := hs 0 (by decide)
        have h35 : ρ (.tmp 35) = .bool false := hs 35 (by decide)
        clear hs
        exact if_f (by simp [Region.wanted, yieldedR, h35]) rfl
      refine chain_val undef (S := [1, 35]) rfl ?_ ?_
      · intro ρ w' hE hB hs
        have h1 : ρ (.tmp 1) = .slice B m d := hs 1 (by decide)
        have h35 : ρ (.tmp 35) = .bool false := hs 35 (by decide)
        clear hs
        exact if_f (by simp [Region.wanted, yieldedR, h35]) rfl
      refine chain_val undef (S := [41, 42, 35]) rfl ?_ ?_
      · intro ρ w' hE hB hs
        have h35 : ρ (.tmp 35) = .bool false := hs 35 (by decide)
        have h41 : ρ (.tmp 41) = undef := hs 41 (by decide)
        have h42 : ρ (.tmp 42) = undef := hs 42 (by decide)
        clear hs
        exact if_f (by simp [Region.wanted, yieldedR, h35]) rfl
      refine chain_val undef (S := [40, 43, 35]) rfl ?_ ?_
      · intro ρ w' hE hB hs
        have h35 : ρ (.tmp 35) = .bool false := hs 35 (by decide)
        have h40 : ρ (.tmp 40) = undef := hs 40 (by decide)
        have h43 : ρ (.tmp 43) = undef := hs 43 (by decide)
        clear hs
        exact if_f (by simp [Region.wanted, yieldedR, h35]) rfl
      refine chain_val (.bool false) (S := [35, 44]) rfl ?_ ?_
      · intro ρ w' hE hB hs
        have h35 : ρ (.tmp 35) = .bool false := hs 35 (by decide)
        have h44 : ρ (.tmp 44) = undef := hs 44 (by decide)
        clear hs
        have hc := hE.const
        refine if_t (by rfl) ?_
        (go_simp <;> exact wrapi64_in _ (by omega) (by omega))
      intro w1 hB1
      simp only [List.reverse_cons, List.reverse_nil, List.nil_append, List.cons_append, Go.Free.Ends, forall_eq, Act.put, List.setIfInBounds_toArray, List.set_cons_zero, List.set_cons_succ]
      have HB3 := Lib.hid (HB2.out.trans (hB1.mono HB2.out.size))
      clear hB1
      go_wp2_with fail
      refine (plainBack_tail W _ A n c xs HB3.out H.out HI.out (by omega)).mono ?_
      rintro e w4 ⟨rfl, hb4⟩
      have HB4 := Lib.hid hb4
      clear hb4
      go_wp2_with fail
      refine (awake07 _).mono ?_
      rintro e w5 ⟨rfl, hb5⟩
      have HB5 := Lib.hid (HB4.out.trans (hb5.mono HB4.out.size))
      clear hb5
      go_wp2
      go_ret
      exact ⟨rfl, HB5.out⟩
  | true =>
    cases qb with
    | false =>
      go_enter Try.func12, Try.ntmps12
      go_wp2_with fail
      refine HE.out.mono ?_
      rintro e w1 ⟨A1, m1, c1, rfl, ho1, hb1⟩
      simp only [if_true] at ho1
      have HO1 := Lib.hid (Rd.own ho1)
      have HB1 := Lib.hid hb1
      clear ho1 hb1
      go_wp2_with fail
      refine (HE'.out w1 (H'.out.below HB1.out)).mono ?_
      rintro e w2 ⟨A2, m2, c2, rfl, ho2, hb2⟩
      simp only [Bool.false_eq_true, if_false] at ho2
      have HO2 := Lib.hid (Rd.own ho2)
      have HO1' := Lib.hid (HO1.out.below hb2)
      have HB2 := Lib.hid (HB1.out.trans (hb2.mono HB1.out.size))
      clear ho2 hb2
      go_wp2_with fail
      refine wp_region_free 17 (by kernel_rfl) (by kernel_rfl) ?_
      refine chain_val (.int .i64 0) (S := [6]) rfl ?_ ?_
      · intro ρ w' hE hB hs
        have h6 : ρ (.tmp 6) = .int .i64 0 := hs 6 (by decide)
        clear hs
        refine if_t (by rfl) ?_
        (go_simp <;> exact wrapi64_in _ (by omega) (by omega))
      refine chain_val (.bool true) (S := [29]) rfl ?_ ?_
      · intro ρ w' hE hB hs
        have h29 : ρ (.tmp 29) = .int .i64 0 := hs 29 (by decide)
        clear hs
        have hc := hE.const
        refine if_t (by rfl) ?_
        go_simp
      refine chain_val (.bool true) (S := [30]) rfl ?_ ?_
      · intro ρ w' hE hB hs
        have h30 : ρ (.tmp 30) = .bool true := hs 30 (by decide)
        clear hs
        refine if_t (by rfl) ?_
        (go_simp <;> exact wrapi64_in _ (by omega) (by omega))
      refine chain_val (.int .i64 7) (S := [8, 31]) rfl ?_ ?_
      · intro ρ w' hE hB hs
        have h8 : ρ (.tmp 8) = .int .i64 7 := hs 8 (by decide)
        have h31 : ρ (.tmp 31) = .bool true := hs 31 (by decide)
        clear hs
        refine if_t (by simp [Region.wanted, yieldedR, h31]) ?_
        (go_simp <;> exact wrapi64_in _ (by omega) (by omega))
      refine chain_val (.bool false) (S := [32, 31]) rfl ?_ ?_
      · intro ρ w' hE hB hs
        have h31 : ρ (.tmp 31) = .bool true := hs 31 (by decide)
        have h32 : ρ (.tmp 32) = .int .i64 7 := hs 32 (by decide)
        clear hs
        have hc := hE.const
        refine if_t (by simp [Region.wanted, yieldedR, h31]) ?_
        go_simp
      refine chain_val (.bool false) (S := [31, 33]) rfl ?_ ?_
      · intro ρ w' hE hB hs
        have h31 : ρ (.tmp 31) = .bool true := hs 31 (by decide)
        have h33 : ρ (.tmp 33) = .bool false := hs 33 (by decide)
        clear hs
        have hc := hE.const
        refine if_t (by rfl) ?_
        (go_simp <;> exact wrapi64_in _ (by omega) (by omega))
      refine chain_val (.bool false) (S := [34]) rfl ?_ ?_
      · intro ρ w' hE hB hs
        have h34 : ρ (.tmp 34) = .bool false := hs 34 (by decide)
        clear hs
        refine if_t (by rfl) ?_
        (go_simp <;> exact wrapi64_in _ (by omega) (by omega))
      refine chain_val undef (S := [5, 35]) rfl ?_ ?_
      · intro ρ w' hE hB hs
        have h5 : ρ (.tmp 5) = .slice A1 m1 c1 := hs 5 (by decide)
        have h35 : ρ (.tmp 35) = .bool false := hs 35 (by decide)
        clear hs
        exact if_f (by simp [Region.wanted, yieldedR, h35]) rfl
      refine chain_val undef (S := [36, 35]) rfl ?_ ?_
      · intro ρ w' hE hB hs
        have h35 : ρ (.tmp 35) = .bool false := hs 35 (by decide)
        have h36 : ρ (.tmp 36) = undef := hs 36 (by decide)
        clear hs
        exact if_f (by simp [Region.wanted, yieldedR, h35]) rfl
      refine chain_val undef (S := [7, 35]) rfl ?_ ?_
      · intro ρ w' hE hB hs
        have h7 : ρ (.tmp 7) = .slice A2 m2 c2 := hs 7 (by decide)
        have h35 : ρ (.tmp 35) = .bool false := hs 35 (by decide)
        clear hs
        exact if_f (by simp [Region.wanted, yieldedR, h35]) rfl
      refine chain_val undef (S := [38, 35]) rfl ?_ ?_
      · intro ρ w' hE hB hs
        have h35 : ρ (.tmp 35) = .bool false := hs 35 (by decide)
        have h38 : ρ (.tmp 38) = undef := hs 38 (by decide)
        clear hs
        exact if_f (by simp [Region.wanted, yieldedR, h35]) rfl
      refine chain_val undef (S := [37, 39, 35]) rfl ?_ ?_
      · intro ρ w' hE hB hs
        have h35 : ρ (.tmp 35) = .bool false := hs 35 (by decide)
        have h37 : ρ (.tmp 37) = undef := hs 37 (by decide)
        have h39 : ρ (.tmp 39) = undef := hs 39 (by decide)
        clear hs
        exact if_f (by simp [Region.wanted, yieldedR, h35]) rfl
      refine chain_val undef (S := [0, 35]) rfl ?_ ?_
      · intro ρ w' hE hB hs
        have h0 : ρ (.tmp 0) = .slice A n c := hs 0 (by decide)
        have h35 : ρ (.tmp 35) = .bool false := hs 35 (by decide)
        clear hs
        exact if_f (by simp [Region.wanted, yieldedR, h35]) rfl
      refine chain_val undef (S := [1, 35]) rfl ?_ ?_
      · intro ρ w' hE hB hs
        have h1 : ρ (.tmp 1) = .slice B m d := hs 1 (by decide)
        have h35 : ρ (.tmp 35) = .bool false := hs 35 (by decide)
        clear hs
        exact if_f (by simp [Region.wanted, yieldedR, h35]) rfl
      refine chain_val undef (S := [41, 42, 35]) rfl ?_ ?_
      · intro ρ w' hE hB hs
        have h35 : ρ (.tmp 35) = .bool false := hs 35 (by decide)
        have h41 : ρ (.tmp 41) = undef := hs 41 (by decide)
        have h42 : ρ (.tmp 42) = undef := hs 42 (by decide)
        clear hs
        exact if_f (by simp [Region.wanted, yieldedR, h35]) rfl
      refine chain_val undef (S := [40, 43, 35]) rfl ?_ ?_
      · intro ρ w' hE hB hs
        have h35 : ρ (.tmp 35) = .bool false := hs 35 (by decide)
        have h40 : ρ (.tmp 40) = undef := hs 40 (by decide)
        have h43 : ρ (.tmp 43) = undef := hs 43 (by decide)
        clear hs
        exact if_f (by simp [Region.wanted, yieldedR, h35]) rfl
      refine chain_val (.bool false) (S := [35, 44]) rfl ?_ ?_
      · intro ρ w' hE hB hs
        have h35 : ρ (.tmp 35) = .bool false := hs 35 (by decide)
        have h44 : ρ (.tmp 44) = undef := hs 44 (by decide)
        clear hs
        have hc := hE.const
        refine if_t (by rfl) ?_
        (go_simp <;> exact wrapi64_in _ (by omega) (by omega))
      intro w1 hB1
      simp only [List.reverse_cons, List.reverse_nil, List.nil_append, List.cons_append, Go.Free.Ends, forall_eq, Act.put, List.setIfInBounds_toArray, List.set_cons_zero, List.set_cons_succ]
      have HB3 := Lib.hid (HB2.out.trans (hB1.mono HB2.out.size))
      clear hB1
      go_wp2_with fail
      refine (plainBack_tail W _ A n c xs HB3.out H.out HI.out (by omega)).mono ?_
      rintro e w4 ⟨rfl, hb4⟩
      have HB4 := Lib.hid hb4
      clear hb4
      go_wp2_with fail
      refine (awake07 _).mono ?_
      rintro e w5 ⟨rfl, hb5⟩
      have HB5 := Lib.hid (HB4.out.trans (hb5.mono HB4.out.size))
      clear hb5
      go_wp2
      go_ret
      exact ⟨rfl, HB5.out⟩
    | true =>
      go_enter Try.func12, Try.ntmps12
      go_wp2_with fail
      refine HE.out.mono ?_
      rintro e w1 ⟨A1, m1, c1, rfl, ho1, hb1⟩
      simp only [if_true] at ho1
      have HO1 := Lib.hid (Rd.own ho1)
      have HB1 := Lib.hid hb1
      clear ho1 hb1
      go_wp2_with fail
      refine (HE'.out w1 (H'.out.below HB1.out)).mono ?_
      rintro e w2 ⟨A2, m2, c2, rfl, ho2, hb2⟩
      simp only [if_true] at ho2
      have HO2 := Lib.hid (Rd.own ho2)
      have HO1' := Lib.hid (HO1.out.below hb2)
      have HB2 := Lib.hid (HB1.out.trans (hb2.mono HB1.out.size))
      clear ho2 hb2
      go_wp2_with fail
      refine wp_region_free 17 (by kernel_rfl) (by kernel_rfl) ?_
      refine chain_val (.int .i64 0) (S := [6]) rfl ?_ ?_
      · intro ρ w' hE hB hs
        have h6 : ρ (.tmp 6) = .int .i64 0 := hs 6 (by decide)
        clear hs
        refine if_t (by rfl) ?_
        (go_simp <;> exact wrapi64_in _ (by omega) (by omega))
      refine chain_val (.bool true) (S := [29]) rfl ?_ ?_
      · intro ρ w' hE hB hs
        have h29 : ρ (.tmp 29) = .int .i64 0 := hs 29 (by decide)
        clear hs
        have hc := hE.const
        refine if_t (by rfl) ?_
        go_simp
      refine chain_val (.bool true) (S := [30]) rfl ?_ ?_
      · intro ρ w' hE hB hs
        have h30 : ρ (.tmp 30) = .bool true := hs 30 (by decide)
        clear hs
        refine if_t (by rfl) ?_
        (go_simp <;> exact wrapi64_in _ (by omega) (by omega))
      refine chain_val (.int .i64 0) (S := [8, 31]) rfl ?_ ?_
      · intro ρ w' hE hB hs
        have h8 : ρ (.tmp 8) = .int .i64 0 := hs 8 (by decide)
        have h31 : ρ (.tmp 31) = .bool true := hs 31 (by decide)
        clear hs
        refine if_t (by simp [Region.wanted, yieldedR, h31]) ?_
        (go_simp <;> exact wrapi64_in _ (by omega) (by omega))
      refine chain_val (.bool true) (S := [32, 31]) rfl ?_ ?_
      · intro ρ w' hE hB hs
        have h31 : ρ (.tmp 31) = .bool true := hs 31 (by decide)
        have h32 : ρ (.tmp 32) = .int .i64 0 := hs 32 (by decide)
        clear hs
        have hc := hE.const
        refine if_t (by simp [Region.wanted, yieldedR, h31]) ?_
        go_simp
      refine chain_val (.bool true) (S := [31, 33]) rfl ?_ ?_
      · intro ρ w' hE hB hs
        have h31 : ρ (.tmp 31) = .bool true := hs 31 (by decide)
        have h33 : ρ (.tmp 33) = .bool true := hs 33 (by decide)
        clear hs
        have hc := hE.const
        refine if_t (by rfl) ?_
        (go_simp <;> exact wrapi64_in _ (by omega) (by omega))
      refine chain_val (.bool true) (S := [34]) rfl ?_ ?_
      · intro ρ w' hE hB hs
        have h34 : ρ (.tmp 34) = .bool true := hs 34 (by decide)
        clear hs
        refine if_t (by rfl) ?_
        (go_simp <;> exact wrapi64_in _ (by omega) (by omega))
      refine chain_val (.slice A1 m1 c1) (S := [5, 35]) rfl ?_ ?_
      · intro ρ w' hE hB hs
        have h5 : ρ (.tmp 5) = .slice A1 m1 c1 := hs 5 (by decide)
        have h35 : ρ (.tmp 35) = .bool true := hs 35 (by decide)
        clear hs
        refine if_t (by simp [Region.wanted, yieldedR, h35]) ?_
        (go_simp <;> exact wrapi64_in _ (by omega) (by omega))
      refine chain_val (.string (strOfNums (pform xs))) (S := [36, 35]) rfl ?_ ?_
      · intro ρ w' hE hB hs
        have h35 : ρ (.tmp 35) = .bool true := hs 35 (by decide)
        have h36 : ρ (.tmp 36) = .slice A1 m1 c1 := hs 36 (by decide)
        clear hs
        refine if_t (by simp [Region.wanted, yieldedR, h35]) ?_
        have hcv := conv_bytes (HO1'.out.below hB) 38 5 9 Try.underlying38 Try.underlying5 Try.underlying9
        go_simp
      refine chain_val (.slice A2 m2 c2) (S := [7, 35]) rfl ?_ ?_
      · intro ρ w' hE hB hs
        have h7 : ρ (.tmp 7) = .slice A2 m2 c2 := hs 7 (by decide)
        have h35 : ρ (.tmp 35) = .bool true := hs 35 (by decide)
        clear hs
        refine if_t (by simp [Region.wanted, yieldedR, h35]) ?_
        (go_simp <;> exact wrapi64_in _ (by omega) (by omega))
      refine chain_val (.string (strOfNums (pform ys))) (S := [38, 35]) rfl ?_ ?_
      · intro ρ w' hE hB hs
        have h35 : ρ (.tmp 35) = .bool true := hs 35 (by decide)
        have h38 : ρ (.tmp 38) = .slice A2 m2 c2 := hs 38 (by decide)
        clear hs
        refine if_t (by simp [Region.wanted, yieldedR, h35]) ?_
        have hcv := conv_bytes (HO2.out.below hB) 38 5 9 Try.underlying38 Try.underlying5 Try.underlying9
        go_simp
      refine chain_val (.bool (decide (xs = ys))) (S := [37, 39, 35]) rfl ?_ ?_
      · intro ρ w' hE hB hs
        have h35 : ρ (.tmp 35) = .bool true := hs 35 (by decide)
        have h37 : ρ (.tmp 37) = .string (strOfNums (pform xs)) := hs 37 (by decide)
        have h39 : ρ (.tmp 39) = .string (strOfNums (pform ys)) := hs 39 (by decide)
        clear hs
        refine if_t (by simp [Region.wanted, yieldedR, h35]) ?_
        have hst := HS.out
        go_simp
      refine chain_val (.slice A n c) (S := [0, 35]) rfl ?_ ?_
      · intro ρ w' hE hB hs
        have h0 : ρ (.tmp 0) = .slice A n c := hs 0 (by decide)
        have h35 : ρ (.tmp 35) = .bool true := hs 35 (by decide)
        clear hs
        refine if_t (by simp [Region.wanted, yieldedR, h35]) ?_
        (go_simp <;> exact wrapi64_in _ (by omega) (by omega))
      refine chain_val (.slice B m d) (S := [1, 35]) rfl ?_ ?_
      · intro ρ w' hE hB hs
        have h1 : ρ (.tmp 1) = .slice B m d := hs 1 (by decide)
        have h35 : ρ (.tmp 35) = .bool true := hs 35 (by decide)
        clear hs
        refine if_t (by simp [Region.wanted, yieldedR, h35]) ?_
        (go_simp <;> exact wrapi64_in _ (by omega) (by omega))
      refine chain_static (fun v__ _ => v__ = .bool (decide (xs = ys))) (stable_eq _) (S := [41, 42, 35]) rfl (Go.Cor.enters_f Try.func45 (by kernel_rfl) rfl) rfl ?_ ?_
      · intro ρ w' hE hB hs
        have h35 : ρ (.tmp 35) = .bool true := hs 35 (by decide)
        have h41 : ρ (.tmp 41) = .slice A n c := hs 41 (by decide)
        have h42 : ρ (.tmp 42) = .slice B m d := hs 42 (by decide)
        clear hs
        refine ⟨(by simp [Region.wanted, yieldedR, h35]), ?_⟩
        simp only [List.map_toArray, List.map_cons, List.map_nil, h41, h42]
        refine (sameI_any A B n c m d xs ys _ ((H.out.below HB2.out).below hB) ((H'.out.below HB2.out).below hB)).mono ?_
        rintro e w3 ⟨rfl, hb⟩
        exact ⟨_, rfl, hb, rfl⟩
      refine chain_val (.bool false) (S := [40, 43, 35]) rfl ?_ ?_
      · intro ρ w' hE hB hs
        have h35 : ρ (.tmp 35) = .bool true := hs 35 (by decide)
        have h40 : ρ (.tmp 40) = .bool (decide (xs = ys)) := hs 40 (by decide)
        have h43 : ρ (.tmp 43) = .bool (decide (xs = ys)) := hs 43 (by decide)
        clear hs
        refine if_t (by simp [Region.wanted, yieldedR, h35]) ?_
        go_simp
      refine chain_val (.bool false) (S := [35, 44]) rfl ?_ ?_
      · intro ρ w' hE hB hs
        have h35 : ρ (.tmp 35) = .bool true := hs 35 (by decide)
        have h44 : ρ (.tmp 44) = .bool false := hs 44 (by decide)
        clear hs
        have hc := hE.const
        refine if_t (by rfl) ?_
        (go_simp <;> exact wrapi64_in _ (by omega) (by omega))
      intro w1 hB1
      simp only [List.reverse_cons, List.reverse_nil, List.nil_append, List.cons_append, Go.Free.Ends, forall_eq, Act.put, List.setIfInBounds_toArray, List.set_cons_zero, List.set_cons_succ]
      have HB3 := Lib.hid (HB2.out.trans (hB1.mono HB2.out.size))
      clear hB1
      go_wp2_with fail
      refine (plainBack_tail W _ A n c xs HB3.out H.out HI.out (by omega)).mono ?_
      rintro e w4 ⟨rfl, hb4⟩
      have HB4 := Lib.hid hb4
      clear hb4
      go_wp2_with fail
      refine (awake07 _).mono ?_
      rintro e w5 ⟨rfl, hb5⟩
      have HB5 := Lib.hid (HB4.out.trans (hb5.mono HB4.out.size))
      clear hb5
      go_wp2
      go_ret
      exact ⟨rfl, HB5.out⟩

namespace plainBack
open Go.ChangeShapes Go.WideShapes Go.ChangeAt Go.RowKit Go.Cor
set_option linter.unusedVariables false

set_option maxRecDepth 100000 in
theorem lifted (os : Os) (started : os.Started) (H : Type) (enc : TypeId × Value → H) :
    ReturnsInHanded {} Try.checked os 12 .any (Rows.plainBackSpec.pre6 enc Try.prog Try.f12 Rows.plainBackRow.domain false) (Rows.plainBackSpec.post enc Try.prog Try.f12 false true false false) := by
  refine returnsInHanded_of_change (C := Try.checked) (by kernel_rfl : ownKnob Try.prog.godebug = none) started (by kernel_rfl) Try.func12
    (ChangeSpec.witness6 (enc := enc) (C := Try.checked) false ⟨#[], #[.slice none 0 0, .slice none 0 0], []⟩ 8 (by kernel_rfl) (by kernel_rfl) (by kernel_rfl) (by kernel_rfl)) ?_
  intro W base args ds gs before hval0 hW hcnd _
  have hval : ∀ (j : Nat) t v, Try.f12.params[j]? = some t → args[j]? = some v → Value.okWide Try.prog W .any base t v := hval0
  have hW' := hW
  obtain ⟨p, q, hA0, hV, rfl, hfz, hnd⟩ := hW
  have hA : DataW.TrodAll enc Try.prog W 0 (fun _ => true) true Try.f12.params.toList args.toList ds p := hA0
  rw [Try.params12] at hA hval
  obtain ⟨v0, vs0, d0, ds0, p0, q0, hargs, rfl, rfl, h0, r0⟩ := trodAll_cons hA
  obtain ⟨v1, vs1, d1, ds1, p1, q1, rfl, rfl, rfl, h1, r1⟩ := trodAll_cons r0
  obtain ⟨rfl, rfl, rfl⟩ := trodAll_nil r1
  obtain rfl : args = #[v0, v1] := by cases args; simp_all
  obtain ⟨rfl, rfl⟩ := trodVars_none hV
  obtain ⟨a0, len0, cap0, rfl⟩ := okWide_slice Try.underlying22 (hval 0 22 v0 rfl rfl)
  have k0 := h0
  have lt0 : ∀ x ∈ p0, x.block < W.heap.size := by obtain ⟨m, hm⟩ := k0; exact DataW.trod_lt m _ _ _ hm
  obtain ⟨x0, g0, b0⟩ : ∃ xs, Rd W .i64 a0 len0 cap0 xs ∧ In .i64 xs := by
    obtain ⟨fuel, hf⟩ := h0
    rcases open_ints Try.underlying22 Try.underlying2 (by kernel_rfl) hf with ⟨hcs, _⟩ | ⟨x, l, c, zs, hcs, _, hl, hm, hz, _, hcell, hwz⟩
    · simp [Value.cells] at hcs
      obtain ⟨rfl, rfl, rfl⟩ := hcs
      exact ⟨[], Rd.nilv _ _, fun _ h => by cases h⟩
    · simp [Value.cells] at hcs
      obtain ⟨rfl, rfl, rfl⟩ := hcs
      exact Rd.of_row hl hm hz hcell hwz
  obtain ⟨a1, len1, cap1, rfl⟩ := okWide_slice Try.underlying22 (hval 1 22 v1 rfl rfl)
  have k1 := h1
  have lt1 : ∀ x ∈ p1, x.block < W.heap.size := by obtain ⟨m, hm⟩ := k1; exact DataW.trod_lt m _ _ _ hm
  obtain ⟨x1, g1, b1⟩ : ∃ xs, Rd W .i64 a1 len1 cap1 xs ∧ In .i64 xs := by
    obtain ⟨fuel, hf⟩ := h1
    rcases open_ints Try.underlying22 Try.underlying2 (by kernel_rfl) hf with ⟨hcs, _⟩ | ⟨x, l, c, zs, hcs, _, hl, hm, hz, _, hcell, hwz⟩
    · simp [Value.cells] at hcs
      obtain ⟨rfl, rfl, rfl⟩ := hcs
      exact ⟨[], Rd.nilv _ _, fun _ h => by cases h⟩
    · simp [Value.cells] at hcs
      obtain ⟨rfl, rfl, rfl⟩ := hcs
      exact Rd.of_row hl hm hz hcell hwz
  clear hA0 hval0
  refine (PlainBack_walk W a0 len0 cap0 x0 g0 b0 a1 len1 cap1 x1 g1 b1).mono fun e W' ⟨he, bel⟩ => ?_
  subst he
  exact ⟨_, rfl, _, _, _, [], _, [], hW', trodAll_mk1 (shut_bool Try.underlying4 _), (trodAll_cons_mk (Below.trod (by kernel_rfl : laidOutB Try.prog = true) (by kernel_rfl) (of_decide_eq_true (by kernel_rfl)) k0 bel lt0) (trodAll_cons_mk (Below.trod (by kernel_rfl : laidOutB Try.prog = true) (by kernel_rfl) (of_decide_eq_true (by kernel_rfl)) k1 bel lt1) trodAll_mk0)), rfl, bel.frame _, fun h => by cases h⟩

theorem proved : Rows.PlainBackSaid :=
  OpenClaim.holds_of_wide 12 Try.f12 rfl rfl rfl rfl rfl rfl rfl ⟨rfl, rfl, rfl, rfl, rfl⟩ rfl rfl rfl rfl rfl (by kernel_rfl) Try.func12 (by kernel_rfl)
    (of_decide_eq_true (by kernel_rfl)) (by unfold Func.isWrapper; first | (rw [if_pos (by decide +kernel)]; kernel_rfl) | (rw [if_neg (by decide +kernel)]; exact ⟨rfl, rfl⟩))
    (fun os started H enc _ => lifted os started H enc)
#print axioms proved
end plainBack
end Go.Proofs.Ythpndhdpohmoaaa
