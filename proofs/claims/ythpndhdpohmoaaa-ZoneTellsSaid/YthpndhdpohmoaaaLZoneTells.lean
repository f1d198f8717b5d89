/-
  ZoneTells: for every input the law returns true; each argument reads behind the call as it read before. No condition.
-/
import Derived.Test.YthpndhdpohmoaaaZoneA
import Derived.Deep.MidRow
import Derived.ChangeOld
namespace Go.Free
open Go Go.RowKit Go.Cor
/-- a pointer to a zone's four cells -/
def ZPF (z : Zn) : Fact := fun v w => ∃ b o, v = .pointer (some ⟨b, o, none⟩) ∧ b < w.heap.size ∧ w.rangeAt b o (zr z).toList
theorem ZPF.stable (z : Zn) : Stable (ZPF z) := fun _ _ _ ⟨b, o, h1, h2, h3⟩ hb => ⟨b, o, h1, Nat.lt_of_lt_of_le h2 hb.size, fun j v hv => (hb.cell (p := ⟨b, o + j, none⟩) h2).trans (h3 j v hv)⟩
theorem RdZF.at0 {v : Value} {w : World} {z : Zn} (h : RdZF [z] v w) : ∃ b o c, v = .slice (some ⟨b, o, none⟩) 1 c ∧ 1 ≤ c ∧ b < w.heap.size ∧ w.rangeAt b o (zr z).toList := by
  obtain ⟨A, n, c, e, r⟩ := h
  have hl := r.len
  rw [zcells_len] at hl
  obtain rfl : n = 1 := by simp at hl; omega
  obtain ⟨b, o, rfl, hb, hc⟩ := r.get (by decide)
  exact ⟨b, o, c, e, r.cap, hb, fun j v hv => hc j v (by simpa [zcells] using hv)⟩
end Go.Free
namespace Go.Proofs.Ythpndhdpohmoaaa
open Go.RowKit Go.Cor Go.Free

theorem own1_any (A : Option Addr) (n c : Nat) (z : Zn) (w : World) (h : RdZ w A n c [z]) :
    Calls Try.prog 14 #[.slice A n c] w fun e w' => ∃ v, e = .returned v ∧ Below w.heap.size w w' ∧ RdZF [z] v w' := by
  have hl := h.len
  rw [zcells_len] at hl
  refine (own_any A n c [z] w h (by simp at hl; omega)).mono ?_
  rintro e w' ⟨A', c', rfl, hown, hb⟩
  exact ⟨_, rfl, hb, A', n, c', rfl, RdV.own hown⟩

set_option maxRecDepth 100000 in
set_option maxHeartbeats 4000000 in
theorem ZoneTells_walk (W : World) (A : Option Addr) (n c : Nat) (xs : List Int) (h1 : Rd W .i64 A n c xs) (hi1 : In .i64 xs) (B : Option Addr) (m d : Nat) (ys : List Int) (h2 : Rd W .i64 B m d ys) (hi2 : In .i64 ys) :
    Calls Try.prog 3 #[.slice A n c, .slice B m d] W fun e w' => e = .returned (.bool true) ∧ Below W.heap.size W w' := by
  by_cases hn : 300 < n ∨ 300 < m
  · clear h1 h2 hi1 hi2
    by_cases hn1 : 300 < n
    · go_enter Try.func3, Try.ntmps3
      go_wp2
      go_ret
      exact ⟨rfl, Below.refl _ _⟩
    · have hn2 : 300 < m := by omega
      have hn3 : n ≤ 300 := by omega
      clear hn hn1
      go_enter Try.func3, Try.ntmps3
      go_wp2
      go_ret
      exact ⟨rfl, Below.refl _ _⟩
  have hn1 : n ≤ 300 := by omega
  have hn2 : m ≤ 300 := by omega
  clear hn
  have hz1 := zoneOf_any A n c xs W h1 hi1 (by omega)
  have hz2 := fun w h => zoneOf_any B m d ys w h hi2 (by omega)
  have hr1 := fun w h => refZoneOf_any A n c xs w h (by omega)
  have hr3 := fun A k c w h (hk : k ≤ 1000) => refZoneOf_any A k c (xs ++ ys) w h hk
  have hap := fun (h1 : 0 < xs.length) (h2 : 0 < ys.length) (h3 : xs.length ≤ 300) (h4 : ys.length ≤ 300) => zn_app h1 h2 h3 h4
  rw [h1.len, h2.len] at hap
  obtain ⟨⟨p1, p2, p3, p4⟩, hx⟩ : ∃ z, zn xs = z := ⟨_, rfl⟩
  obtain ⟨⟨q1, q2, q3, q4⟩, hy⟩ : ∃ z, zn ys = z := ⟨_, rfl⟩
  obtain ⟨⟨r1, r2, r3, r4⟩, hr⟩ : ∃ z, zn (xs ++ ys) = z := ⟨_, rfl⟩
  obtain ⟨is, his⟩ : ∃ q, decide (0 < n) = q := ⟨_, rfl⟩
  obtain ⟨so, hso⟩ : ∃ q, decide (0 < m) = q := ⟨_, rfl⟩
  have k1 : is = true → 0 < n := fun e => of_decide_eq_true (his.trans e)
  have k2 : is = false → n = 0 := fun e => by have := of_decide_eq_false (his.trans e); omega
  have k3 : so = true → 0 < m := fun e => of_decide_eq_true (hso.trans e)
  have k4 : so = false → m = 0 := fun e => by have := of_decide_eq_false (hso.trans e); omega
  rw [hx, his] at hz1
  rw [hx] at hr1 hap
  rw [hy] at hap
  simp only [hy, hso] at hz2
  rw [hr] at hr3 hap
  simp only [zr] at hz1 hz2 hr1
  have H1 := Lib.hid h1
  have H2 := Lib.hid h2
  have HZ1 := Lib.hid hz1
  have HZ2 := Lib.hid hz2
  have HR1 := Lib.hid hr1
  have HR3 := Lib.hid hr3
  have HAP := Lib.hid hap
  clear h1 h2 hi1 hi2 hz1 hz2 hr1 hr3 hx hy hr his hso hap
  cases is with
  | true =>
    have n0 := k1 rfl
    clear k1 k2
    cases so with
    | true =>
      have m0 := k3 rfl
      clear k3 k4
      go_enter Try.func3, Try.ntmps3
      go_wp2_with fail
      refine HZ1.out.mono ?_
      rintro e w1 ⟨rfl, hb1⟩
      have HB1 := Lib.hid hb1
      clear hb1
      go_wp2_with fail
      refine (HZ2.out _ ((H2.out.below HB1.out).alloc _)).mono ?_
      rintro e w2 ⟨rfl, hb2⟩
      have hbx := (hb2.block _ (by simp)).trans (heap_alloc_new w1 (.cells #[.int .i64 p1, .int .i64 p2, .int .i64 p3, .int .i64 p4] 24))
      have hl1 : w1.heap.size < w2.heap.size := lt_of_block hbx
      have HBX := Lib.hid hbx
      have HB2 := Lib.hid (HB1.out.trans ((((Below.refl w1.heap.size w1).alloc (Nat.le_refl _) _).trans (hb2.mono (by simp))).mono HB1.out.size))
      clear hb2 hbx
      go_wp2_with fail
      have HBY := Lib.hid (heap_alloc_new w2 (.cells #[.int .i64 q1, .int .i64 q2, .int .i64 q3, .int .i64 q4] 24))
      have HBX2 := Lib.hid ((Below.heap_alloc w2 (.cells #[.int .i64 q1, .int .i64 q2, .int .i64 q3, .int .i64 q4] 24) _ hl1).trans HBX.out)
      have HB3 := Lib.hid (HB2.out.alloc HB2.out.size (.cells #[.int .i64 q1, .int .i64 q2, .int .i64 q3, .int .i64 q4] 24))
      have HA3 := Lib.hid (H1.out.below HB3.out)
      refine wp_region_free 22 (by kernel_rfl) (by kernel_rfl) ?_
      refine chain_val (.agg #[.int .i64 p1, .int .i64 p2, .int .i64 p3, .int .i64 p4]) (S := [5]) rfl ?_ ?_
      · intro ρ w' hE hB hs
        have h5 : ρ (.tmp 5) = .pointer (some ⟨w1.heap.size, 0, none⟩) := hs 5 (by decide)
        clear hs
        refine if_t (by rfl) ?_
        have hl := run_loadVar_row (P := Try.prog) w' w1.heap.size 24 24 #[.int .i64 p1, .int .i64 p2, .int .i64 p3, .int .i64 p4] (0, 0) _ ((hB.block _ (by simp; omega)).trans HBX2.out) Try.underlying24 rfl sizeZ
        unfold execOp
        simp only [h5, Instr.loadAt, Instr.sureAddr, Sem.run_bind, Sem.run_pure, Result.andThen_ok, hl]
      refine chain_val (.slice A n c) (S := [0]) rfl ?_ ?_
      · intro ρ w' hE hB hs
        have h0 : ρ (.tmp 0) = .slice A n c := hs 0 (by decide)
        clear hs
        refine if_t (by rfl) ?_
        (go_simp <;> exact wrapi64_in _ (by omega) (by omega))
      refine chain_static (fun v__ _ => v__ = .agg #[.int .i64 p1, .int .i64 p2, .int .i64 p3, .int .i64 p4]) (stable_eq _) (S := [29]) rfl (Go.Cor.enters_f Try.func15 (by kernel_rfl) rfl) rfl ?_ ?_
      · intro ρ w' hE hB hs
        have h29 : ρ (.tmp 29) = .slice A n c := hs 29 (by decide)
        clear hs
        refine ⟨(by rfl), ?_⟩
        simp only [List.map_toArray, List.map_cons, List.map_nil, h29]
        refine (HR1.out w' (HA3.out.below hB)).mono ?_
        rintro e w'' ⟨rfl, hb⟩
        exact ⟨_, rfl, hb, rfl⟩
      refine chain_make (RdZF [⟨p1, p2, p3, p4⟩]) (RdZF.stable _) (S := [30]) rfl ?_ ?_
      · intro ρ w' hE hB hs
        have h30 : ρ (.tmp 30) = .agg #[.int .i64 p1, .int .i64 p2, .int .i64 p3, .int .i64 p4] := hs 30 (by decide)
        clear hs
        exact ⟨(by rfl), .slice (some ⟨w'.heap.size, 0, none⟩) 1 1, w'.alloc (.cells (#[.int .i64 p1, .int .i64 p2, .int .i64 p3, .int .i64 p4]) 29), (by go_simp), (Below.refl _ _).alloc (Nat.le_refl _) _, ⟨_, _, _, rfl, RdZ.lit w' 29 ⟨p1, p2, p3, p4⟩⟩⟩
      refine chain_static (RdZF [⟨p1, p2, p3, p4⟩]) (RdZF.stable _) (S := [31]) rfl (Go.Cor.enters_f Try.func14 (by kernel_rfl) rfl) rfl ?_ ?_
      · intro ρ w' hE hB hs
        have h31 : (RdZF [⟨p1, p2, p3, p4⟩]) (ρ (.tmp 31)) w' := hs 31 (by decide)
        clear hs
        obtain ⟨A31, n31, c31, e31, r31⟩ := h31
        refine ⟨(by rfl), ?_⟩
        simp only [List.map_toArray, List.map_cons, List.map_nil, e31]
        exact own1_any _ _ _ _ w' r31
      refine chain_fact (ZPF ⟨p1, p2, p3, p4⟩) (ZPF.stable _) (S := [32]) rfl ?_ ?_
      · intro ρ w' hE hB hs
        have h32 : (RdZF [⟨p1, p2, p3, p4⟩]) (ρ (.tmp 32)) w' := hs 32 (by decide)
        clear hs
        have hc := hE.const
        refine if_t (by rfl) ?_
        obtain ⟨b, o, c', e, hc1, hb, hr⟩ := RdZF.at0 h32
        refine ⟨.pointer (some ⟨b, o, none⟩), ?_, b, o, rfl, hb, hr⟩
        go_simp
      refine chain_val (.agg #[.int .i64 p1, .int .i64 p2, .int .i64 p3, .int .i64 p4]) (S := [33]) rfl ?_ ?_
      · intro ρ w' hE hB hs
        have h33 : (ZPF ⟨p1, p2, p3, p4⟩) (ρ (.tmp 33)) w' := hs 33 (by decide)
        clear hs
        refine if_t (by rfl) ?_
        obtain ⟨b, o, e, hb, hr⟩ := h33
        have hl := run_loadVar_mid (P := Try.prog) w' b o 24 _ _ hr Try.underlying24 rfl sizeZ
        unfold execOp
        simp only [e, Instr.loadAt, Instr.sureAddr, Sem.run_bind, Sem.run_pure, Result.andThen_ok, hl]
        rfl
      refine chain_val (.bool false) (S := [28, 34]) rfl ?_ ?_
      · intro ρ w' hE hB hs
        have h28 : ρ (.tmp 28) = .agg #[.int .i64 p1, .int .i64 p2, .int .i64 p3, .int .i64 p4] := hs 28 (by decide)
        have h34 : ρ (.tmp 34) = .agg #[.int .i64 p1, .int .i64 p2, .int .i64 p3, .int .i64 p4] := hs 34 (by decide)
        clear hs
        refine if_t (by rfl) ?_
        (go_simp <;> exact wrapi64_in _ (by omega) (by omega))
      refine chain_val (.bool false) (S := [35]) rfl ?_ ?_
      · intro ρ w' hE hB hs
        have h35 : ρ (.tmp 35) = .bool false := hs 35 (by decide)
        clear hs
        refine if_t (by rfl) ?_
        (go_simp <;> exact wrapi64_in _ (by omega) (by omega))
      refine chain_val (.bool true) (S := [6, 36]) rfl ?_ ?_
      · intro ρ w' hE hB hs
        have h6 : ρ (.tmp 6) = .bool true := hs 6 (by decide)
        have h36 : ρ (.tmp 36) = .bool false := hs 36 (by decide)
        clear hs
        refine if_t (by simp [Region.wanted, yieldedR, h36]) ?_
        (go_simp <;> exact wrapi64_in _ (by omega) (by omega))
      refine chain_val (.slice A n c) (S := [0, 36]) rfl ?_ ?_
      · intro ρ w' hE hB hs
        have h0 : ρ (.tmp 0) = .slice A n c := hs 0 (by decide)
        have h36 : ρ (.tmp 36) = .bool false := hs 36 (by decide)
        clear hs
        refine if_t (by simp [Region.wanted, yieldedR, h36]) ?_
        (go_simp <;> exact wrapi64_in _ (by omega) (by omega))
      refine chain_val (.int .i64 (n : Nat)) (S := [38, 36]) rfl ?_ ?_
      · intro ρ w' hE hB hs
        have h36 : ρ (.tmp 36) = .bool false := hs 36 (by decide)
        have h38 : ρ (.tmp 38) = .slice A n c := hs 38 (by decide)
        clear hs
        refine if_t (by simp [Region.wanted, yieldedR, h36]) ?_
        (go_simp <;> exact wrapi64_in _ (by omega) (by omega))
      refine chain_val (.bool true) (S := [39, 36]) rfl ?_ ?_
      · intro ρ w' hE hB hs
        have h36 : ρ (.tmp 36) = .bool false := hs 36 (by decide)
        have h39 : ρ (.tmp 39) = .int .i64 (n : Nat) := hs 39 (by decide)
        clear hs
        have hc := hE.const
        refine if_t (by simp [Region.wanted, yieldedR, h36]) ?_
        (go_simp <;> exact wrapi64_in _ (by omega) (by omega))
      refine chain_val (.bool false) (S := [37, 40, 36]) rfl ?_ ?_
      · intro ρ w' hE hB hs
        have h36 : ρ (.tmp 36) = .bool false := hs 36 (by decide)
        have h37 : ρ (.tmp 37) = .bool true := hs 37 (by decide)
        have h40 : ρ (.tmp 40) = .bool true := hs 40 (by decide)
        clear hs
        refine if_t (by simp [Region.wanted, yieldedR, h36]) ?_
        (go_simp <;> exact wrapi64_in _ (by omega) (by omega))
      refine chain_val (.bool false) (S := [36, 41]) rfl ?_ ?_
      · intro ρ w' hE hB hs
        have h36 : ρ (.tmp 36) = .bool false := hs 36 (by decide)
        have h41 : ρ (.tmp 41) = .bool false := hs 41 (by decide)
        clear hs
        have hc := hE.const
        refine if_t (by rfl) ?_
        (go_simp <;> exact wrapi64_in _ (by omega) (by omega))
      refine chain_val (.bool false) (S := [42]) rfl ?_ ?_
      · intro ρ w' hE hB hs
        have h42 : ρ (.tmp 42) = .bool false := hs 42 (by decide)
        clear hs
        refine if_t (by rfl) ?_
        (go_simp <;> exact wrapi64_in _ (by omega) (by omega))
      refine chain_val (.bool true) (S := [8, 43]) rfl ?_ ?_
      · intro ρ w' hE hB hs
        have h8 : ρ (.tmp 8) = .bool true := hs 8 (by decide)
        have h43 : ρ (.tmp 43) = .bool false := hs 43 (by decide)
        clear hs
        refine if_t (by simp [Region.wanted, yieldedR, h43]) ?_
        (go_simp <;> exact wrapi64_in _ (by omega) (by omega))
      refine chain_val (.slice B m d) (S := [1, 43]) rfl ?_ ?_
      · intro ρ w' hE hB hs
        have h1 : ρ (.tmp 1) = .slice B m d := hs 1 (by decide)
        have h43 : ρ (.tmp 43) = .bool false := hs 43 (by decide)
        clear hs
        refine if_t (by simp [Region.wanted, yieldedR, h43]) ?_
        (go_simp <;> exact wrapi64_in _ (by omega) (by omega))
      refine chain_val (.int .i64 (m : Nat)) (S := [45, 43]) rfl ?_ ?_
      · intro ρ w' hE hB hs
        have h43 : ρ (.tmp 43) = .bool false := hs 43 (by decide)
        have h45 : ρ (.tmp 45) = .slice B m d := hs 45 (by decide)
        clear hs
        refine if_t (by simp [Region.wanted, yieldedR, h43]) ?_
        (go_simp <;> exact wrapi64_in _ (by omega) (by omega))
      refine chain_val (.bool true) (S := [46, 43]) rfl ?_ ?_
      · intro ρ w' hE hB hs
        have h43 : ρ (.tmp 43) = .bool false := hs 43 (by decide)
        have h46 : ρ (.tmp 46) = .int .i64 (m : Nat) := hs 46 (by decide)
        clear hs
        have hc := hE.const
        refine if_t (by simp [Region.wanted, yieldedR, h43]) ?_
        (go_simp <;> exact wrapi64_in _ (by omega) (by omega))
      refine chain_val (.bool false) (S := [44, 47, 43]) rfl ?_ ?_
      · intro ρ w' hE hB hs
        have h43 : ρ (.tmp 43) = .bool false := hs 43 (by decide)
        have h44 : ρ (.tmp 44) = .bool true := hs 44 (by decide)
        have h47 : ρ (.tmp 47) = .bool true := hs 47 (by decide)
        clear hs
        refine if_t (by simp [Region.wanted, yieldedR, h43]) ?_
        (go_simp <;> exact wrapi64_in _ (by omega) (by omega))
      refine chain_val (.bool false) (S := [43, 48]) rfl ?_ ?_
      · intro ρ w' hE hB hs
        have h43 : ρ (.tmp 43) = .bool false := hs 43 (by decide)
        have h48 : ρ (.tmp 48) = .bool false := hs 48 (by decide)
        clear hs
        have hc := hE.const
        refine if_t (by rfl) ?_
        (go_simp <;> exact wrapi64_in _ (by omega) (by omega))
      intro w1 hB1
      simp only [List.reverse_cons, List.reverse_nil, List.nil_append, List.cons_append, Go.Free.Ends, forall_eq, Act.put, List.setIfInBounds_toArray, List.set_cons_zero, List.set_cons_succ]
      rintro _ _ _ _ _ _
      have HBX5 := Lib.hid ((hB1.block _ (by simp; omega)).trans HBX2.out)
      have HBY5 := Lib.hid ((hB1.block _ (by simp)).trans HBY.out)
      have HB5 := Lib.hid (HB3.out.trans (hB1.mono HB3.out.size))
      clear hB1
      have hl5 := lt_of_block HBX5.out
      have hl6 := lt_of_block HBY5.out
      go_wp2_with (first | (at_builtin; first | (refine wpList_append_r rfl rfl elemI64 (owns_lit0 (Nat.le_refl _)) rfl (Rd.toV ((H1.out.below HB5.out).alloc _)) rfl ints_one (by omega) (by omega) (by simp) ?_; intro A6 c6 w6 hown6 hg6 _; have HO6 := Lib.hid (owns_start hown6); have hb6 := below_grown ((Below.refl _ _).alloc (Nat.le_refl _) _) (owns_lit0 (E := 2) (size := 1) (Nat.le_refl _)) hg6 (by simp); have HB6 := Lib.hid (HB5.out.trans (hb6.mono HB5.out.size)); have HB56 := Lib.hid hb6; clear hown6 hg6 hb6) | (refine wpList_append_r rfl rfl elemI64 HO6.out rfl (Rd.toV (H2.out.below HB6.out)) rfl ints_one (by omega) (by omega) HB56.out.size ?_; intro A7 c7 w7 hown7 hg7 _; have hb7 := below_grown HB56.out HO6.out hg7 HB56.out.size; have HBX7 := Lib.hid ((hb7.block _ hl5).trans HBX5.out); have HBY7 := Lib.hid ((hb7.block _ hl6).trans HBY5.out); have HB7 := Lib.hid (HB5.out.trans (hb7.mono HB5.out.size)); have H7 := Lib.hid (Rd.own (owns_app hown7)); clear hown7 hg7 hb7)) | (refine wpList_load_row rfl 24 (.tmp 5) rfl _ rfl 24 _ (0, 0) _ HBX7.out Try.underlying24 rfl sizeZ ?_) | (refine wpList_load_row rfl 24 (.tmp 7) rfl _ rfl 24 _ (0, 0) _ HBY7.out Try.underlying24 rfl sizeZ ?_))
      refine (join_any ⟨p1, p2, p3, p4⟩ ⟨q1, q2, q3, q4⟩ _).mono ?_
      rw [HAP.out (by omega) (by omega) (by omega) (by omega)]
      rintro e w8 ⟨rfl, hb8⟩
      simp only [zr]
      have HB8 := Lib.hid (HB7.out.trans (hb8.mono HB7.out.size))
      have H8 := Lib.hid (H7.out.below hb8)
      clear hb8
      go_wp2_with fail
      have hr9 := HR3.out _ _ _ w8 H8.out (by omega)
      simp only [zr] at hr9
      refine hr9.mono ?_
      rintro e w9 ⟨rfl, hb9⟩
      have HB9 := Lib.hid (HB8.out.trans (hb9.mono HB8.out.size))
      clear hb9 hr9
      go_wp2_with fail
      refine (own1_any _ _ _ _ _ (RdZ.lit w9 29 ⟨r1, r2, r3, r4⟩)).mono ?_
      rintro e w10 ⟨v, rfl, hb10, hz10⟩
      obtain ⟨b, o, c', rfl, hc1, hbo, hr10⟩ := RdZF.at0 hz10
      have HR10 := Lib.hid hr10
      have HB10 := Lib.hid (HB9.out.trans ((((Below.refl w9.heap.size w9).alloc (Nat.le_refl _) _).trans (hb10.mono (by simp))).mono HB9.out.size))
      clear hz10 hr10 hb10
      go_wp2_with (refine wpList_load_mid rfl 24 (.tmp 69) rfl b o rfl _ _ HR10.out Try.underlying24 rfl sizeZ ?_; rw [show (zr ⟨r1, r2, r3, r4⟩).toList.toArray = #[.int .i64 r1, .int .i64 r2, .int .i64 r3, .int .i64 r4] from rfl])
      refine (awake25 _).mono ?_
      rintro e w11 ⟨rfl, hb11⟩
      go_wp2
      go_ret
      exact ⟨rfl, HB10.out.trans (hb11.mono HB10.out.size)⟩
    | false =>
      obtain rfl := k4 rfl
      clear k3 k4
      go_enter Try.func3, Try.ntmps3
      go_wp2_with fail
      refine HZ1.out.mono ?_
      rintro e w1 ⟨rfl, hb1⟩
      have HB1 := Lib.hid hb1
      clear hb1
      go_wp2_with fail
      refine (HZ2.out _ ((H2.out.below HB1.out).alloc _)).mono ?_
      rintro e w2 ⟨rfl, hb2⟩
      have hbx := (hb2.block _ (by simp)).trans (heap_alloc_new w1 (.cells #[.int .i64 p1, .int .i64 p2, .int .i64 p3, .int .i64 p4] 24))
      have hl1 : w1.heap.size < w2.heap.size := lt_of_block hbx
      have HBX := Lib.hid hbx
      have HB2 := Lib.hid (HB1.out.trans ((((Below.refl w1.heap.size w1).alloc (Nat.le_refl _) _).trans (hb2.mono (by simp))).mono HB1.out.size))
      clear hb2 hbx
      go_wp2_with fail
      have HBY := Lib.hid (heap_alloc_new w2 (.cells #[.int .i64 q1, .int .i64 q2, .int .i64 q3, .int .i64 q4] 24))
      have HBX2 := Lib.hid ((Below.heap_alloc w2 (.cells #[.int .i64 q1, .int .i64 q2, .int .i64 q3, .int .i64 q4] 24) _ hl1).trans HBX.out)
      have HB3 := Lib.hid (HB2.out.alloc HB2.out.size (.cells #[.int .i64 q1, .int .i64 q2, .int .i64 q3, .int .i64 q4] 24))
      have HA3 := Lib.hid (H1.out.below HB3.out)
      refine wp_region_free 22 (by kernel_rfl) (by kernel_rfl) ?_
      refine chain_val (.agg #[.int .i64 p1, .int .i64 p2, .int .i64 p3, .int .i64 p4]) (S := [5]) rfl ?_ ?_
      · intro ρ w' hE hB hs
        have h5 : ρ (.tmp 5) = .pointer (some ⟨w1.heap.size, 0, none⟩) := hs 5 (by decide)
        clear hs
        refine if_t (by rfl) ?_
        have hl := run_loadVar_row (P := Try.prog) w' w1.heap.size 24 24 #[.int .i64 p1, .int .i64 p2, .int .i64 p3, .int .i64 p4] (0, 0) _ ((hB.block _ (by simp; omega)).trans HBX2.out) Try.underlying24 rfl sizeZ
        unfold execOp
        simp only [h5, Instr.loadAt, Instr.sureAddr, Sem.run_bind, Sem.run_pure, Result.andThen_ok, hl]
      refine chain_val (.slice A n c) (S := [0]) rfl ?_ ?_
      · intro ρ w' hE hB hs
        have h0 : ρ (.tmp 0) = .slice A n c := hs 0 (by decide)
        clear hs
        refine if_t (by rfl) ?_
        (go_simp <;> exact wrapi64_in _ (by omega) (by omega))
      refine chain_static (fun v__ _ => v__ = .agg #[.int .i64 p1, .int .i64 p2, .int .i64 p3, .int .i64 p4]) (stable_eq _) (S := [29]) rfl (Go.Cor.enters_f Try.func15 (by kernel_rfl) rfl) rfl ?_ ?_
      · intro ρ w' hE hB hs
        have h29 : ρ (.tmp 29) = .slice A n c := hs 29 (by decide)
        clear hs
        refine ⟨(by rfl), ?_⟩
        simp only [List.map_toArray, List.map_cons, List.map_nil, h29]
        refine (HR1.out w' (HA3.out.below hB)).mono ?_
        rintro e w'' ⟨rfl, hb⟩
        exact ⟨_, rfl, hb, rfl⟩
      refine chain_make (RdZF [⟨p1, p2, p3, p4⟩]) (RdZF.stable _) (S := [30]) rfl ?_ ?_
      · intro ρ w' hE hB hs
        have h30 : ρ (.tmp 30) = .agg #[.int .i64 p1, .int .i64 p2, .int .i64 p3, .int .i64 p4] := hs 30 (by decide)
        clear hs
        exact ⟨(by rfl), .slice (some ⟨w'.heap.size, 0, none⟩) 1 1, w'.alloc (.cells (#[.int .i64 p1, .int .i64 p2, .int .i64 p3, .int .i64 p4]) 29), (by go_simp), (Below.refl _ _).alloc (Nat.le_refl _) _, ⟨_, _, _, rfl, RdZ.lit w' 29 ⟨p1, p2, p3, p4⟩⟩⟩
      refine chain_static (RdZF [⟨p1, p2, p3, p4⟩]) (RdZF.stable _) (S := [31]) rfl (Go.Cor.enters_f Try.func14 (by kernel_rfl) rfl) rfl ?_ ?_
      · intro ρ w' hE hB hs
        have h31 : (RdZF [⟨p1, p2, p3, p4⟩]) (ρ (.tmp 31)) w' := hs 31 (by decide)
        clear hs
        obtain ⟨A31, n31, c31, e31, r31⟩ := h31
        refine ⟨(by rfl), ?_⟩
        simp only [List.map_toArray, List.map_cons, List.map_nil, e31]
        exact own1_any _ _ _ _ w' r31
      refine chain_fact (ZPF ⟨p1, p2, p3, p4⟩) (ZPF.stable _) (S := [32]) rfl ?_ ?_
      · intro ρ w' hE hB hs
        have h32 : (RdZF [⟨p1, p2, p3, p4⟩]) (ρ (.tmp 32)) w' := hs 32 (by decide)
        clear hs
        have hc := hE.const
        refine if_t (by rfl) ?_
        obtain ⟨b, o, c', e, hc1, hb, hr⟩ := RdZF.at0 h32
        refine ⟨.pointer (some ⟨b, o, none⟩), ?_, b, o, rfl, hb, hr⟩
        go_simp
      refine chain_val (.agg #[.int .i64 p1, .int .i64 p2, .int .i64 p3, .int .i64 p4]) (S := [33]) rfl ?_ ?_
      · intro ρ w' hE hB hs
        have h33 : (ZPF ⟨p1, p2, p3, p4⟩) (ρ (.tmp 33)) w' := hs 33 (by decide)
        clear hs
        refine if_t (by rfl) ?_
        obtain ⟨b, o, e, hb, hr⟩ := h33
        have hl := run_loadVar_mid (P := Try.prog) w' b o 24 _ _ hr Try.underlying24 rfl sizeZ
        unfold execOp
        simp only [e, Instr.loadAt, Instr.sureAddr, Sem.run_bind, Sem.run_pure, Result.andThen_ok, hl]
        rfl
      refine chain_val (.bool false) (S := [28, 34]) rfl ?_ ?_
      · intro ρ w' hE hB hs
        have h28 : ρ (.tmp 28) = .agg #[.int .i64 p1, .int .i64 p2, .int .i64 p3, .int .i64 p4] := hs 28 (by decide)
        have h34 : ρ (.tmp 34) = .agg #[.int .i64 p1, .int .i64 p2, .int .i64 p3, .int .i64 p4] := hs 34 (by decide)
        clear hs
        refine if_t (by rfl) ?_
        (go_simp <;> exact wrapi64_in _ (by omega) (by omega))
      refine chain_val (.bool false) (S := [35]) rfl ?_ ?_
      · intro ρ w' hE hB hs
        have h35 : ρ (.tmp 35) = .bool false := hs 35 (by decide)
        clear hs
        refine if_t (by rfl) ?_
        (go_simp <;> exact wrapi64_in _ (by omega) (by omega))
      refine chain_val (.bool true) (S := [6, 36]) rfl ?_ ?_
      · intro ρ w' hE hB hs
        have h6 : ρ (.tmp 6) = .bool true := hs 6 (by decide)
        have h36 : ρ (.tmp 36) = .bool false := hs 36 (by decide)
        clear hs
        refine if_t (by simp [Region.wanted, yieldedR, h36]) ?_
        (go_simp <;> exact wrapi64_in _ (by omega) (by omega))
      refine chain_val (.slice A n c) (S := [0, 36]) rfl ?_ ?_
      · intro ρ w' hE hB hs
        have h0 : ρ (.tmp 0) = .slice A n c := hs 0 (by decide)
        have h36 : ρ (.tmp 36) = .bool false := hs 36 (by decide)
        clear hs
        refine if_t (by simp [Region.wanted, yieldedR, h36]) ?_
        (go_simp <;> exact wrapi64_in _ (by omega) (by omega))
      refine chain_val (.int .i64 (n : Nat)) (S := [38, 36]) rfl ?_ ?_
      · intro ρ w' hE hB hs
        have h36 : ρ (.tmp 36) = .bool false := hs 36 (by decide)
        have h38 : ρ (.tmp 38) = .slice A n c := hs 38 (by decide)
        clear hs
        refine if_t (by simp [Region.wanted, yieldedR, h36]) ?_
        (go_simp <;> exact wrapi64_in _ (by omega) (by omega))
      refine chain_val (.bool true) (S := [39, 36]) rfl ?_ ?_
      · intro ρ w' hE hB hs
        have h36 : ρ (.tmp 36) = .bool false := hs 36 (by decide)
        have h39 : ρ (.tmp 39) = .int .i64 (n : Nat) := hs 39 (by decide)
        clear hs
        have hc := hE.const
        refine if_t (by simp [Region.wanted, yieldedR, h36]) ?_
        (go_simp <;> exact wrapi64_in _ (by omega) (by omega))
      refine chain_val (.bool false) (S := [37, 40, 36]) rfl ?_ ?_
      · intro ρ w' hE hB hs
        have h36 : ρ (.tmp 36) = .bool false := hs 36 (by decide)
        have h37 : ρ (.tmp 37) = .bool true := hs 37 (by decide)
        have h40 : ρ (.tmp 40) = .bool true := hs 40 (by decide)
        clear hs
        refine if_t (by simp [Region.wanted, yieldedR, h36]) ?_
        (go_simp <;> exact wrapi64_in _ (by omega) (by omega))
      refine chain_val (.bool false) (S := [36, 41]) rfl ?_ ?_
      · intro ρ w' hE hB hs
        have h36 : ρ (.tmp 36) = .bool false := hs 36 (by decide)
        have h41 : ρ (.tmp 41) = .bool false := hs 41 (by decide)
        clear hs
        have hc := hE.const
        refine if_t (by rfl) ?_
        (go_simp <;> exact wrapi64_in _ (by omega) (by omega))
      refine chain_val (.bool false) (S := [42]) rfl ?_ ?_
      · intro ρ w' hE hB hs
        have h42 : ρ (.tmp 42) = .bool false := hs 42 (by decide)
        clear hs
        refine if_t (by rfl) ?_
        (go_simp <;> exact wrapi64_in _ (by omega) (by omega))
      refine chain_val (.bool false) (S := [8, 43]) rfl ?_ ?_
      · intro ρ w' hE hB hs
        have h8 : ρ (.tmp 8) = .bool false := hs 8 (by decide)
        have h43 : ρ (.tmp 43) = .bool false := hs 43 (by decide)
        clear hs
        refine if_t (by simp [Region.wanted, yieldedR, h43]) ?_
        (go_simp <;> exact wrapi64_in _ (by omega) (by omega))
      refine chain_val (.slice B 0 d) (S := [1, 43]) rfl ?_ ?_
      · intro ρ w' hE hB hs
        have h1 : ρ (.tmp 1) = .slice B 0 d := hs 1 (by decide)
        have h43 : ρ (.tmp 43) = .bool false := hs 43 (by decide)
        clear hs
        refine if_t (by simp [Region.wanted, yieldedR, h43]) ?_
        (go_simp <;> exact wrapi64_in _ (by omega) (by omega))
      refine chain_val (.int .i64 (0 : Nat)) (S := [45, 43]) rfl ?_ ?_
      · intro ρ w' hE hB hs
        have h43 : ρ (.tmp 43) = .bool false := hs 43 (by decide)
        have h45 : ρ (.tmp 45) = .slice B 0 d := hs 45 (by decide)
        clear hs
        refine if_t (by simp [Region.wanted, yieldedR, h43]) ?_
        (go_simp <;> exact wrapi64_in _ (by omega) (by omega))
      refine chain_val (.bool false) (S := [46, 43]) rfl ?_ ?_
      · intro ρ w' hE hB hs
        have h43 : ρ (.tmp 43) = .bool false := hs 43 (by decide)
        have h46 : ρ (.tmp 46) = .int .i64 (0 : Nat) := hs 46 (by decide)
        clear hs
        have hc := hE.const
        refine if_t (by simp [Region.wanted, yieldedR, h43]) ?_
        (go_simp <;> exact wrapi64_in _ (by omega) (by omega))
      refine chain_val (.bool false) (S := [44, 47, 43]) rfl ?_ ?_
      · intro ρ w' hE hB hs
        have h43 : ρ (.tmp 43) = .bool false := hs 43 (by decide)
        have h44 : ρ (.tmp 44) = .bool false := hs 44 (by decide)
        have h47 : ρ (.tmp 47) = .bool false := hs 47 (by decide)
        clear hs
        refine if_t (by simp [Region.wanted, yieldedR, h43]) ?_
        (go_simp <;> exact wrapi64_in _ (by omega) (by omega))
      refine chain_val (.bool false) (S := [43, 48]) rfl ?_ ?_
      · intro ρ w' hE hB hs
        have h43 : ρ (.tmp 43) = .bool false := hs 43 (by decide)
        have h48 : ρ (.tmp 48) = .bool false := hs 48 (by decide)
        clear hs
        have hc := hE.const
        refine if_t (by rfl) ?_
        (go_simp <;> exact wrapi64_in _ (by omega) (by omega))
      intro w1 hB1
      simp only [List.reverse_cons, List.reverse_nil, List.nil_append, List.cons_append, Go.Free.Ends, forall_eq, Act.put, List.setIfInBounds_toArray, List.set_cons_zero, List.set_cons_succ]
      rintro _ _ _ _ _ _
      have HBX5 := Lib.hid ((hB1.block _ (by simp; omega)).trans HBX2.out)
      have HBY5 := Lib.hid ((hB1.block _ (by simp)).trans HBY.out)
      have HB5 := Lib.hid (HB3.out.trans (hB1.mono HB3.out.size))
      clear hB1
      go_wp2_with fail
      refine (awake25 _).mono ?_
      rintro e w9 ⟨rfl, hb9⟩
      go_wp2
      go_ret
      exact ⟨rfl, HB5.out.trans (hb9.mono HB5.out.size)⟩
  | false =>
    obtain rfl := k2 rfl
    clear k1 k2
    cases so with
    | true =>
      have m0 := k3 rfl
      clear k3 k4
      go_enter Try.func3, Try.ntmps3
      go_wp2_with fail
      refine HZ1.out.mono ?_
      rintro e w1 ⟨rfl, hb1⟩
      have HB1 := Lib.hid hb1
      clear hb1
      go_wp2_with fail
      refine (HZ2.out _ ((H2.out.below HB1.out).alloc _)).mono ?_
      rintro e w2 ⟨rfl, hb2⟩
      have hbx := (hb2.block _ (by simp)).trans (heap_alloc_new w1 (.cells #[.int .i64 p1, .int .i64 p2, .int .i64 p3, .int .i64 p4] 24))
      have hl1 : w1.heap.size < w2.heap.size := lt_of_block hbx
      have HBX := Lib.hid hbx
      have HB2 := Lib.hid (HB1.out.trans ((((Below.refl w1.heap.size w1).alloc (Nat.le_refl _) _).trans (hb2.mono (by simp))).mono HB1.out.size))
      clear hb2 hbx
      go_wp2_with fail
      have HBY := Lib.hid (heap_alloc_new w2 (.cells #[.int .i64 q1, .int .i64 q2, .int .i64 q3, .int .i64 q4] 24))
      have HBX2 := Lib.hid ((Below.heap_alloc w2 (.cells #[.int .i64 q1, .int .i64 q2, .int .i64 q3, .int .i64 q4] 24) _ hl1).trans HBX.out)
      have HB3 := Lib.hid (HB2.out.alloc HB2.out.size (.cells #[.int .i64 q1, .int .i64 q2, .int .i64 q3, .int .i64 q4] 24))
      have HA3 := Lib.hid (H1.out.below HB3.out)
      refine wp_region_free 22 (by kernel_rfl) (by kernel_rfl) ?_
      refine chain_val (.agg #[.int .i64 p1, .int .i64 p2, .int .i64 p3, .int .i64 p4]) (S := [5]) rfl ?_ ?_
      · intro ρ w' hE hB hs
        have h5 : ρ (.tmp 5) = .pointer (some ⟨w1.heap.size, 0, none⟩) := hs 5 (by decide)
        clear hs
        refine if_t (by rfl) ?_
        have hl := run_loadVar_row (P := Try.prog) w' w1.heap.size 24 24 #[.int .i64 p1, .int .i64 p2, .int .i64 p3, .int .i64 p4] (0, 0) _ ((hB.block _ (by simp; omega)).trans HBX2.out) Try.underlying24 rfl sizeZ
        unfold execOp
        simp only [h5, Instr.loadAt, Instr.sureAddr, Sem.run_bind, Sem.run_pure, Result.andThen_ok, hl]
      refine chain_val (.slice A 0 c) (S := [0]) rfl ?_ ?_
      · intro ρ w' hE hB hs
        have h0 : ρ (.tmp 0) = .slice A 0 c := hs 0 (by decide)
        clear hs
        refine if_t (by rfl) ?_
        (go_simp <;> exact wrapi64_in _ (by omega) (by omega))
      refine chain_static (fun v__ _ => v__ = .agg #[.int .i64 p1, .int .i64 p2, .int .i64 p3, .int .i64 p4]) (stable_eq _) (S := [29]) rfl (Go.Cor.enters_f Try.func15 (by kernel_rfl) rfl) rfl ?_ ?_
      · intro ρ w' hE hB hs
        have h29 : ρ (.tmp 29) = .slice A 0 c := hs 29 (by decide)
        clear hs
        refine ⟨(by rfl), ?_⟩
        simp only [List.map_toArray, List.map_cons, List.map_nil, h29]
        refine (HR1.out w' (HA3.out.below hB)).mono ?_
        rintro e w'' ⟨rfl, hb⟩
        exact ⟨_, rfl, hb, rfl⟩
      refine chain_make (RdZF [⟨p1, p2, p3, p4⟩]) (RdZF.stable _) (S := [30]) rfl ?_ ?_
      · intro ρ w' hE hB hs
        have h30 : ρ (.tmp 30) = .agg #[.int .i64 p1, .int .i64 p2, .int .i64 p3, .int .i64 p4] := hs 30 (by decide)
        clear hs
        exact ⟨(by rfl), .slice (some ⟨w'.heap.size, 0, none⟩) 1 1, w'.alloc (.cells (#[.int .i64 p1, .int .i64 p2, .int .i64 p3, .int .i64 p4]) 29), (by go_simp), (Below.refl _ _).alloc (Nat.le_refl _) _, ⟨_, _, _, rfl, RdZ.lit w' 29 ⟨p1, p2, p3, p4⟩⟩⟩
      refine chain_static (RdZF [⟨p1, p2, p3, p4⟩]) (RdZF.stable _) (S := [31]) rfl (Go.Cor.enters_f Try.func14 (by kernel_rfl) rfl) rfl ?_ ?_
      · intro ρ w' hE hB hs
        have h31 : (RdZF [⟨p1, p2, p3, p4⟩]) (ρ (.tmp 31)) w' := hs 31 (by decide)
        clear hs
        obtain ⟨A31, n31, c31, e31, r31⟩ := h31
        refine ⟨(by rfl), ?_⟩
        simp only [List.map_toArray, List.map_cons, List.map_nil, e31]
        exact own1_any _ _ _ _ w' r31
      refine chain_fact (ZPF ⟨p1, p2, p3, p4⟩) (ZPF.stable _) (S := [32]) rfl ?_ ?_
      · intro ρ w' hE hB hs
        have h32 : (RdZF [⟨p1, p2, p3, p4⟩]) (ρ (.tmp 32)) w' := hs 32 (by decide)
        clear hs
        have hc := hE.const
        refine if_t (by rfl) ?_
        obtain ⟨b, o, c', e, hc1, hb, hr⟩ := RdZF.at0 h32
        refine ⟨.pointer (some ⟨b, o, none⟩), ?_, b, o, rfl, hb, hr⟩
        go_simp
      refine chain_val (.agg #[.int .i64 p1, .int .i64 p2, .int .i64 p3, .int .i64 p4]) (S := [33]) rfl ?_ ?_
      · intro ρ w' hE hB hs
        have h33 : (ZPF ⟨p1, p2, p3, p4⟩) (ρ (.tmp 33)) w' := hs 33 (by decide)
        clear hs
        refine if_t (by rfl) ?_
        obtain ⟨b, o, e, hb, hr⟩ := h33
        have hl := run_loadVar_mid (P := Try.prog) w' b o 24 _ _ hr Try.underlying24 rfl sizeZ
        unfold execOp
        simp only [e, Instr.loadAt, Instr.sureAddr, Sem.run_bind, Sem.run_pure, Result.andThen_ok, hl]
        rfl
      refine chain_val (.bool false) (S := [28, 34]) rfl ?_ ?_
      · intro ρ w' hE hB hs
        have h28 : ρ (.tmp 28) = .agg #[.int .i64 p1, .int .i64 p2, .int .i64 p3, .int .i64 p4] := hs 28 (by decide)
        have h34 : ρ (.tmp 34) = .agg #[.int .i64 p1, .int .i64 p2, .int .i64 p3, .int .i64 p4] := hs 34 (by decide)
        clear hs
        refine if_t (by rfl) ?_
        (go_simp <;> exact wrapi64_in _ (by omega) (by omega))
      refine chain_val (.bool false) (S := [35]) rfl ?_ ?_
      · intro ρ w' hE hB hs
        have h35 : ρ (.tmp 35) = .bool false := hs 35 (by decide)
        clear hs
        refine if_t (by rfl) ?_
        (go_simp <;> exact wrapi64_in _ (by omega) (by omega))
      refine chain_val (.bool false) (S := [6, 36]) rfl ?_ ?_
      · intro ρ w' hE hB hs
        have h6 : ρ (.tmp 6) = .bool false := hs 6 (by decide)
        have h36 : ρ (.tmp 36) = .bool false := hs 36 (by decide)
        clear hs
        refine if_t (by simp [Region.wanted, yieldedR, h36]) ?_
        (go_simp <;> exact wrapi64_in _ (by omega) (by omega))
      refine chain_val (.slice A 0 c) (S := [0, 36]) rfl ?_ ?_
      · intro ρ w' hE hB hs
        have h0 : ρ (.tmp 0) = .slice A 0 c := hs 0 (by decide)
        have h36 : ρ (.tmp 36) = .bool false := hs 36 (by decide)
        clear hs
        refine if_t (by simp [Region.wanted, yieldedR, h36]) ?_
        (go_simp <;> exact wrapi64_in _ (by omega) (by omega))
      refine chain_val (.int .i64 (0 : Nat)) (S := [38, 36]) rfl ?_ ?_
      · intro ρ w' hE hB hs
        have h36 : ρ (.tmp 36) = .bool false := hs 36 (by decide)
        have h38 : ρ (.tmp 38) = .slice A 0 c := hs 38 (by decide)
        clear hs
        refine if_t (by simp [Region.wanted, yieldedR, h36]) ?_
        (go_simp <;> exact wrapi64_in _ (by omega) (by omega))
      refine chain_val (.bool false) (S := [39, 36]) rfl ?_ ?_
      · intro ρ w' hE hB hs
        have h36 : ρ (.tmp 36) = .bool false := hs 36 (by decide)
        have h39 : ρ (.tmp 39) = .int .i64 (0 : Nat) := hs 39 (by decide)
        clear hs
        have hc := hE.const
        refine if_t (by simp [Region.wanted, yieldedR, h36]) ?_
        (go_simp <;> exact wrapi64_in _ (by omega) (by omega))
      refine chain_val (.bool false) (S := [37, 40, 36]) rfl ?_ ?_
      · intro ρ w' hE hB hs
        have h36 : ρ (.tmp 36) = .bool false := hs 36 (by decide)
        have h37 : ρ (.tmp 37) = .bool false := hs 37 (by decide)
        have h40 : ρ (.tmp 40) = .bool false := hs 40 (by decide)
        clear hs
        refine if_t (by simp [Region.wanted, yieldedR, h36]) ?_
        (go_simp <;> exact wrapi64_in _ (by omega) (by omega))
      refine chain_val (.bool false) (S := [36, 41]) rfl ?_ ?_
      · intro ρ w' hE hB hs
        have h36 : ρ (.tmp 36) = .bool false := hs 36 (by decide)
        have h41 : ρ (.tmp 41) = .bool false := hs 41 (by decide)
        clear hs
        have hc := hE.const
        refine if_t (by rfl) ?_
        (go_simp <;> exact wrapi64_in _ (by omega) (by omega))
      refine chain_val (.bool false) (S := [42]) rfl ?_ ?_
      · intro ρ w' hE hB hs
        have h42 : ρ (.tmp 42) = .bool false := hs 42 (by decide)
        clear hs
        refine if_t (by rfl) ?_
        (go_simp <;> exact wrapi64_in _ (by omega) (by omega))
      refine chain_val (.bool true) (S := [8, 43]) rfl ?_ ?_
      · intro ρ w' hE hB hs
        have h8 : ρ (.tmp 8) = .bool true := hs 8 (by decide)
        have h43 : ρ (.tmp 43) = .bool false := hs 43 (by decide)
        clear hs
        refine if_t (by simp [Region.wanted, yieldedR, h43]) ?_
        (go_simp <;> exact wrapi64_in _ (by omega) (by omega))
      refine chain_val (.slice B m d) (S := [1, 43]) rfl ?_ ?_
      · intro ρ w' hE hB hs
        have h1 : ρ (.tmp 1) = .slice B m d := hs 1 (by decide)
        have h43 : ρ (.tmp 43) = .bool false := hs 43 (by decide)
        clear hs
        refine if_t (by simp [Region.wanted, yieldedR, h43]) ?_
        (go_simp <;> exact wrapi64_in _ (by omega) (by omega))
      refine chain_val (.int .i64 (m : Nat)) (S := [45, 43]) rfl ?_ ?_
      · intro ρ w' hE hB hs
        have h43 : ρ (.tmp 43) = .bool false := hs 43 (by decide)
        have h45 : ρ (.tmp 45) = .slice B m d := hs 45 (by decide)
        clear hs
        refine if_t (by simp [Region.wanted, yieldedR, h43]) ?_
        (go_simp <;> exact wrapi64_in _ (by omega) (by omega))
      refine chain_val (.bool true) (S := [46, 43]) rfl ?_ ?_
      · intro ρ w' hE hB hs
        have h43 : ρ (.tmp 43) = .bool false := hs 43 (by decide)
        have h46 : ρ (.tmp 46) = .int .i64 (m : Nat) := hs 46 (by decide)
        clear hs
        have hc := hE.const
        refine if_t (by simp [Region.wanted, yieldedR, h43]) ?_
        (go_simp <;> exact wrapi64_in _ (by omega) (by omega))
      refine chain_val (.bool false) (S := [44, 47, 43]) rfl ?_ ?_
      · intro ρ w' hE hB hs
        have h43 : ρ (.tmp 43) = .bool false := hs 43 (by decide)
        have h44 : ρ (.tmp 44) = .bool true := hs 44 (by decide)
        have h47 : ρ (.tmp 47) = .bool true := hs 47 (by decide)
        clear hs
        refine if_t (by simp [Region.wanted, yieldedR, h43]) ?_
        (go_simp <;> exact wrapi64_in _ (by omega) (by omega))
      refine chain_val (.bool false) (S := [43, 48]) rfl ?_ ?_
      · intro ρ w' hE hB hs
        have h43 : ρ (.tmp 43) = .bool false := hs 43 (by decide)
        have h48 : ρ (.tmp 48) = .bool false := hs 48 (by decide)
        clear hs
        have hc := hE.const
        refine if_t (by rfl) ?_
        (go_simp <;> exact wrapi64_in _ (by omega) (by omega))
      intro w1 hB1
      simp only [List.reverse_cons, List.reverse_nil, List.nil_append, List.cons_append, Go.Free.Ends, forall_eq, Act.put, List.setIfInBounds_toArray, List.set_cons_zero, List.set_cons_succ]
      rintro _ _ _ _ _ _
      have HBX5 := Lib.hid ((hB1.block _ (by simp; omega)).trans HBX2.out)
      have HBY5 := Lib.hid ((hB1.block _ (by simp)).trans HBY.out)
      have HB5 := Lib.hid (HB3.out.trans (hB1.mono HB3.out.size))
      clear hB1
      go_wp2_with fail
      refine (awake25 _).mono ?_
      rintro e w9 ⟨rfl, hb9⟩
      go_wp2
      go_ret
      exact ⟨rfl, HB5.out.trans (hb9.mono HB5.out.size)⟩
    | false =>
      obtain rfl := k4 rfl
      clear k3 k4
      go_enter Try.func3, Try.ntmps3
      go_wp2_with fail
      refine HZ1.out.mono ?_
      rintro e w1 ⟨rfl, hb1⟩
      have HB1 := Lib.hid hb1
      clear hb1
      go_wp2_with fail
      refine (HZ2.out _ ((H2.out.below HB1.out).alloc _)).mono ?_
      rintro e w2 ⟨rfl, hb2⟩
      have hbx := (hb2.block _ (by simp)).trans (heap_alloc_new w1 (.cells #[.int .i64 p1, .int .i64 p2, .int .i64 p3, .int .i64 p4] 24))
      have hl1 : w1.heap.size < w2.heap.size := lt_of_block hbx
      have HBX := Lib.hid hbx
      have HB2 := Lib.hid (HB1.out.trans ((((Below.refl w1.heap.size w1).alloc (Nat.le_refl _) _).trans (hb2.mono (by simp))).mono HB1.out.size))
      clear hb2 hbx
      go_wp2_with fail
      have HBY := Lib.hid (heap_alloc_new w2 (.cells #[.int .i64 q1, .int .i64 q2, .int .i64 q3, .int .i64 q4] 24))
      have HBX2 := Lib.hid ((Below.heap_alloc w2 (.cells #[.int .i64 q1, .int .i64 q2, .int .i64 q3, .int .i64 q4] 24) _ hl1).trans HBX.out)
      have HB3 := Lib.hid (HB2.out.alloc HB2.out.size (.cells #[.int .i64 q1, .int .i64 q2, .int .i64 q3, .int .i64 q4] 24))
      have HA3 := Lib.hid (H1.out.below HB3.out)
      refine wp_region_free 22 (by kernel_rfl) (by kernel_rfl) ?_
      refine chain_val (.agg #[.int .i64 p1, .int .i64 p2, .int .i64 p3, .int .i64 p4]) (S := [5]) rfl ?_ ?_
      · intro ρ w' hE hB hs
        have h5 : ρ (.tmp 5) = .pointer (some ⟨w1.heap.size, 0, none⟩) := hs 5 (by decide)
        clear hs
        refine if_t (by rfl) ?_
        have hl := run_loadVar_row (P := Try.prog) w' w1.heap.size 24 24 #[.int .i64 p1, .int .i64 p2, .int .i64 p3, .int .i64 p4] (0, 0) _ ((hB.block _ (by simp; omega)).trans HBX2.out) Try.underlying24 rfl sizeZ
        unfold execOp
        simp only [h5, Instr.loadAt, Instr.sureAddr, Sem.run_bind, Sem.run_pure, Result.andThen_ok, hl]
      refine chain_val (.slice A 0 c) (S := [0]) rfl ?_ ?_
      · intro ρ w' hE hB hs
        have h0 : ρ (.tmp 0) = .slice A 0 c := hs 0 (by decide)
        clear hs
        refine if_t (by rfl) ?_
        (go_simp <;> exact wrapi64_in _ (by omega) (by omega))
      refine chain_static (fun v__ _ => v__ = .agg #[.int .i64 p1, .int .i64 p2, .int .i64 p3, .int .i64 p4]) (stable_eq _) (S := [29]) rfl (Go.Cor.enters_f Try.func15 (by kernel_rfl) rfl) rfl ?_ ?_
      · intro ρ w' hE hB hs
        have h29 : ρ (.tmp 29) = .slice A 0 c := hs 29 (by decide)
        clear hs
        refine ⟨(by rfl), ?_⟩
        simp only [List.map_toArray, List.map_cons, List.map_nil, h29]
        refine (HR1.out w' (HA3.out.below hB)).mono ?_
        rintro e w'' ⟨rfl, hb⟩
        exact ⟨_, rfl, hb, rfl⟩
      refine chain_make (RdZF [⟨p1, p2, p3, p4⟩]) (RdZF.stable _) (S := [30]) rfl ?_ ?_
      · intro ρ w' hE hB hs
        have h30 : ρ (.tmp 30) = .agg #[.int .i64 p1, .int .i64 p2, .int .i64 p3, .int .i64 p4] := hs 30 (by decide)
        clear hs
        exact ⟨(by rfl), .slice (some ⟨w'.heap.size, 0, none⟩) 1 1, w'.alloc (.cells (#[.int .i64 p1, .int .i64 p2, .int .i64 p3, .int .i64 p4]) 29), (by go_simp), (Below.refl _ _).alloc (Nat.le_refl _) _, ⟨_, _, _, rfl, RdZ.lit w' 29 ⟨p1, p2, p3, p4⟩⟩⟩
      refine chain_static (RdZF [⟨p1, p2, p3, p4⟩]) (RdZF.stable _) (S := [31]) rfl (Go.Cor.enters_f Try.func14 (by kernel_rfl) rfl) rfl ?_ ?_
      · intro ρ w' hE hB hs
        have h31 : (RdZF [⟨p1, p2, p3, p4⟩]) (ρ (.tmp 31)) w' := hs 31 (by decide)
        clear hs
        obtain ⟨A31, n31, c31, e31, r31⟩ := h31
        refine ⟨(by rfl), ?_⟩
        simp only [List.map_toArray, List.map_cons, List.map_nil, e31]
        exact own1_any _ _ _ _ w' r31
      refine chain_fact (ZPF ⟨p1, p2, p3, p4⟩) (ZPF.stable _) (S := [32]) rfl ?_ ?_
      · intro ρ w' hE hB hs
        have h32 : (RdZF [⟨p1, p2, p3, p4⟩]) (ρ (.tmp 32)) w' := hs 32 (by decide)
        clear hs
        have hc := hE.const
        refine if_t (by rfl) ?_
        obtain ⟨b, o, c', e, hc1, hb, hr⟩ := RdZF.at0 h32
        refine ⟨.pointer (some ⟨b, o, none⟩), ?_, b, o, rfl, hb, hr⟩
        go_simp
      refine chain_val (.agg #[.int .i64 p1, .int .i64 p2, .int .i64 p3, .int .i64 p4]) (S := [33]) rfl ?_ ?_
      · intro ρ w' hE hB hs
        have h33 : (ZPF ⟨p1, p2, p3, p4⟩) (ρ (.tmp 33)) w' := hs 33 (by decide)
        clear hs
        refine if_t (by rfl) ?_
        obtain ⟨b, o, e, hb, hr⟩ := h33
        have hl := run_loadVar_mid (P := Try.prog) w' b o 24 _ _ hr Try.underlying24 rfl sizeZ
        unfold execOp
        simp only [e, Instr.loadAt, Instr.sureAddr, Sem.run_bind, Sem.run_pure, Result.andThen_ok, hl]
        rfl
      refine chain_val (.bool false) (S := [28, 34]) rfl ?_ ?_
      · intro ρ w' hE hB hs
        have h28 : ρ (.tmp 28) = .agg #[.int .i64 p1, .int .i64 p2, .int .i64 p3, .int .i64 p4] := hs 28 (by decide)
        have h34 : ρ (.tmp 34) = .agg #[.int .i64 p1, .int .i64 p2, .int .i64 p3, .int .i64 p4] := hs 34 (by decide)
        clear hs
        refine if_t (by rfl) ?_
        (go_simp <;> exact wrapi64_in _ (by omega) (by omega))
      refine chain_val (.bool false) (S := [35]) rfl ?_ ?_
      · intro ρ w' hE hB hs
        have h35 : ρ (.tmp 35) = .bool false := hs 35 (by decide)
        clear hs
        refine if_t (by rfl) ?_
        (go_simp <;> exact wrapi64_in _ (by omega) (by omega))
      refine chain_val (.bool false) (S := [6, 36]) rfl ?_ ?_
      · intro ρ w' hE hB hs
        have h6 : ρ (.tmp 6) = .bool false := hs 6 (by decide)
        have h36 : ρ (.tmp 36) = .bool false := hs 36 (by decide)
        clear hs
        refine if_t (by simp [Region.wanted, yieldedR, h36]) ?_
        (go_simp <;> exact wrapi64_in _ (by omega) (by omega))
      refine chain_val (.slice A 0 c) (S := [0, 36]) rfl ?_ ?_
      · intro ρ w' hE hB hs
        have h0 : ρ (.tmp 0) = .slice A 0 c := hs 0 (by decide)
        have h36 : ρ (.tmp 36) = .bool false := hs 36 (by decide)
        clear hs
        refine if_t (by simp [Region.wanted, yieldedR, h36]) ?_
        (go_simp <;> exact wrapi64_in _ (by omega) (by omega))
      refine chain_val (.int .i64 (0 : Nat)) (S := [38, 36]) rfl ?_ ?_
      · intro ρ w' hE hB hs
        have h36 : ρ (.tmp 36) = .bool false := hs 36 (by decide)
        have h38 : ρ (.tmp 38) = .slice A 0 c := hs 38 (by decide)
        clear hs
        refine if_t (by simp [Region.wanted, yieldedR, h36]) ?_
        (go_simp <;> exact wrapi64_in _ (by omega) (by omega))
      refine chain_val (.bool false) (S := [39, 36]) rfl ?_ ?_
      · intro ρ w' hE hB hs
        have h36 : ρ (.tmp 36) = .bool false := hs 36 (by decide)
        have h39 : ρ (.tmp 39) = .int .i64 (0 : Nat) := hs 39 (by decide)
        clear hs
        have hc := hE.const
        refine if_t (by simp [Region.wanted, yieldedR, h36]) ?_
        (go_simp <;> exact wrapi64_in _ (by omega) (by omega))
      refine chain_val (.bool false) (S := [37, 40, 36]) rfl ?_ ?_
      · intro ρ w' hE hB hs
        have h36 : ρ (.tmp 36) = .bool false := hs 36 (by decide)
        have h37 : ρ (.tmp 37) = .bool false := hs 37 (by decide)
        have h40 : ρ (.tmp 40) = .bool false := hs 40 (by decide)
        clear hs
        refine if_t (by simp [Region.wanted, yieldedR, h36]) ?_
        (go_simp <;> exact wrapi64_in _ (by omega) (by omega))
      refine chain_val (.bool false) (S := [36, 41]) rfl ?_ ?_
      · intro ρ w' hE hB hs
        have h36 : ρ (.tmp 36) = .bool false := hs 36 (by decide)
        have h41 : ρ (.tmp 41) = .bool false := hs 41 (by decide)
        clear hs
        have hc := hE.const
        refine if_t (by rfl) ?_
        (go_simp <;> exact wrapi64_in _ (by omega) (by omega))
      refine chain_val (.bool false) (S := [42]) rfl ?_ ?_
      · intro ρ w' hE hB hs
        have h42 : ρ (.tmp 42) = .bool false := hs 42 (by decide)
        clear hs
        refine if_t (by rfl) ?_
        (go_simp <;> exact wrapi64_in _ (by omega) (by omega))
      refine chain_val (.bool false) (S := [8, 43]) rfl ?_ ?_
      · intro ρ w' hE hB hs
        have h8 : ρ (.tmp 8) = .bool false := hs 8 (by decide)
        have h43 : ρ (.tmp 43) = .bool false := hs 43 (by decide)
        clear hs
        refine if_t (by simp [Region.wanted, yieldedR, h43]) ?_
        (go_simp <;> exact wrapi64_in _ (by omega) (by omega))
      refine chain_val (.slice B 0 d) (S := [1, 43]) rfl ?_ ?_
      · intro ρ w' hE hB hs
        have h1 : ρ (.tmp 1) = .slice B 0 d := hs 1 (by decide)
        have h43 : ρ (.tmp 43) = .bool false := hs 43 (by decide)
        clear hs
        refine if_t (by simp [Region.wanted, yieldedR, h43]) ?_
        (go_simp <;> exact wrapi64_in _ (by omega) (by omega))
      refine chain_val (.int .i64 (0 : Nat)) (S := [45, 43]) rfl ?_ ?_
      · intro ρ w' hE hB hs
        have h43 : ρ (.tmp 43) = .bool false := hs 43 (by decide)
        have h45 : ρ (.tmp 45) = .slice B 0 d := hs 45 (by decide)
        clear hs
        refine if_t (by simp [Region.wanted, yieldedR, h43]) ?_
        (go_simp <;> exact wrapi64_in _ (by omega) (by omega))
      refine chain_val (.bool false) (S := [46, 43]) rfl ?_ ?_
      · intro ρ w' hE hB hs
        have h43 : ρ (.tmp 43) = .bool false := hs 43 (by decide)
        have h46 : ρ (.tmp 46) = .int .i64 (0 : Nat) := hs 46 (by decide)
        clear hs
        have hc := hE.const
        refine if_t (by simp [Region.wanted, yieldedR, h43]) ?_
        (go_simp <;> exact wrapi64_in _ (by omega) (by omega))
      refine chain_val (.bool false) (S := [44, 47, 43]) rfl ?_ ?_
      · intro ρ w' hE hB hs
        have h43 : ρ (.tmp 43) = .bool false := hs 43 (by decide)
        have h44 : ρ (.tmp 44) = .bool false := hs 44 (by decide)
        have h47 : ρ (.tmp 47) = .bool false := hs 47 (by decide)
        clear hs
        refine if_t (by simp [Region.wanted, yieldedR, h43]) ?_
        (go_simp <;> exact wrapi64_in _ (by omega) (by omega))
      refine chain_val (.bool false) (S := [43, 48]) rfl ?_ ?_
      · intro ρ w' hE hB hs
        have h43 : ρ (.tmp 43) = .bool false := hs 43 (by decide)
        have h48 : ρ (.tmp 48) = .bool false := hs 48 (by decide)
        clear hs
        have hc := hE.const
        refine if_t (by rfl) ?_
        (go_simp <;> exact wrapi64_in _ (by omega) (by omega))
      intro w1 hB1
      simp only [List.reverse_cons, List.reverse_nil, List.nil_append, List.cons_append, Go.Free.Ends, forall_eq, Act.put, List.setIfInBounds_toArray, List.set_cons_zero, List.set_cons_succ]
      rintro _ _ _ _ _ _
      have HBX5 := Lib.hid ((hB1.block _ (by simp; omega)).trans HBX2.out)
      have HBY5 := Lib.hid ((hB1.block _ (by simp)).trans HBY.out)
      have HB5 := Lib.hid (HB3.out.trans (hB1.mono HB3.out.size))
      clear hB1
      go_wp2_with fail
      refine (awake25 _).mono ?_
      rintro e w9 ⟨rfl, hb9⟩
      go_wp2
      go_ret
      exact ⟨rfl, HB5.out.trans (hb9.mono HB5.out.size)⟩

namespace zoneTells
open Go.ChangeShapes Go.WideShapes Go.ChangeAt Go.RowKit Go.Cor
set_option linter.unusedVariables false

set_option maxRecDepth 100000 in
theorem lifted (os : Os) (started : os.Started) (H : Type) (enc : TypeId × Value → H) :
    ReturnsInHanded {} Try.checked os 3 .any (Rows.zoneTellsSpec.pre6 enc Try.prog Try.f3 Rows.zoneTellsRow.domain false) (Rows.zoneTellsSpec.post enc Try.prog Try.f3 false true false false) := by
  refine returnsInHanded_of_change (C := Try.checked) (by kernel_rfl : ownKnob Try.prog.godebug = none) started (by kernel_rfl) Try.func3
    (ChangeSpec.witness6 (enc := enc) (C := Try.checked) false ⟨#[], #[.slice none 0 0, .slice none 0 0], []⟩ 8 (by kernel_rfl) (by kernel_rfl) (by kernel_rfl) (by kernel_rfl)) ?_
  intro W base args ds gs before hval0 hW hcnd _
  have hval : ∀ (j : Nat) t v, Try.f3.params[j]? = some t → args[j]? = some v → Value.okWide Try.prog W .any base t v := hval0
  have hW' := hW
  obtain ⟨p, q, hA0, hV, rfl, hfz, hnd⟩ := hW
  have hA : DataW.TrodAll enc Try.prog W 0 (fun _ => true) true Try.f3.params.toList args.toList ds p := hA0
  rw [Try.params3] at hA hval
  obtain ⟨v0, vs0, d0, ds0, p0, q0, hargs, rfl, rfl, h0, r0⟩ := trodAll_cons hA
  obtain ⟨v1, vs1, d1, ds1, p1, q1, rfl, rfl, rfl, h1, r1⟩ := trodAll_cons r0
  obtain ⟨rfl, rfl, rfl⟩ := trodAll_nil r1
  obtain rfl : args = #[v0, v1] := by cases args; simp_all
  obtain ⟨rfl, rfl⟩ := trodVars_none hV
  obtain ⟨a0, len0, cap0, rfl⟩ := okWide_slice Try.underlying22 (hval 0 22 v0 rfl rfl)
  have k0 := h0
  have lt0 : ∀ x ∈ p0, x.block < W.heap.size := by obtain ⟨m, hm⟩ := k0; exact DataW.trod_lt m _ _ _ hm
  obtain ⟨x0, g0, b0⟩ : ∃ xs, Rd W .i64 a0 len0 cap0 xs ∧ In .i64 xs := by
    obtain ⟨fuel, hf⟩ := h0
    rcases open_ints Try.underlying22 Try.underlying2 (by kernel_rfl) hf with ⟨hcs, _⟩ | ⟨x, l, c, zs, hcs, _, hl, hm, hz, _, hcell, hwz⟩
    · simp [Value.cells] at hcs
      obtain ⟨rfl, rfl, rfl⟩ := hcs
      exact ⟨[], Rd.nilv _ _, fun _ h => by cases h⟩
    · simp [Value.cells] at hcs
      obtain ⟨rfl, rfl, rfl⟩ := hcs
      exact Rd.of_row hl hm hz hcell hwz
  obtain ⟨a1, len1, cap1, rfl⟩ := okWide_slice Try.underlying22 (hval 1 22 v1 rfl rfl)
  have k1 := h1
  have lt1 : ∀ x ∈ p1, x.block < W.heap.size := by obtain ⟨m, hm⟩ := k1; exact DataW.trod_lt m _ _ _ hm
  obtain ⟨x1, g1, b1⟩ : ∃ xs, Rd W .i64 a1 len1 cap1 xs ∧ In .i64 xs := by
    obtain ⟨fuel, hf⟩ := h1
    rcases open_ints Try.underlying22 Try.underlying2 (by kernel_rfl) hf with ⟨hcs, _⟩ | ⟨x, l, c, zs, hcs, _, hl, hm, hz, _, hcell, hwz⟩
    · simp [Value.cells] at hcs
      obtain ⟨rfl, rfl, rfl⟩ := hcs
      exact ⟨[], Rd.nilv _ _, fun _ h => by cases h⟩
    · simp [Value.cells] at hcs
      obtain ⟨rfl, rfl, rfl⟩ := hcs
      exact Rd.of_row hl hm hz hcell hwz
  clear hA0 hval0
  refine (ZoneTells_walk W a0 len0 cap0 x0 g0 b0 a1 len1 cap1 x1 g1 b1).mono fun e W' ⟨he, bel⟩ => ?_
  subst he
  exact ⟨_, rfl, _, _, _, [], _, [], hW', trodAll_mk1 (shut_bool Try.underlying4 _), (trodAll_cons_mk (Below.trod (by kernel_rfl : laidOutB Try.prog = true) (by kernel_rfl) (of_decide_eq_true (by kernel_rfl)) k0 bel lt0) (trodAll_cons_mk (Below.trod (by kernel_rfl : laidOutB Try.prog = true) (by kernel_rfl) (of_decide_eq_true (by kernel_rfl)) k1 bel lt1) trodAll_mk0)), rfl, bel.frame _, fun h => by cases h⟩

theorem proved : Rows.ZoneTellsSaid :=
  OpenClaim.holds_of_wide 3 Try.f3 rfl rfl rfl rfl rfl rfl rfl ⟨rfl, rfl, rfl, rfl, rfl⟩ rfl rfl rfl rfl rfl (by kernel_rfl) Try.func3 (by kernel_rfl)
    (of_decide_eq_true (by kernel_rfl)) (by unfold Func.isWrapper; first | (rw [if_pos (by decide +kernel)]; kernel_rfl) | (rw [if_neg (by decide +kernel)]; exact ⟨rfl, rfl⟩))
    (fun os started H enc _ => lifted os started H enc)
#print axioms proved
end zoneTells
end Go.Proofs.Ythpndhdpohmoaaa
