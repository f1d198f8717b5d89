/-
  CursorPuts: for every input the law returns true; the argument reads behind the call as it read before. No condition.
-/
import Derived.Test.YthpndhdpohmoaaaCurP
import Derived.ChangeOld
namespace Go.Cor
theorem leb_mod (v m : Nat) : leb (v % 256 ^ m) m = leb v m := by
  unfold leb
  refine List.map_congr_left fun j hj => ?_
  have hj' : j < m := by simpa using hj
  have e : 256 ^ m = 256 ^ j * 256 ^ (m - j) := by rw [← Nat.pow_add]; congr 1; omega
  rw [e, Nat.mod_mul_right_div_self]
  rw [Nat.mod_mod_of_dvd _ (by rw [show m - j = (m - j - 1) + 1 by omega, Nat.pow_succ]; exact Nat.dvd_mul_left _ _)]
end Go.Cor
namespace Go.Proofs.Ythpndhdpohmoaaa
open Go.RowKit Go.Cor Go.Free

set_option maxRecDepth 100000 in
set_option maxHeartbeats 4000000 in
theorem CursorPuts_walk (W : World) (A : Option Addr) (n c : Nat) (xs : List Int) (h : Rd W .u8 A n c xs) (_hi : In .u8 xs) (v : Int) (hv : Fits .u64 v) :
    Calls Try.prog 5 #[.slice A n c, .int .u64 v] W fun e w' => e = .returned (.bool true) ∧ Below W.heap.size W w' := by
  by_cases hn : 200 < n
  · clear h _hi hv
    go_enter Try.func5, Try.ntmps5
    go_wp2
    go_ret
    exact ⟨rfl, Below.refl _ _⟩
  · have hn2 : n ≤ 200 := by omega
    obtain ⟨v, rfl⟩ := Int.eq_ofNat_of_zero_le hv.1
    have hv2 := hv.2
    have H := Lib.hid h
    have L2 := leb_mod v 2
    have L4 := leb_mod v 4
    have HL2 := Lib.hid L2
    have HL4 := Lib.hid L4
    clear h _hi hv L2 L4
    go_enter Try.func5, Try.ntmps5
    go_wp2
    refine wp_region_free 12 (by kernel_rfl) (by kernel_rfl) ?_
    refine chain_val (.slice A n c) (S := [0]) rfl ?_ ?_
    · intro ρ w' hE hB hs
      have h0 : ρ (.tmp 0) = .slice A n c := hs 0 (by decide)
      clear hs
      refine if_t (by rfl) ?_
      (go_simp <;> exact wrapi64_in _ (by omega) (by omega))
    refine chain_val (.int .u64 (v : Int)) (S := [1]) rfl ?_ ?_
    · intro ρ w' hE hB hs
      have h1 : ρ (.tmp 1) = .int .u64 (v : Int) := hs 1 (by decide)
      clear hs
      refine if_t (by rfl) ?_
      (go_simp <;> exact wrapi64_in _ (by omega) (by omega))
    refine chain_val (.int .u16 ((v % 65536 : Nat) : Int)) (S := [11]) rfl ?_ ?_
    · intro ρ w' hE hB hs
      have h11 : ρ (.tmp 11) = .int .u64 (v : Int) := hs 11 (by decide)
      clear hs
      refine if_t (by rfl) ?_
      go_simp
      rw [wrapu16]
    refine chain_static (RdF .u8 (xs ++ leb v 2)) (RdF.stable _ _) (S := [10, 12]) rfl (Go.Cor.enters_f Try.func22 (by kernel_rfl) rfl) rfl ?_ ?_
    · intro ρ w' hE hB hs
      have h10 : ρ (.tmp 10) = .slice A n c := hs 10 (by decide)
      have h12 : ρ (.tmp 12) = .int .u16 ((v % 65536 : Nat) : Int) := hs 12 (by decide)
      clear hs
      refine ⟨(by rfl), ?_⟩
      simp only [List.map_toArray, List.map_cons, List.map_nil, h10, h12]
      refine (Put16_any _ _ _ _ _ _ (H.out.below hB) (by omega) (by omega)).mono ?_
      rintro e w3 ⟨A', n', c', rfl, ho, hb⟩
      have ho2 := ho
      rw [show (65536 : Nat) = 256 ^ 2 by decide, HL2.out] at ho2
      exact ⟨_, rfl, hb, A', n', c', rfl, Rd.own ho2⟩
    refine chain_val (.string (strOfNums (xs ++ leb v 2))) (S := [13]) rfl ?_ ?_
    · intro ρ w' hE hB hs
      have h13 : (RdF .u8 (xs ++ leb v 2)) (ρ (.tmp 13)) w' := hs 13 (by decide)
      clear hs
      refine if_t (by rfl) ?_
      obtain ⟨A13, n13, c13, e13, r13⟩ := h13
      have hcv := conv_bytes r13 38 5 9 Try.underlying38 Try.underlying5 Try.underlying9
      clear r13
      go_simp
    refine chain_val (.slice A n c) (S := [0]) rfl ?_ ?_
    · intro ρ w' hE hB hs
      have h0 : ρ (.tmp 0) = .slice A n c := hs 0 (by decide)
      clear hs
      refine if_t (by rfl) ?_
      (go_simp <;> exact wrapi64_in _ (by omega) (by omega))
    refine chain_val (.string (strOfNums xs)) (S := [15]) rfl ?_ ?_
    · intro ρ w' hE hB hs
      have h15 : ρ (.tmp 15) = .slice A n c := hs 15 (by decide)
      clear hs
      refine if_t (by rfl) ?_
      have hcv := conv_bytes (H.out.below hB) 38 5 9 Try.underlying38 Try.underlying5 Try.underlying9
      go_simp
    refine chain_val (.int .u64 (v : Int)) (S := [1]) rfl ?_ ?_
    · intro ρ w' hE hB hs
      have h1 : ρ (.tmp 1) = .int .u64 (v : Int) := hs 1 (by decide)
      clear hs
      refine if_t (by rfl) ?_
      (go_simp <;> exact wrapi64_in _ (by omega) (by omega))
    refine chain_static (RdF .u8 (leb v 2)) (RdF.stable _ _) (S := [17]) rfl (Go.Cor.enters_f Try.func23 (by kernel_rfl) rfl) rfl ?_ ?_
    · intro ρ w' hE hB hs
      have h17 : ρ (.tmp 17) = .int .u64 (v : Int) := hs 17 (by decide)
      clear hs
      have hc := hE.const
      refine ⟨(by rfl), ?_⟩
      simp only [List.map_toArray, List.map_cons, List.map_nil, hc, h17]
      refine (refPut_any v 2 _ hv2 (by decide)).mono ?_
      rintro e w3 ⟨A', n', c', rfl, ho, hb⟩
      exact ⟨_, rfl, hb, A', n', c', rfl, Rd.own ho⟩
    refine chain_val (.string (strOfNums (leb v 2))) (S := [18]) rfl ?_ ?_
    · intro ρ w' hE hB hs
      have h18 : (RdF .u8 (leb v 2)) (ρ (.tmp 18)) w' := hs 18 (by decide)
      clear hs
      refine if_t (by rfl) ?_
      obtain ⟨A18, n18, c18, e18, r18⟩ := h18
      have hcv := conv_bytes r18 38 5 9 Try.underlying38 Try.underlying5 Try.underlying9
      clear r18
      go_simp
    refine chain_val (.string (strOfNums (xs ++ leb v 2))) (S := [16, 19]) rfl ?_ ?_
    · intro ρ w' hE hB hs
      have h16 : ρ (.tmp 16) = .string (strOfNums xs) := hs 16 (by decide)
      have h19 : ρ (.tmp 19) = .string (strOfNums (leb v 2)) := hs 19 (by decide)
      clear hs
      refine if_t (by rfl) ?_
      rw [strOfNums_append]
      go_simp
      (have hl := H.out.len; simp only [str_size, leb_len]; omega)
    refine chain_val (.bool true) (S := [14, 20]) rfl ?_ ?_
    · intro ρ w' hE hB hs
      have h14 : ρ (.tmp 14) = .string (strOfNums (xs ++ leb v 2)) := hs 14 (by decide)
      have h20 : ρ (.tmp 20) = .string (strOfNums (xs ++ leb v 2)) := hs 20 (by decide)
      clear hs
      refine if_t (by rfl) ?_
      go_simp
    intro w1 hB1
    simp only [List.reverse_cons, List.reverse_nil, List.nil_append, List.cons_append, Go.Free.Ends, forall_eq, Act.put, List.setIfInBounds_toArray, List.set_cons_zero, List.set_cons_succ]
    rintro _ _ _ _
    have HB1 := Lib.hid hB1
    clear hB1
    go_wp2
    refine wp_region_free 12 (by kernel_rfl) (by kernel_rfl) ?_
    refine chain_val (.slice A n c) (S := [0]) rfl ?_ ?_
    · intro ρ w' hE hB hs
      have h0 : ρ (.tmp 0) = .slice A n c := hs 0 (by decide)
      clear hs
      refine if_t (by rfl) ?_
      (go_simp <;> exact wrapi64_in _ (by omega) (by omega))
    refine chain_val (.int .u64 (v : Int)) (S := [1]) rfl ?_ ?_
    · intro ρ w' hE hB hs
      have h1 : ρ (.tmp 1) = .int .u64 (v : Int) := hs 1 (by decide)
      clear hs
      refine if_t (by rfl) ?_
      (go_simp <;> exact wrapi64_in _ (by omega) (by omega))
    refine chain_val (.int .u32 ((v % 4294967296 : Nat) : Int)) (S := [23]) rfl ?_ ?_
    · intro ρ w' hE hB hs
      have h23 : ρ (.tmp 23) = .int .u64 (v : Int) := hs 23 (by decide)
      clear hs
      refine if_t (by rfl) ?_
      go_simp
      rw [wrapu32]
    refine chain_static (RdF .u8 (xs ++ leb v 4)) (RdF.stable _ _) (S := [22, 24]) rfl (Go.Cor.enters_f Try.func24 (by kernel_rfl) rfl) rfl ?_ ?_
    · intro ρ w' hE hB hs
      have h22 : ρ (.tmp 22) = .slice A n c := hs 22 (by decide)
      have h24 : ρ (.tmp 24) = .int .u32 ((v % 4294967296 : Nat) : Int) := hs 24 (by decide)
      clear hs
      refine ⟨(by rfl), ?_⟩
      simp only [List.map_toArray, List.map_cons, List.map_nil, h22, h24]
      refine (Put32_any _ _ _ _ _ _ ((H.out.below HB1.out).below hB) (by omega) (by omega)).mono ?_
      rintro e w3 ⟨A', n', c', rfl, ho, hb⟩
      have ho2 := ho
      rw [show (4294967296 : Nat) = 256 ^ 4 by decide, HL4.out] at ho2
      exact ⟨_, rfl, hb, A', n', c', rfl, Rd.own ho2⟩
    refine chain_val (.string (strOfNums (xs ++ leb v 4))) (S := [25]) rfl ?_ ?_
    · intro ρ w' hE hB hs
      have h25 : (RdF .u8 (xs ++ leb v 4)) (ρ (.tmp 25)) w' := hs 25 (by decide)
      clear hs
      refine if_t (by rfl) ?_
      obtain ⟨A25, n25, c25, e25, r25⟩ := h25
      have hcv := conv_bytes r25 38 5 9 Try.underlying38 Try.underlying5 Try.underlying9
      clear r25
      go_simp
    refine chain_val (.slice A n c) (S := [0]) rfl ?_ ?_
    · intro ρ w' hE hB hs
      have h0 : ρ (.tmp 0) = .slice A n c := hs 0 (by decide)
      clear hs
      refine if_t (by rfl) ?_
      (go_simp <;> exact wrapi64_in _ (by omega) (by omega))
    refine chain_val (.string (strOfNums xs)) (S := [27]) rfl ?_ ?_
    · intro ρ w' hE hB hs
      have h27 : ρ (.tmp 27) = .slice A n c := hs 27 (by decide)
      clear hs
      refine if_t (by rfl) ?_
      have hcv := conv_bytes ((H.out.below HB1.out).below hB) 38 5 9 Try.underlying38 Try.underlying5 Try.underlying9
      go_simp
    refine chain_val (.int .u64 (v : Int)) (S := [1]) rfl ?_ ?_
    · intro ρ w' hE hB hs
      have h1 : ρ (.tmp 1) = .int .u64 (v : Int) := hs 1 (by decide)
      clear hs
      refine if_t (by rfl) ?_
      (go_simp <;> exact wrapi64_in _ (by omega) (by omega))
    refine chain_static (RdF .u8 (leb v 4)) (RdF.stable _ _) (S := [29]) rfl (Go.Cor.enters_f Try.func23 (by kernel_rfl) rfl) rfl ?_ ?_
    · intro ρ w' hE hB hs
      have h29 : ρ (.tmp 29) = .int .u64 (v : Int) := hs 29 (by decide)
      clear hs
      have hc := hE.const
      refine ⟨(by rfl), ?_⟩
      simp only [List.map_toArray, List.map_cons, List.map_nil, hc, h29]
      refine (refPut_any v 4 _ hv2 (by decide)).mono ?_
      rintro e w3 ⟨A', n', c', rfl, ho, hb⟩
      exact ⟨_, rfl, hb, A', n', c', rfl, Rd.own ho⟩
    refine chain_val (.string (strOfNums (leb v 4))) (S := [30]) rfl ?_ ?_
    · intro ρ w' hE hB hs
      have h30 : (RdF .u8 (leb v 4)) (ρ (.tmp 30)) w' := hs 30 (by decide)
      clear hs
      refine if_t (by rfl) ?_
      obtain ⟨A30, n30, c30, e30, r30⟩ := h30
      have hcv := conv_bytes r30 38 5 9 Try.underlying38 Try.underlying5 Try.underlying9
      clear r30
      go_simp
    refine chain_val (.string (strOfNums (xs ++ leb v 4))) (S := [28, 31]) rfl ?_ ?_
    · intro ρ w' hE hB hs
      have h28 : ρ (.tmp 28) = .string (strOfNums xs) := hs 28 (by decide)
      have h31 : ρ (.tmp 31) = .string (strOfNums (leb v 4)) := hs 31 (by decide)
      clear hs
      refine if_t (by rfl) ?_
      rw [strOfNums_append]
      go_simp
      (have hl := H.out.len; simp only [str_size, leb_len]; omega)
    refine chain_val (.bool true) (S := [26, 32]) rfl ?_ ?_
    · intro ρ w' hE hB hs
      have h26 : ρ (.tmp 26) = .string (strOfNums (xs ++ leb v 4)) := hs 26 (by decide)
      have h32 : ρ (.tmp 32) = .string (strOfNums (xs ++ leb v 4)) := hs 32 (by decide)
      clear hs
      refine if_t (by rfl) ?_
      go_simp
    intro w1 hB1
    simp only [List.reverse_cons, List.reverse_nil, List.nil_append, List.cons_append, Go.Free.Ends, forall_eq, Act.put, List.setIfInBounds_toArray, List.set_cons_zero, List.set_cons_succ]
    rintro _ _ _ _
    have HB2 := Lib.hid (HB1.out.trans (hB1.mono HB1.out.size))
    clear hB1
    go_wp2
    refine wp_region_free 20 (by kernel_rfl) (by kernel_rfl) ?_
    refine chain_val (.bool true) (S := [5]) rfl ?_ ?_
    · intro ρ w' hE hB hs
      have h5 : ρ (.tmp 5) = .bool true := hs 5 (by decide)
      clear hs
      refine if_t (by rfl) ?_
      (go_simp <;> exact wrapi64_in _ (by omega) (by omega))
    refine chain_val (.bool true) (S := [34]) rfl ?_ ?_
    · intro ρ w' hE hB hs
      have h34 : ρ (.tmp 34) = .bool true := hs 34 (by decide)
      clear hs
      refine if_t (by rfl) ?_
      (go_simp <;> exact wrapi64_in _ (by omega) (by omega))
    refine chain_val (.bool true) (S := [6, 35]) rfl ?_ ?_
    · intro ρ w' hE hB hs
      have h6 : ρ (.tmp 6) = .bool true := hs 6 (by decide)
      have h35 : ρ (.tmp 35) = .bool true := hs 35 (by decide)
      clear hs
      refine if_t (by simp [Region.wanted, yieldedR, h35]) ?_
      (go_simp <;> exact wrapi64_in _ (by omega) (by omega))
    refine chain_val (.bool true) (S := [35, 36]) rfl ?_ ?_
    · intro ρ w' hE hB hs
      have h35 : ρ (.tmp 35) = .bool true := hs 35 (by decide)
      have h36 : ρ (.tmp 36) = .bool true := hs 36 (by decide)
      clear hs
      have hc := hE.const
      refine if_t (by rfl) ?_
      (go_simp <;> exact wrapi64_in _ (by omega) (by omega))
    refine chain_val (.bool true) (S := [37]) rfl ?_ ?_
    · intro ρ w' hE hB hs
      have h37 : ρ (.tmp 37) = .bool true := hs 37 (by decide)
      clear hs
      refine if_t (by rfl) ?_
      (go_simp <;> exact wrapi64_in _ (by omega) (by omega))
    refine chain_val (.slice A n c) (S := [0, 38]) rfl ?_ ?_
    · intro ρ w' hE hB hs
      have h0 : ρ (.tmp 0) = .slice A n c := hs 0 (by decide)
      have h38 : ρ (.tmp 38) = .bool true := hs 38 (by decide)
      clear hs
      refine if_t (by simp [Region.wanted, yieldedR, h38]) ?_
      (go_simp <;> exact wrapi64_in _ (by omega) (by omega))
    refine chain_val (.int .u64 (v : Int)) (S := [1, 38]) rfl ?_ ?_
    · intro ρ w' hE hB hs
      have h1 : ρ (.tmp 1) = .int .u64 (v : Int) := hs 1 (by decide)
      have h38 : ρ (.tmp 38) = .bool true := hs 38 (by decide)
      clear hs
      refine if_t (by simp [Region.wanted, yieldedR, h38]) ?_
      (go_simp <;> exact wrapi64_in _ (by omega) (by omega))
    refine chain_static (RdF .u8 (xs ++ leb v 8)) (RdF.stable _ _) (S := [39, 40, 38]) rfl (Go.Cor.enters_f Try.func25 (by kernel_rfl) rfl) rfl ?_ ?_
    · intro ρ w' hE hB hs
      have h38 : ρ (.tmp 38) = .bool true := hs 38 (by decide)
      have h39 : ρ (.tmp 39) = .slice A n c := hs 39 (by decide)
      have h40 : ρ (.tmp 40) = .int .u64 (v : Int) := hs 40 (by decide)
      clear hs
      refine ⟨(by simp [Region.wanted, yieldedR, h38]), ?_⟩
      simp only [List.map_toArray, List.map_cons, List.map_nil, h39, h40]
      refine (Put64_any _ _ _ _ _ _ ((H.out.below HB2.out).below hB) (by omega) hv2).mono ?_
      rintro e w3 ⟨A', n', c', rfl, ho, hb⟩
      exact ⟨_, rfl, hb, A', n', c', rfl, Rd.own ho⟩
    refine chain_val (.string (strOfNums (xs ++ leb v 8))) (S := [41, 38]) rfl ?_ ?_
    · intro ρ w' hE hB hs
      have h38 : ρ (.tmp 38) = .bool true := hs 38 (by decide)
      have h41 : (RdF .u8 (xs ++ leb v 8)) (ρ (.tmp 41)) w' := hs 41 (by decide)
      clear hs
      refine if_t (by simp [Region.wanted, yieldedR, h38]) ?_
      obtain ⟨A41, n41, c41, e41, r41⟩ := h41
      have hcv := conv_bytes r41 38 5 9 Try.underlying38 Try.underlying5 Try.underlying9
      clear r41
      go_simp
    refine chain_val (.slice A n c) (S := [0, 38]) rfl ?_ ?_
    · intro ρ w' hE hB hs
      have h0 : ρ (.tmp 0) = .slice A n c := hs 0 (by decide)
      have h38 : ρ (.tmp 38) = .bool true := hs 38 (by decide)
      clear hs
      refine if_t (by simp [Region.wanted, yieldedR, h38]) ?_
      (go_simp <;> exact wrapi64_in _ (by omega) (by omega))
    refine chain_val (.string (strOfNums xs)) (S := [43, 38]) rfl ?_ ?_
    · intro ρ w' hE hB hs
      have h38 : ρ (.tmp 38) = .bool true := hs 38 (by decide)
      have h43 : ρ (.tmp 43) = .slice A n c := hs 43 (by decide)
      clear hs
      refine if_t (by simp [Region.wanted, yieldedR, h38]) ?_
      have hcv := conv_bytes ((H.out.below HB2.out).below hB) 38 5 9 Try.underlying38 Try.underlying5 Try.underlying9
      go_simp
    refine chain_val (.int .u64 (v : Int)) (S := [1, 38]) rfl ?_ ?_
    · intro ρ w' hE hB hs
      have h1 : ρ (.tmp 1) = .int .u64 (v : Int) := hs 1 (by decide)
      have h38 : ρ (.tmp 38) = .bool true := hs 38 (by decide)
      clear hs
      refine if_t (by simp [Region.wanted, yieldedR, h38]) ?_
      (go_simp <;> exact wrapi64_in _ (by omega) (by omega))
    refine chain_static (RdF .u8 (leb v 8)) (RdF.stable _ _) (S := [45, 38]) rfl (Go.Cor.enters_f Try.func23 (by kernel_rfl) rfl) rfl ?_ ?_
    · intro ρ w' hE hB hs
      have h38 : ρ (.tmp 38) = .bool true := hs 38 (by decide)
      have h45 : ρ (.tmp 45) = .int .u64 (v : Int) := hs 45 (by decide)
      clear hs
      have hc := hE.const
      refine ⟨(by simp [Region.wanted, yieldedR, h38]), ?_⟩
      simp only [List.map_toArray, List.map_cons, List.map_nil, hc, h45]
      refine (refPut_any v 8 _ hv2 (by decide)).mono ?_
      rintro e w3 ⟨A', n', c', rfl, ho, hb⟩
      exact ⟨_, rfl, hb, A', n', c', rfl, Rd.own ho⟩
    refine chain_val (.string (strOfNums (leb v 8))) (S := [46, 38]) rfl ?_ ?_
    · intro ρ w' hE hB hs
      have h38 : ρ (.tmp 38) = .bool true := hs 38 (by decide)
      have h46 : (RdF .u8 (leb v 8)) (ρ (.tmp 46)) w' := hs 46 (by decide)
      clear hs
      refine if_t (by simp [Region.wanted, yieldedR, h38]) ?_
      obtain ⟨A46, n46, c46, e46, r46⟩ := h46
      have hcv := conv_bytes r46 38 5 9 Try.underlying38 Try.underlying5 Try.underlying9
      clear r46
      go_simp
    refine chain_val (.string (strOfNums (xs ++ leb v 8))) (S := [44, 47, 38]) rfl ?_ ?_
    · intro ρ w' hE hB hs
      have h38 : ρ (.tmp 38) = .bool true := hs 38 (by decide)
      have h44 : ρ (.tmp 44) = .string (strOfNums xs) := hs 44 (by decide)
      have h47 : ρ (.tmp 47) = .string (strOfNums (leb v 8)) := hs 47 (by decide)
      clear hs
      refine if_t (by simp [Region.wanted, yieldedR, h38]) ?_
      rw [strOfNums_append]
      go_simp
      (have hl := H.out.len; simp only [str_size, leb_len]; omega)
    refine chain_val (.bool true) (S := [42, 48, 38]) rfl ?_ ?_
    · intro ρ w' hE hB hs
      have h38 : ρ (.tmp 38) = .bool true := hs 38 (by decide)
      have h42 : ρ (.tmp 42) = .string (strOfNums (xs ++ leb v 8)) := hs 42 (by decide)
      have h48 : ρ (.tmp 48) = .string (strOfNums (xs ++ leb v 8)) := hs 48 (by decide)
      clear hs
      refine if_t (by simp [Region.wanted, yieldedR, h38]) ?_
      go_simp
    refine chain_val (.bool true) (S := [38, 49]) rfl ?_ ?_
    · intro ρ w' hE hB hs
      have h38 : ρ (.tmp 38) = .bool true := hs 38 (by decide)
      have h49 : ρ (.tmp 49) = .bool true := hs 49 (by decide)
      clear hs
      have hc := hE.const
      refine if_t (by rfl) ?_
      (go_simp <;> exact wrapi64_in _ (by omega) (by omega))
    refine chain_val (.bool true) (S := [50]) rfl ?_ ?_
    · intro ρ w' hE hB hs
      have h50 : ρ (.tmp 50) = .bool true := hs 50 (by decide)
      clear hs
      refine if_t (by rfl) ?_
      (go_simp <;> exact wrapi64_in _ (by omega) (by omega))
    refine chain_static (fun v__ _ => v__ = .bool true) (stable_eq _) (S := [51]) rfl (Go.Cor.enters_f Try.func26 (by kernel_rfl) rfl) rfl ?_ ?_
    · intro ρ w' hE hB hs
      have h51 : ρ (.tmp 51) = .bool true := hs 51 (by decide)
      clear hs
      refine ⟨(by simp [Region.wanted, yieldedR, h51]), ?_⟩
      simp only [List.map_toArray, List.map_cons, List.map_nil, ]
      refine (awake03 _).mono ?_
      rintro e w3 ⟨rfl, hb⟩
      exact ⟨_, rfl, hb, rfl⟩
    refine chain_val (.bool true) (S := [51, 52]) rfl ?_ ?_
    · intro ρ w' hE hB hs
      have h51 : ρ (.tmp 51) = .bool true := hs 51 (by decide)
      have h52 : ρ (.tmp 52) = .bool true := hs 52 (by decide)
      clear hs
      have hc := hE.const
      refine if_t (by rfl) ?_
      (go_simp <;> exact wrapi64_in _ (by omega) (by omega))
    intro w1 hB1
    simp only [List.reverse_cons, List.reverse_nil, List.nil_append, List.cons_append, Go.Free.Ends, forall_eq, Act.put, List.setIfInBounds_toArray, List.set_cons_zero, List.set_cons_succ]
    rintro _ _ _ _
    have HB3 := Lib.hid (HB2.out.trans (hB1.mono HB2.out.size))
    clear hB1
    go_wp2
    go_ret
    exact ⟨rfl, HB3.out⟩

namespace cursorPuts
open Go.ChangeShapes Go.WideShapes Go.ChangeAt Go.RowKit Go.Cor
set_option linter.unusedVariables false

set_option maxRecDepth 100000 in
theorem lifted (os : Os) (started : os.Started) (H : Type) (enc : TypeId × Value → H) :
    ReturnsInHanded {} Try.checked os 5 .any (Rows.cursorPutsSpec.pre6 enc Try.prog Try.f5 Rows.cursorPutsRow.domain false) (Rows.cursorPutsSpec.post enc Try.prog Try.f5 false true false false) := by
  refine returnsInHanded_of_change (C := Try.checked) (by kernel_rfl : ownKnob Try.prog.godebug = none) started (by kernel_rfl) Try.func5
    (ChangeSpec.witness6 (enc := enc) (C := Try.checked) false ⟨#[], #[.slice none 0 0, .int .u64 0], []⟩ 8 (by kernel_rfl) (by kernel_rfl) (by kernel_rfl) (by kernel_rfl)) ?_
  intro W base args ds gs before hval0 hW hcnd _
  have hval : ∀ (j : Nat) t v, Try.f5.params[j]? = some t → args[j]? = some v → Value.okWide Try.prog W .any base t v := hval0
  have hW' := hW
  obtain ⟨p, q, hA0, hV, rfl, hfz, hnd⟩ := hW
  have hA : DataW.TrodAll enc Try.prog W 0 (fun _ => true) true Try.f5.params.toList args.toList ds p := hA0
  rw [Try.params5] at hA hval
  obtain ⟨v0, vs0, d0, ds0, p0, q0, hargs, rfl, rfl, h0, r0⟩ := trodAll_cons hA
  obtain ⟨v1, vs1, d1, ds1, p1, q1, rfl, rfl, rfl, h1, r1⟩ := trodAll_cons r0
  obtain ⟨rfl, rfl, rfl⟩ := trodAll_nil r1
  obtain rfl : args = #[v0, v1] := by cases args; simp_all
  obtain ⟨rfl, rfl⟩ := trodVars_none hV
  obtain ⟨a0, len0, cap0, rfl⟩ := okWide_slice Try.underlying38 (hval 0 38 v0 rfl rfl)
  have k0 := h0
  have lt0 : ∀ x ∈ p0, x.block < W.heap.size := by obtain ⟨m, hm⟩ := k0; exact DataW.trod_lt m _ _ _ hm
  obtain ⟨x0, g0, b0⟩ : ∃ xs, Rd W .u8 a0 len0 cap0 xs ∧ In .u8 xs := by
    obtain ⟨fuel, hf⟩ := h0
    rcases open_ints Try.underlying38 Try.underlying5 (by kernel_rfl) hf with ⟨hcs, _⟩ | ⟨x, l, c, zs, hcs, _, hl, hm, hz, _, hcell, hwz⟩
    · simp [Value.cells] at hcs
      obtain ⟨rfl, rfl, rfl⟩ := hcs
      exact ⟨[], Rd.nilv _ _, fun _ h => by cases h⟩
    · simp [Value.cells] at hcs
      obtain ⟨rfl, rfl, rfl⟩ := hcs
      exact Rd.of_row hl hm hz hcell hwz
  obtain ⟨a1, rfl, rfl, rfl, w1⟩ := open_int Try.underlying42 (hval 1 42 v1 rfl rfl) h1
  clear hA0 hval0
  refine (CursorPuts_walk W a0 len0 cap0 x0 g0 b0 a1 (fits_of_wf w1)).mono fun e W' ⟨he, bel⟩ => ?_
  subst he
  exact ⟨_, rfl, _, _, _, [], _, [], hW', trodAll_mk1 (shut_bool Try.underlying4 _), (trodAll_cons_mk (Below.trod (by kernel_rfl : laidOutB Try.prog = true) (by kernel_rfl) (of_decide_eq_true (by kernel_rfl)) k0 bel lt0) (trodAll_cons_mk (shut_int Try.underlying42 w1) trodAll_mk0)), rfl, bel.frame _, fun h => by cases h⟩

theorem proved : Rows.CursorPutsSaid :=
  OpenClaim.holds_of_wide 5 Try.f5 rfl rfl rfl rfl rfl rfl rfl ⟨rfl, rfl, rfl, rfl, rfl⟩ rfl rfl rfl rfl rfl (by kernel_rfl) Try.func5 (by kernel_rfl)
    (of_decide_eq_true (by kernel_rfl)) (by unfold Func.isWrapper; first | (rw [if_pos (by decide +kernel)]; kernel_rfl) | (rw [if_neg (by decide +kernel)]; exact ⟨rfl, rfl⟩))
    (fun os started H enc _ => lifted os started H enc)
#print axioms proved
end cursorPuts
end Go.Proofs.Ythpndhdpohmoaaa
