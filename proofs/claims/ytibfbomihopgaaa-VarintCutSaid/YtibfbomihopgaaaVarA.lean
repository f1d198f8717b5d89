/-
  Chapter 4's examples (awake).
-/
import Derived.Test.YtibfbomihopgaaaVarI
import Derived.Test.YtibfbomihopgaaaFreeA
namespace Go.Proofs.Ytibfbomihopgaaa
open Go.RowKit Go.Cor Go.Free

set_option maxRecDepth 100000 in
set_option maxHeartbeats 1000000 in
theorem awake04 (w : World) : Calls Try.prog 17 #[] w fun e w' => e = .returned (.bool true) ∧ Below w.heap.size w w' := by
  go_enter Try.func17, Try.ntmps17
  have hr : Rd (w.alloc (.cells #[.int .u8 128, .int .u8 0] 5)) .u8 (some ⟨w.heap.size, 0, none⟩) 2 2 [128, 0] := Rd.lit w _ .u8 [128, 0]
  have HR := Lib.hid hr
  clear hr
  have hg := get_any _ _ _ _ _ HR.out (by decide)
  rw [show vget 0 [128, 0] = (0, 0, 9) by decide +kernel] at hg
  have HG := Lib.hid hg
  clear hg
  go_wp2_with (go_at_call 15; refine HG.out.mono ?_; rintro e w' ⟨rfl, rfl⟩)
  refine wp_region_free 22 (by kernel_rfl) (by kernel_rfl) ?_
  refine chain_static (RdF .u8 (vput 300)) (RdF.stable _ _) (S := []) rfl (Go.Cor.enters_f Try.func18 (by kernel_rfl) rfl) rfl ?_ ?_
  · intro ρ w' hE hB hs
    clear hs
    have hc := hE.const
    refine ⟨(by rfl), ?_⟩
    simp only [List.map_toArray, List.map_cons, List.map_nil, hc]
    refine (put_any none 0 0 [] 300 w' (Rd.nilv _ _) (by decide) (by decide)).mono ?_
    rintro e w'' ⟨A, n, c, rfl, hown, hb⟩
    exact ⟨_, rfl, hb, A, n, c, rfl, Rd.own hown⟩
  refine chain_val (.string (strOfNums (vput 300))) (S := [10]) rfl ?_ ?_
  · intro ρ w' hE hB hs
    have h10 : (RdF .u8 (vput 300)) (ρ (.tmp 10)) w' := hs 10 (by decide)
    clear hs
    refine if_t (by rfl) ?_
    obtain ⟨A10, n10, c10, e10, r10⟩ := h10
    have hcv := conv_bytes r10 22 5 9 Try.underlying22 Try.underlying5 Try.underlying9
    clear r10
    go_simp
  refine chain_make (RdF .u8 [172, 2]) (RdF.stable _ _) (S := []) rfl ?_ ?_
  · intro ρ w' hE hB hs
    clear hs
    have hc := hE.const
    exact ⟨(by rfl), .slice (some ⟨w'.heap.size, 0, none⟩) 2 2, w'.alloc (.cells #[.int .u8 172, .int .u8 2] 5), (by go_simp), (Below.refl _ _).alloc (Nat.le_refl _) _, _, _, _, rfl, Rd.lit w' 5 .u8 [172, 2]⟩
  refine chain_val (.string (strOfNums [172, 2])) (S := [12]) rfl ?_ ?_
  · intro ρ w' hE hB hs
    have h12 : (RdF .u8 [172, 2]) (ρ (.tmp 12)) w' := hs 12 (by decide)
    clear hs
    refine if_t (by rfl) ?_
    obtain ⟨A12, n12, c12, e12, r12⟩ := h12
    have hcv := conv_bytes r12 22 5 9 Try.underlying22 Try.underlying5 Try.underlying9
    clear r12
    go_simp
  refine chain_val (.bool true) (S := [11, 13]) rfl ?_ ?_
  · intro ρ w' hE hB hs
    have h11 : ρ (.tmp 11) = .string (strOfNums (vput 300)) := hs 11 (by decide)
    have h13 : ρ (.tmp 13) = .string (strOfNums [172, 2]) := hs 13 (by decide)
    clear hs
    refine if_t (by rfl) ?_
    have e : vput 300 = [172, 2] := by decide +kernel
    go_simp
  refine chain_val (.bool true) (S := [14]) rfl ?_ ?_
  · intro ρ w' hE hB hs
    have h14 : ρ (.tmp 14) = .bool true := hs 14 (by decide)
    clear hs
    refine if_t (by rfl) ?_
    go_simp
  refine chain_static (fun v__ _ => v__ = .int .u64 1) (stable_eq _) (S := [15]) rfl (Go.Cor.enters_f Try.func19 (by kernel_rfl) rfl) rfl ?_ ?_
  · intro ρ w' hE hB hs
    have h15 : ρ (.tmp 15) = .bool true := hs 15 (by decide)
    clear hs
    have hc := hE.const
    refine ⟨(by simp [Region.wanted, yieldedR, h15]), ?_⟩
    simp only [List.map_toArray, List.map_cons, List.map_nil, hc]
    refine (zig_any (-1) w' (by decide) (by decide)).mono ?_
    rintro e w'' ⟨rfl, rfl⟩
    exact ⟨_, rfl, Below.refl _ _, rfl⟩
  refine chain_val (.bool true) (S := [16, 15]) rfl ?_ ?_
  · intro ρ w' hE hB hs
    have h15 : ρ (.tmp 15) = .bool true := hs 15 (by decide)
    have h16 : ρ (.tmp 16) = .int .u64 1 := hs 16 (by decide)
    clear hs
    have hc := hE.const
    refine if_t (by simp [Region.wanted, yieldedR, h15]) ?_
    go_simp
  refine chain_val (.bool true) (S := [15, 17]) rfl ?_ ?_
  · intro ρ w' hE hB hs
    have h15 : ρ (.tmp 15) = .bool true := hs 15 (by decide)
    have h17 : ρ (.tmp 17) = .bool true := hs 17 (by decide)
    clear hs
    have hc := hE.const
    refine if_t (by rfl) ?_
    go_simp
  refine chain_val (.bool true) (S := [18]) rfl ?_ ?_
  · intro ρ w' hE hB hs
    have h18 : ρ (.tmp 18) = .bool true := hs 18 (by decide)
    clear hs
    refine if_t (by rfl) ?_
    go_simp
  refine chain_static (fun v__ _ => v__ = .int .u64 2) (stable_eq _) (S := [19]) rfl (Go.Cor.enters_f Try.func19 (by kernel_rfl) rfl) rfl ?_ ?_
  · intro ρ w' hE hB hs
    have h19 : ρ (.tmp 19) = .bool true := hs 19 (by decide)
    clear hs
    have hc := hE.const
    refine ⟨(by simp [Region.wanted, yieldedR, h19]), ?_⟩
    simp only [List.map_toArray, List.map_cons, List.map_nil, hc]
    refine (zig_any 1 w' (by decide) (by decide)).mono ?_
    rintro e w'' ⟨rfl, rfl⟩
    exact ⟨_, rfl, Below.refl _ _, rfl⟩
  refine chain_val (.bool true) (S := [20, 19]) rfl ?_ ?_
  · intro ρ w' hE hB hs
    have h19 : ρ (.tmp 19) = .bool true := hs 19 (by decide)
    have h20 : ρ (.tmp 20) = .int .u64 2 := hs 20 (by decide)
    clear hs
    have hc := hE.const
    refine if_t (by simp [Region.wanted, yieldedR, h19]) ?_
    go_simp
  refine chain_val (.bool true) (S := [19, 21]) rfl ?_ ?_
  · intro ρ w' hE hB hs
    have h19 : ρ (.tmp 19) = .bool true := hs 19 (by decide)
    have h21 : ρ (.tmp 21) = .bool true := hs 21 (by decide)
    clear hs
    have hc := hE.const
    refine if_t (by rfl) ?_
    go_simp
  refine chain_val (.bool true) (S := [22]) rfl ?_ ?_
  · intro ρ w' hE hB hs
    have h22 : ρ (.tmp 22) = .bool true := hs 22 (by decide)
    clear hs
    refine if_t (by rfl) ?_
    go_simp
  refine chain_static (fun v__ _ => v__ = .int .u64 18446744073709551615) (stable_eq _) (S := [23]) rfl (Go.Cor.enters_f Try.func19 (by kernel_rfl) rfl) rfl ?_ ?_
  · intro ρ w' hE hB hs
    have h23 : ρ (.tmp 23) = .bool true := hs 23 (by decide)
    clear hs
    have hc := hE.const
    refine ⟨(by simp [Region.wanted, yieldedR, h23]), ?_⟩
    simp only [List.map_toArray, List.map_cons, List.map_nil, hc]
    refine (zig_any (-9223372036854775808) w' (by decide) (by decide)).mono ?_
    rintro e w'' ⟨rfl, rfl⟩
    exact ⟨_, rfl, Below.refl _ _, rfl⟩
  refine chain_val (.bool true) (S := [24, 23]) rfl ?_ ?_
  · intro ρ w' hE hB hs
    have h23 : ρ (.tmp 23) = .bool true := hs 23 (by decide)
    have h24 : ρ (.tmp 24) = .int .u64 18446744073709551615 := hs 24 (by decide)
    clear hs
    have hc := hE.const
    refine if_t (by simp [Region.wanted, yieldedR, h23]) ?_
    go_simp
  refine chain_val (.bool true) (S := [23, 25]) rfl ?_ ?_
  · intro ρ w' hE hB hs
    have h23 : ρ (.tmp 23) = .bool true := hs 23 (by decide)
    have h25 : ρ (.tmp 25) = .bool true := hs 25 (by decide)
    clear hs
    have hc := hE.const
    refine if_t (by rfl) ?_
    go_simp
  refine chain_val (.bool true) (S := [26]) rfl ?_ ?_
  · intro ρ w' hE hB hs
    have h26 : ρ (.tmp 26) = .bool true := hs 26 (by decide)
    clear hs
    refine if_t (by rfl) ?_
    go_simp
  refine chain_val (.int .i64 9) (S := [3, 27]) rfl ?_ ?_
  · intro ρ w' hE hB hs
    have h3 : ρ (.tmp 3) = .int .i64 9 := hs 3 (by decide)
    have h27 : ρ (.tmp 27) = .bool true := hs 27 (by decide)
    clear hs
    refine if_t (by simp [Region.wanted, yieldedR, h27]) ?_
    go_simp
  refine chain_val (.bool true) (S := [28, 27]) rfl ?_ ?_
  · intro ρ w' hE hB hs
    have h27 : ρ (.tmp 27) = .bool true := hs 27 (by decide)
    have h28 : ρ (.tmp 28) = .int .i64 9 := hs 28 (by decide)
    clear hs
    have hc := hE.const
    refine if_t (by simp [Region.wanted, yieldedR, h27]) ?_
    go_simp
  refine chain_val (.bool true) (S := [27, 29]) rfl ?_ ?_
  · intro ρ w' hE hB hs
    have h27 : ρ (.tmp 27) = .bool true := hs 27 (by decide)
    have h29 : ρ (.tmp 29) = .bool true := hs 29 (by decide)
    clear hs
    have hc := hE.const
    refine if_t (by rfl) ?_
    go_simp
  refine chain_val (.bool true) (S := [30]) rfl ?_ ?_
  · intro ρ w' hE hB hs
    have h30 : ρ (.tmp 30) = .bool true := hs 30 (by decide)
    clear hs
    refine if_t (by rfl) ?_
    go_simp
  intro w1 hB1
  simp only [List.reverse_cons, List.reverse_nil, List.nil_append, List.cons_append, Go.Free.Ends, forall_eq, Act.put, List.setIfInBounds_toArray, List.set_cons_zero, List.set_cons_succ]
  intro _ _ _ _
  go_wp2
  go_ret
  exact ⟨rfl, (((Below.refl _ _).alloc (Nat.le_refl _) _).trans (hB1.mono (by simp)))⟩
end Go.Proofs.Ytibfbomihopgaaa
