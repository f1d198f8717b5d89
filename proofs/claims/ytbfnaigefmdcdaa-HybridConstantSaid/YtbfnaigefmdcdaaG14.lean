/-
  Chapter 10: a run's size, a run's bytes.
  Chapter 10: the runs are handed out.
  A region that draws its order, walked once, inside a round of a range over a function.
-/
import Derived.Laws.CopyOwn
import Derived.Deep.OwnRows
import Derived.Deep.CutBlock
import Derived.TacticsIn
import Derived.RangeFuncCalls
import Derived.Test.YtbfnaigefmdcdaaG2
import Derived.Test.YtbfnaigefmdcdaaG12
import Derived.Test.YtbfnaigefmdcdaaG13
namespace Go.Cor
open Go Go.RowKit
/-- a run, by value -/
def runV (o : Nat) (A : Option Addr) (n c : Nat) : Value := .agg #[.int .i64 o, .slice A n c]
theorem hpad_splice (us : List Int) (N : Nat) (hN : N = 8 * ((us.length + 7) / 8)) : splice ((List.replicate N (0 : Int)).map (Value.int .u64)) 0 (us.map (Value.int .u64)) = (hpad us).map (Value.int .u64) := by
  unfold splice hpad
  rw [List.take_zero, List.nil_append, Nat.zero_add, List.length_map, ← List.map_drop, ← List.map_append, List.drop_replicate, hN]
theorem owns_block {w : World} {B g n : Nat} {E : TypeId} {vs : List Value} (hB : B ≤ g) (hg : w.heap[g]? = some (.cells vs.toArray E (0, 0))) (hn : vs.length = n) (hm : n ≤ maxLen) : w.ownsRow B E 1 (.slice (some ⟨g, 0, none⟩) n n) n vs :=
  ⟨by simpa using hn, .inr ⟨g, n, vs.toArray, rfl, hB, hg, Nat.le_refl _, hm, by simpa using hn, by rw [Nat.mul_one]; exact List.take_of_length_le (by show vs.length ≤ n; omega)⟩⟩
end Go.Cor
namespace Go.Proofs.Ytbfnaigefmdcdaa
open Go.RowKit Go.Cor Go.Free

set_option maxRecDepth 100000 in
set_option maxHeartbeats 2000000 in
theorem rsize_any (o : Nat) (A : Option Addr) (n c : Nat) (us : List Int) (k : Nat) (w : World) (h : us.length = n) (hk : k ≤ 64) (hn : n ≤ 1024) (ho : o ≤ 1200) :
    Calls Try.prog 49 #[runV o A n c, .int .i64 k] w fun e w' => e = .returned (.int .i64 ((hput k o us).length : Nat)) ∧ Below w.heap.size w w' := by
  by_cases h0 : 0 < o
  · have hl : (hput k o us).length = (vput (2 * o)).length + octets k := by rw [hput, if_pos h0, List.length_append, leb_len]
    have hv := vput_len_u64 (2 * o) (by omega)
    have hoc : octets k ≤ 8 := by unfold octets; omega
    rw [hl]
    have HS := Lib.hid (fun w => size_any (2 * o) w (by omega))
    have HW := Lib.hid (fun w => hwide_any k hk w)
    obtain ⟨m, hm⟩ : ∃ m, (vput (2 * o)).length = m := ⟨_, rfl⟩
    obtain ⟨q, hq⟩ : ∃ q, octets k = q := ⟨_, rfl⟩
    rw [hm] at hv HS ⊢
    rw [hq] at hoc HW ⊢
    clear hl h hm hq
    unfold runV
    go_enter Try.func49, Try.ntmps49
    go_wp2_with fail
    have e1 : (2 : Int) * (o : Int) = ((2 * o : Nat) : Int) := by simp
    rw [e1]
    clear e1
    refine (HS.out _).mono ?_
    rintro e w1 ⟨rfl, hb1⟩
    have HB := Lib.hid (((Below.refl w.heap.size w).alloc (Nat.le_refl _) _).trans (hb1.mono (by simp)))
    clear hb1
    go_wp2_with fail
    refine (HW.out _).mono ?_
    rintro e w2 ⟨rfl, rfl⟩
    go_wp2
    go_ret
    exact ⟨ret_i (by omega), HB.out⟩
  · obtain rfl : o = 0 := by omega
    have hl : (hput k 0 us).length = (vput (2 * ((n + 7) / 8) + 1)).length + (n + 7) / 8 * k := by
      rw [hput, if_neg h0, List.length_append, h]
      congr 1
      rw [packr_in (by rw [hpad_len, h]; omega), packed_len, hpad_len, h, oct8]
    have hv := vput_len_u64 (2 * ((n + 7) / 8) + 1) (by omega)
    rw [hl]
    obtain ⟨q, hq⟩ : ∃ q, (n + 7) / 8 = q := ⟨_, rfl⟩
    have HG := Lib.hid (fun w => groups_any n (by omega) w)
    rw [hq] at hv HG ⊢
    have HS := Lib.hid (fun w => size_any (2 * q + 1) w (by omega))
    obtain ⟨m, hm⟩ : ∃ m, (vput (2 * q + 1)).length = m := ⟨_, rfl⟩
    rw [hm] at hv HS ⊢
    have hqk : q * k ≤ 128 * 64 := Nat.mul_le_mul (by omega) hk
    have hqk0 := Lib.hid hqk
    clear hl h hm
    unfold runV
    go_enter Try.func49, Try.ntmps49
    go_wp2
    obtain ⟨W1, hW1⟩ : ∃ W1, w.alloc (.cells #[.int .i64 0, .slice A n c] 69) = W1 := ⟨_, rfl⟩
    have hs1 : W1.heap.size = w.heap.size + 1 := by rw [← hW1]; simp
    have hbx : W1.heap[w.heap.size]? = some (.cells #[.int .i64 0, .slice A n c] 69 (0, 0)) := by rw [← hW1]; exact heap_alloc_new w _
    have k1 : W1.cell? ⟨w.heap.size, 1, none⟩ = some (.slice A n c) := by simp [World.cell?, hbx]
    have hp : w.heap.size < W1.heap.size := by omega
    have HB0 := Lib.hid (show Below w.heap.size w W1 by rw [← hW1]; exact (Below.refl _ _).alloc (Nat.le_refl _) _)
    rw [hW1]
    clear hW1 hbx
    refine wp_region_free 16 (by kernel_rfl) (by kernel_rfl) ?_
    refine chain_val (.pointer (some ⟨w.heap.size, 1, none⟩)) (S := [2]) rfl ?_ ?_
    · intro ρ w' hE hB hs
      have h2 : ρ (.tmp 2) = .pointer (some ⟨w.heap.size, 0, none⟩) := hs 2 (by decide)
      clear hs
      refine if_t (by rfl) ?_
      (go_simp <;> exact wrapi64_in _ (by omega) (by omega))
    refine chain_val (.slice A n c) (S := [16]) rfl ?_ ?_
    · intro ρ w' hE hB hs
      have h16 : ρ (.tmp 16) = .pointer (some ⟨w.heap.size, 1, none⟩) := hs 16 (by decide)
      clear hs
      refine if_t (by rfl) ?_
      have hcl := (hB.cell (p := ⟨w.heap.size, 1, none⟩) hp).trans k1
      go_simp
    refine chain_val (.int .i64 (n : Nat)) (S := [17]) rfl ?_ ?_
    · intro ρ w' hE hB hs
      have h17 : ρ (.tmp 17) = .slice A n c := hs 17 (by decide)
      clear hs
      refine if_t (by rfl) ?_
      (go_simp <;> exact wrapi64_in _ (by omega) (by omega))
    refine chain_static (fun v__ _ => v__ = .int .i64 (q : Int)) (stable_eq _) (S := [18]) rfl (Go.Cor.enters_f Try.func78 (by kernel_rfl) rfl) rfl ?_ ?_
    · intro ρ w' hE hB hs
      have h18 : ρ (.tmp 18) = .int .i64 (n : Nat) := hs 18 (by decide)
      clear hs
      refine ⟨(by rfl), ?_⟩
      simp only [List.map_toArray, List.map_cons, List.map_nil, h18]
      refine (HG.out _).mono ?_
      rintro e w3 ⟨rfl, rfl⟩
      exact ⟨_, rfl, Below.refl _ _, rfl⟩
    refine chain_val (.int .i64 (2 * (q : Int))) (S := [19]) rfl ?_ ?_
    · intro ρ w' hE hB hs
      have h19 : ρ (.tmp 19) = .int .i64 (q : Int) := hs 19 (by decide)
      clear hs
      have hc := hE.const
      refine if_t (by rfl) ?_
      (go_simp <;> exact wrapi64_in _ (by omega) (by omega))
    refine chain_val (.int .i64 (2 * (q : Int) + 1)) (S := [20]) rfl ?_ ?_
    · intro ρ w' hE hB hs
      have h20 : ρ (.tmp 20) = .int .i64 (2 * (q : Int)) := hs 20 (by decide)
      clear hs
      have hc := hE.const
      refine if_t (by rfl) ?_
      (go_simp <;> exact wrapi64_in _ (by omega) (by omega))
    refine chain_val (.int .u64 ((2 * q + 1 : Nat) : Int)) (S := [21]) rfl ?_ ?_
    · intro ρ w' hE hB hs
      have h21 : ρ (.tmp 21) = .int .i64 (2 * (q : Int) + 1) := hs 21 (by decide)
      clear hs
      refine if_t (by rfl) ?_
      go_simp
      (rw [wrapu64_in _ (by omega) (by omega)])
    refine chain_static (fun v__ _ => v__ = .int .i64 (m : Int)) (stable_eq _) (S := [22]) rfl (Go.Cor.enters_f Try.func35 (by kernel_rfl) rfl) rfl ?_ ?_
    · intro ρ w' hE hB hs
      have h22 : ρ (.tmp 22) = .int .u64 ((2 * q + 1 : Nat) : Int) := hs 22 (by decide)
      clear hs
      refine ⟨(by rfl), ?_⟩
      simp only [List.map_toArray, List.map_cons, List.map_nil, h22]
      refine (HS.out _).mono ?_
      rintro e w3 ⟨rfl, hb⟩
      exact ⟨_, rfl, hb, rfl⟩
    refine chain_val (.pointer (some ⟨w.heap.size, 1, none⟩)) (S := [2]) rfl ?_ ?_
    · intro ρ w' hE hB hs
      have h2 : ρ (.tmp 2) = .pointer (some ⟨w.heap.size, 0, none⟩) := hs 2 (by decide)
      clear hs
      refine if_t (by rfl) ?_
      (go_simp <;> exact wrapi64_in _ (by omega) (by omega))
    refine chain_val (.slice A n c) (S := [24]) rfl ?_ ?_
    · intro ρ w' hE hB hs
      have h24 : ρ (.tmp 24) = .pointer (some ⟨w.heap.size, 1, none⟩) := hs 24 (by decide)
      clear hs
      refine if_t (by rfl) ?_
      have hcl := (hB.cell (p := ⟨w.heap.size, 1, none⟩) hp).trans k1
      go_simp
    refine chain_val (.int .i64 (n : Nat)) (S := [25]) rfl ?_ ?_
    · intro ρ w' hE hB hs
      have h25 : ρ (.tmp 25) = .slice A n c := hs 25 (by decide)
      clear hs
      refine if_t (by rfl) ?_
      (go_simp <;> exact wrapi64_in _ (by omega) (by omega))
    refine chain_static (fun v__ _ => v__ = .int .i64 (q : Int)) (stable_eq _) (S := [26]) rfl (Go.Cor.enters_f Try.func78 (by kernel_rfl) rfl) rfl ?_ ?_
    · intro ρ w' hE hB hs
      have h26 : ρ (.tmp 26) = .int .i64 (n : Nat) := hs 26 (by decide)
      clear hs
      refine ⟨(by rfl), ?_⟩
      simp only [List.map_toArray, List.map_cons, List.map_nil, h26]
      refine (HG.out _).mono ?_
      rintro e w3 ⟨rfl, rfl⟩
      exact ⟨_, rfl, Below.refl _ _, rfl⟩
    refine chain_val (.int .i64 (k : Int)) (S := [1]) rfl ?_ ?_
    · intro ρ w' hE hB hs
      have h1 : ρ (.tmp 1) = .int .i64 (k : Int) := hs 1 (by decide)
      clear hs
      refine if_t (by rfl) ?_
      (go_simp <;> exact wrapi64_in _ (by omega) (by omega))
    refine chain_val (.int .i64 ((q * k : Nat) : Int)) (S := [27, 28]) rfl ?_ ?_
    · intro ρ w' hE hB hs
      have h27 : ρ (.tmp 27) = .int .i64 (q : Int) := hs 27 (by decide)
      have h28 : ρ (.tmp 28) = .int .i64 (k : Int) := hs 28 (by decide)
      clear hs
      refine if_t (by rfl) ?_
      go_simp
      (rw [wrapi64_in _ (by omega) (by omega)])
    refine chain_val (.int .i64 ((m + q * k : Nat) : Int)) (S := [23, 29]) rfl ?_ ?_
    · intro ρ w' hE hB hs
      have h23 : ρ (.tmp 23) = .int .i64 (m : Int) := hs 23 (by decide)
      have h29 : ρ (.tmp 29) = .int .i64 ((q * k : Nat) : Int) := hs 29 (by decide)
      clear hs
      refine if_t (by rfl) ?_
      go_simp
      (rw [wrapi64_in _ (by omega) (by omega)])
    refine chain_val (.int .i64 ((m + q * k : Nat) : Int)) (S := [30]) rfl ?_ ?_
    · intro ρ w' hE hB hs
      have h30 : ρ (.tmp 30) = .int .i64 ((m + q * k : Nat) : Int) := hs 30 (by decide)
      clear hs
      refine if_t (by rfl) ?_
      (go_simp <;> exact wrapi64_in _ (by omega) (by omega))
    intro w1 hB1
    simp only [List.reverse_cons, List.reverse_nil, List.nil_append, List.cons_append, Go.Free.Ends, forall_eq, Act.put, List.setIfInBounds_toArray, List.set_cons_zero, List.set_cons_succ]
    have HB1 := Lib.hid (HB0.out.trans (hB1.mono (by omega)))
    clear hB1
    go_wp2
    go_ret
    exact ⟨rfl, HB1.out⟩

set_option maxRecDepth 100000 in
set_option maxHeartbeats 4000000 in
theorem rput_any (o : Nat) (A : Option Addr) (n c : Nat) (us : List Int) (k : Nat) (B : Option Addr) (m d : Nat) (bs : List Int) (w : World) (h : Rd w .u64 A n c us) (hi : In .u64 us) (hf : Fitl k us) (hn0 : 0 < n) (hk : k ≤ 64) (hn : n ≤ 1024) (ho : o ≤ 1200)
    (hb : Rd w .u8 B m d bs) (hm : m ≤ 50000) :
    Calls Try.prog 67 #[runV o A n c, .slice B m d, .int .i64 k] w (RetRow w.heap.size 5 .u8 w (bs ++ hput k o us)) := by
  by_cases h0 : 0 < o
  · have hl : hput k o us = vput (2 * o) ++ (leb (us[0]?.getD 0).toNat 8).take (octets k) := by
      rw [hput, if_pos h0]
      congr 1
      unfold leb
      rw [← List.map_take, List.take_range, Nat.min_eq_left (by unfold octets; omega)]
    have hoc : octets k ≤ 8 := by unfold octets; omega
    have hv := vput_len_u64 (2 * o) (by omega)
    obtain ⟨b', of, rfl, hbl, hc⟩ := h.get hn0
    have hcell := hc 0 hn0
    rw [List.getD_eq_getElem?_getD, Nat.add_zero] at hcell
    have hx := hi (us[0]?.getD 0) (by rw [List.getElem?_eq_getElem (by have := h.len; omega)]; exact List.getElem_mem _)
    obtain ⟨x, hxe⟩ : ∃ x, us[0]?.getD 0 = x := ⟨_, rfl⟩
    rw [hxe] at hl hcell hx
    obtain ⟨x, rfl⟩ := Int.eq_ofNat_of_zero_le hx.1
    rw [Int.toNat_natCast] at hl
    have HL := Lib.hid hl
    have hx2 := hx.2
    have HP := Lib.hid (fun w h => put_any B m d bs (2 * o) w h (by omega) (by omega))
    have HW := Lib.hid (fun w => hwide_any k hk w)
    obtain ⟨q, hq⟩ : ∃ q, octets k = q := ⟨_, rfl⟩
    rw [hq] at hoc HW HL
    have HB := Lib.hid hb
    have HV := Lib.hid hv
    clear hc hl hxe hx hb hv h hi hf hq
    unfold runV
    go_enter Try.func67, Try.ntmps67
    go_wp2_with fail
    have e1 : (2 : Int) * (o : Int) = ((2 * o : Nat) : Int) := by simp
    rw [e1]
    clear e1
    have hbx : (w.alloc (.cells #[.int .i64 o, .slice (some ⟨b', of, none⟩) n c] 69)).heap[w.heap.size]? = some (.cells #[.int .i64 o, .slice (some ⟨b', of, none⟩) n c] 69 (0, 0)) := heap_alloc_new w _
    refine (HP.out _ (HB.out.alloc _)).mono ?_
    rintro e w1 ⟨A1, m1, c1, rfl, ho1, hb1⟩
    have HO1 := Lib.hid ho1
    have hbx1 := (hb1.block w.heap.size (by simp)).trans hbx
    have k1 : w1.cell? ⟨w.heap.size, 1, none⟩ = some (.slice (some ⟨b', of, none⟩) n c) := by simp [World.cell?, hbx1]
    have HB1 := Lib.hid (((Below.refl w.heap.size w).alloc (Nat.le_refl _) _).trans (hb1.mono (by simp)))
    have hcell1 : w1.cell? ⟨b', of, none⟩ = some (.int .u64 (x : Int)) := by rw [World.cell?_of_block (w := w) (w' := w1) (HB1.out.block b' hbl)]; exact hcell
    have hm1 : m1 ≤ 50010 := by have h1 := row_len ho1; have h2 := HB.out.len; have h3 := HV.out; rw [List.length_append] at h1; omega
    clear ho1 hb1 hbx hbx1 hcell
    go_wp2_with fail
    refine (Put64_any none 0 0 [] x _ (Rd.nilv _ _) (by omega) (by omega)).mono ?_
    rintro e w2 ⟨A2, m2, c2, rfl, ho2, hb2⟩
    have hm2 : m2 = 8 := by have h1 := row_len ho2; simp [leb_len] at h1; omega
    subst hm2
    have HO2 := Lib.hid (Rd.own ho2)
    have HO1' := Lib.hid (owns_weak (B' := w.heap.size) (owns_keep (S := fun _ _ => True) HO1.out (.of_below hb2) fun _ _ _ => trivial) (by simp))
    have HB2 := Lib.hid (HB1.out.trans (hb2.mono HB1.out.size))
    clear ho2 hb2
    go_wp2_with fail
    refine (HW.out _).mono ?_
    rintro e w3 ⟨rfl, rfl⟩
    go_wp2_with (first
      | ((refine wpList_slice_h (o := ⟨some 28, _, _, _, _, _⟩) rfl rfl elemU8 HO2.out rfl (kh := .i64) (j := q) rfl (by omega) ?_; intro hrd; have HRD := Lib.hid hrd; clear hrd))
      | (at_builtin; refine wpList_append_r rfl rfl elemU8 HO1'.out rfl (Rd.toV HRD.out) rfl ints_one (by omega) (by omega) (by have := HB2.out.size; have := HO1.out; omega) ?_; intro A3 c3 w3 hown hg _))
    have HB3 := Lib.hid (below_grown HB2.out HO1'.out hg HB2.out.size)
    have hown' := owns_app hown
    rw [List.nil_append, List.append_assoc, ← HL.out] at hown'
    have HO3 := Lib.hid hown'
    clear hown hown' hg
    go_ret
    exact ⟨A3, _, c3, rfl, HO3.out, HB3.out⟩
  · obtain rfl : o = 0 := by omega
    have hl := h.len
    have hpl := hpad_len us
    have hpf := hf.pad
    have hpi : In .u64 (hpad us) := by
      intro x hx
      rcases List.mem_append.1 hx with hx | hx
      · exact hi x hx
      · rw [List.eq_of_mem_replicate hx]; exact ⟨by decide, by decide⟩
    rw [hl] at hpl
    have HG := Lib.hid (fun w => groups_any n (by omega) w)
    have hsp := hpad_splice us
    rw [hl] at hsp
    have hHL : hput k 0 us = vput (2 * ((n + 7) / 8) + 1) ++ packed k (hpad us) := by
      rw [hput, if_neg h0, hl, packr_in (by rw [hpl]; omega)]
    obtain ⟨q, hq⟩ : ∃ q, (n + 7) / 8 = q := ⟨_, rfl⟩
    rw [hq] at hpl HG hsp hHL
    have hqn : n ≤ 8 * q ∧ 8 * q ≤ 1024 := by omega
    obtain ⟨N, hN⟩ : ∃ N, 8 * q = N := ⟨_, rfl⟩
    rw [hN] at hpl hqn hsp
    have hv := vput_len_u64 (2 * q + 1) (by omega)
    have hmk := run_make_row' (P := Try.prog) 62 45 (.int .u64 0) 8 Try.underlying62 (by kernel_rfl) rfl .i64 .i64 N (by omega) (by omega)
    have e0 : IntKind.i64.wrap ((q : Int) * 8) = (N : Int) := by rw [wrapi64_in _ (by omega) (by omega)]; omega
    have e00 : (q : Int) * 8 = (N : Int) := by omega
    obtain ⟨b', of, rfl, hbl, hc⟩ := h.get hn0
    have hsrc : ∀ j v, (us.map (Value.int .u64))[j]? = some v → w.cell? ((⟨b', of, none⟩ : Addr).add j) = some v := by
      intro j v hj
      have hjl : j < us.length := by have := (List.getElem?_eq_some_iff.1 hj).1; simpa using this
      rw [Addr.add_lit, hc j (by omega)]
      rw [List.getElem?_map, List.getElem?_eq_getElem hjl] at hj
      simp at hj
      simp [List.getElem?_eq_getElem hjl, hj]
    obtain ⟨cs, hcs⟩ : ∃ cs, us.map (Value.int .u64) = cs := ⟨_, rfl⟩
    have hcl : cs.length = n := by rw [← hcs]; simpa using hl
    have hc1 : ∀ v ∈ cs, v.oneCell' = true := by rw [← hcs]; exact ints_one
    obtain ⟨cur, hcur⟩ : ∃ cur, (List.replicate N (0 : Int)).map (Value.int .u64) = cur := ⟨_, rfl⟩
    have hcul : cur.length = N := by rw [← hcur]; simp
    rw [show madeCells #[Value.int .u64 0] N = cur.toArray by rw [← hcur, List.map_replicate, ← made_list]] at hmk
    rw [hcs] at hsrc
    have hsp := hsp N rfl
    rw [hcs, hcur] at hsp
    have HSP := Lib.hid hsp
    have HPK := Lib.hid (fun w A c h => pack_any A N c (hpad us) k w h hpi hqn.2 hk hpf)
    have HHL := Lib.hid hHL
    have HB := Lib.hid hb
    have HV := Lib.hid hv
    have HPL := Lib.hid hpl
    have HSRC := Lib.hid hsrc
    have HC1 := Lib.hid hc1
    have HPUT := Lib.hid (fun w h => put_any B m d bs (2 * q + 1) w h (by omega) (by omega))
    have HCU := Lib.hid hcur
    obtain ⟨hqn1, hqn2⟩ := hqn
    clear hc hl hb hv h hi hf hq hpf hpi hsp hHL hpl hsrc hcs hc1 hN hcur
    unfold runV
    go_enter Try.func67, Try.ntmps67
    go_wp2_with fail
    refine (HG.out _).mono ?_
    rintro e w' ⟨rfl, rfl⟩
    obtain ⟨W1, hW1⟩ : ∃ W1, w.alloc (.cells #[.int .i64 0, .slice (some ⟨b', of, none⟩) n c] 69) = W1 := ⟨_, rfl⟩
    have hs1 : W1.heap.size = w.heap.size + 1 := by rw [← hW1]; simp
    have hbx : W1.heap[w.heap.size]? = some (.cells #[.int .i64 0, .slice (some ⟨b', of, none⟩) n c] 69 (0, 0)) := by rw [← hW1]; exact heap_alloc_new w _
    have k1 : W1.cell? ⟨w.heap.size, 1, none⟩ = some (.slice (some ⟨b', of, none⟩) n c) := by simp [World.cell?, hbx]
    have HBW := Lib.hid (show Below w.heap.size w W1 by rw [← hW1]; exact (Below.refl _ _).alloc (Nat.le_refl _) _)
    rw [hW1]
    clear hW1 hbx
    have hp1 : Below W1.heap.size W1 (W1.alloc (.cells cur.toArray 45)) := (Below.refl _ _).alloc (Nat.le_refl _) _
    have HBLK := Lib.hid (heap_alloc_new W1 (.cells cur.toArray 45))
    have HSRC2 : Hid (∀ j v, cs[j]? = some v → (W1.alloc (.cells cur.toArray 45)).cell? ((⟨b', of, none⟩ : Addr).add j) = some v) := Lib.hid (fun j v hj => by
      have h1 := HSRC.out j v hj
      rw [Addr.add_lit] at h1 ⊢
      rw [World.cell?_of_block (w := w) (a := ⟨b', of + j, none⟩) ((HBW.out.trans (hp1.mono (by omega))).block b' hbl)]; exact h1)
    have hcp := run_copy_row (P := Try.prog) (W1.alloc (.cells cur.toArray 45)) 62 62 3 45 W1.heap.size 0 N N ⟨b', of, none⟩ n c cur.toArray 45 cs Try.underlying62 (by kernel_rfl) HBLK.out (by rw [hcl]; exact (Nat.min_eq_left hqn1).symm) HSRC2.out (by simp; omega) HC1.out
    have hrow : (cur.toArray.toList.take 0 ++ cs ++ cur.toArray.toList.drop (0 + cs.length)) = (hpad us).map (Value.int .u64) := by rw [← HSP.out]; simp [splice]
    rw [hrow, hcl] at hcp
    obtain ⟨w4, hw4⟩ : ∃ w4, (W1.alloc (.cells cur.toArray 45)).setRow W1.heap.size ((hpad us).map (Value.int .u64)).toArray = w4 := ⟨_, rfl⟩
    have hg4 : w4.heap[W1.heap.size]? = some (.cells ((hpad us).map (Value.int .u64)).toArray 45 (0, 0)) := by rw [← hw4]; exact setRow_heap _ _ _ _ _ _ HBLK.out
    have hb4 : Below W1.heap.size W1 w4 := by rw [← hw4]; exact below_setRow hp1 (Nat.le_refl _) _
    rw [hw4] at hcp
    have hown4 := owns_block (B := W1.heap.size) (n := N) (Nat.le_refl _) hg4 (by simpa using HPL.out) (by simp [maxLen]; omega)
    have HB4 := Lib.hid (HBW.out.trans (hb4.mono (by omega)))
    have HO4 := Lib.hid hown4
    have HPK4 := Lib.hid (HPK.out _ _ _ (Rd.own hown4))
    have k2 : (W1.alloc (.cells cur.toArray 45)).cell? ⟨w.heap.size, 1, none⟩ = some (.slice (some ⟨b', of, none⟩) n c) := by rw [World.cell?_of_block (w := W1) (hp1.block w.heap.size (by omega))]; exact k1
    have HS1 := Lib.hid hs1
    clear hp1 HSRC hs1 HSRC2 HBLK hrow hw4 hg4 hown4 hb4
    go_wp2_with fail
    refine HPK4.out.mono ?_
    rintro e w5 ⟨A5, m5, c5, rfl, ho5, hb5⟩
    have HO5 := Lib.hid (owns_weak ho5 HB4.out.size)
    have HB5 := Lib.hid (HB4.out.trans (hb5.mono HB4.out.size))
    have hm5 : m5 ≤ 8192 := by
      have h1 := row_len ho5
      rw [packed_len, HPL.out] at h1
      have h2 : octets (N * k) ≤ octets (1024 * 64) := by unfold octets; exact Nat.div_le_div_right (Nat.add_le_add_right (Nat.mul_le_mul hqn2 hk) _)
      have h3 : octets (1024 * 64) = 8192 := by decide
      omega
    clear ho5 hb5
    go_wp2_with fail
    have e1 : (2 : Int) * (q : Int) + 1 = ((2 * q + 1 : Nat) : Int) := by simp
    rw [e1]
    clear e1
    refine (HPUT.out _ (HB.out.below HB5.out)).mono ?_
    rintro e w6 ⟨A6, m6, c6, rfl, ho6, hb6⟩
    have HO6 := Lib.hid (owns_weak ho6 HB5.out.size)
    have HB6 := Lib.hid (HB5.out.trans (hb6.mono HB5.out.size))
    have HR5 := Lib.hid ((Rd.own HO5.out).below hb6)
    have hm6 : m6 ≤ 50010 := by have h1 := row_len ho6; have h2 := HB.out.len; have h3 := HV.out; rw [List.length_append] at h1; omega
    clear ho6 hb6
    go_wp2_with (at_builtin; refine wpList_append_r rfl rfl elemU8 HO6.out rfl (Rd.toV HR5.out) rfl ints_one (by omega) (by omega) HB6.out.size ?_; intro A3 c3 w3 hown hg _)
    have HB7 := Lib.hid (below_grown HB6.out HO6.out hg HB6.out.size)
    have hown' := owns_app hown
    rw [List.append_assoc, ← HHL.out] at hown'
    have HO7 := Lib.hid hown'
    clear hown hown' hg
    go_ret
    exact ⟨A3, _, c3, rfl, HO7.out, HB7.out⟩
end Go.Proofs.Ytbfnaigefmdcdaa

namespace Go.Cor
open Go Go.RowKit
/-- from a place on -/
theorem Rd.from_ {w : World} {k : IntKind} {ba o n c i : Nat} {xs : List Int} (h : Rd w k (some ⟨ba, o, none⟩) n c xs) (hi : i ≤ n) : Rd w k (some ⟨ba, o + i, none⟩) (n - i) (c - i) (xs.drop i) :=
  ⟨by rw [List.length_drop, h.len], by have := h.cap; omega, by have := h.max; omega, fun h => (by cases h), fun hp => by
    obtain ⟨b', o', e, hb, hc⟩ := h.get (by omega)
    injection e with e; injection e with e1 e2; subst e1 e2
    refine ⟨_, _, rfl, hb, fun k hk => ?_⟩
    rw [Nat.add_assoc, hc (i + k) (by omega)]
    simp [List.getD_eq_getElem?_getD, List.getElem?_drop]⟩
/-- a run as the walk hands it out -/
def runE (ba o c : Nat) (x : Nat × Nat × Nat) : Array Value := #[runV x.1 (some ⟨ba, o + x.2.1, none⟩) x.2.2 (c - x.2.1)]
end Go.Cor
namespace Go.Proofs.Ytbfnaigefmdcdaa
open Go.RowKit Go.Cor Go.Free

set_option maxRecDepth 100000 in
set_option maxHeartbeats 8000000 in
theorem runs_iter (ba o c n : Nat) (zs : List Int) (b : Nat) (w0 : World) (hrd : Rd w0 .u64 (some ⟨ba, o, none⟩) n c zs) (hbox : Box w0 b 62 (.slice (some ⟨ba, o, none⟩) n c)) (hne : ba ≠ b) (hn : n ≤ 1024) :
    Iter Try.prog 75 #[.pointer (some ⟨b, 0, none⟩)] (runE ba o c) (hlist 0 zs) (fun k => k = b ∨ k = ba) (fun k => k = b) w0 := by
  intro l J W hW hWs hJ hY hJ0
  refine callsIn_wide.2 ?_
  have hb0 : Box W b 62 (.slice (some ⟨ba, o, none⟩) n c) := hbox.keep hW (.inl rfl)
  have hr0 : Rd W .u64 (some ⟨ba, o, none⟩) n c zs := hrd.keep hWs fun k hk ⟨o', e⟩ => hW.block k hk (.inr (by injection e with e; injection e with e; exact e.symm))
  have HY := Lib.hid hY
  have HJ := Lib.hid hJ
  have H := Lib.hid (And.intro hb0 (And.intro hr0 hJ0))
  clear hY hJ hb0 hr0 hJ0 hrd hbox hW hWs
  go_enter Try.func75, Try.ntmps75
  go_wp2
  go_loopg [] n (fun g wr => ∃ (at_ : Nat) (V : Option Addr) (pre : List (Nat × Nat × Nat)), at_ ≤ n ∧ g = n - at_ ∧ Hid ((at_ < n → V = some ⟨ba, o + at_, none⟩) ∧ Box wr b 62 (.slice V (n - at_) (c - at_)) ∧ Rd wr .u64 (some ⟨ba, o, none⟩) n c zs ∧ hlist 0 zs = pre ++ hlist at_ (zs.drop at_) ∧ J pre wr))
  case atStart => exact ⟨0, some ⟨ba, o, none⟩, [], by omega, rfl, Lib.hid ⟨fun _ => rfl, H.out.1, H.out.2.1, by simp, H.out.2.2⟩⟩
  case round =>
    obtain ⟨at_, V, pre, hat, rfl, hI⟩ := hrel
    obtain ⟨wo, rfl⟩ : ∃ wo, wo = wr := ⟨_, rfl⟩
    have hc := cell_of_one hI.out.2.1
    have hf := free_of_one hI.out.2.1
    by_cases hlt : at_ < n
    · obtain rfl := hI.out.1 hlt
      have hL := hI.out.2.2.1.from_ (i := at_) (by omega)
      obtain ⟨L, hLe⟩ : ∃ L, n - at_ = L := ⟨_, rfl⟩
      obtain ⟨C, hCe⟩ : ∃ C, c - at_ = C := ⟨_, rfl⟩
      obtain ⟨zl, hze⟩ : ∃ zl, zs.drop at_ = zl := ⟨_, rfl⟩
      rw [hLe, hCe] at hc hL
      rw [hze] at hL
      have HL := Lib.hid hL
      have HE := Lib.hid (And.intro hLe (And.intro hCe hze))
      have hL0 : 0 < L := by omega
      have hLn : L ≤ 1024 := by omega
      have HS := Lib.hid (fun w h => same_any (some ⟨ba, o + at_, none⟩) L C zl w h (by omega))
      have hse := same_le zl
      rw [hL.len] at hse
      clear hL hLe hCe hze
      obtain ⟨s, hs⟩ : ∃ s, same zl = s := ⟨_, rfl⟩
      rw [hs] at HS hse
      go_wp2_with fail
      refine (HS.out _ HL.out).mono ?_
      rintro e w1 ⟨rfl, hb1⟩
      have HB1 := Lib.hid hb1
      clear hb1
      go_upto_if 14 with fail
      obtain ⟨p, hp⟩ : ∃ p, w1.heap.size = p := ⟨_, rfl⟩
      obtain ⟨W2, hW2⟩ : ∃ W2, w1.alloc (.cells #[.int .i64 (s : Int), .slice none 0 0] 69) = W2 := ⟨_, rfl⟩
      have hP : W2.heap[p]? = some (.cells #[.int .i64 (s : Int), .slice none 0 0] 69 (0, 0)) := by rw [← hW2, ← hp]; exact heap_alloc_new w1 _
      have hpw : wo.heap.size ≤ p := by rw [← hp]; exact HB1.out.size
      have hb2 : Below wo.heap.size wo W2 := by rw [← hW2]; exact HB1.out.alloc HB1.out.size _
      rw [hp, hW2]
      have HP := Lib.hid hP
      have HB2 := Lib.hid hb2
      have hbw : b < wo.heap.size := lt_of_block hI.out.2.1
      clear hP hb2 hW2 hp HB1 hc hf
      go_cut [] from 6 to 55 (fun wx => ∃ (o' m cl : Nat) (SV : Option Addr), Hid (wx.heap[p]? = some (.cells #[.int .i64 (o' : Int), .slice SV m cl] 69 (0, 0)) ∧ Below wo.heap.size wo wx ∧ ((8 ≤ s ∧ o' = s ∧ m = 0) ∨ (s < 8 ∧ o' = 0 ∧ SV = some ⟨ba, o + at_, none⟩ ∧ m = htak zl ∧ cl = C))))
      case first =>
        by_cases h8 : s < 8
        · have k0 : W2.cell? ⟨p, 0, none⟩ = some (.int .i64 (s : Int)) := by simp [World.cell?, HP.out]
          have f0 : W2.frozen? ⟨p, 0, none⟩ = false := by simp [World.frozen?, HP.out]
          have hP3 := Joins.block_setCell (i := 0) HP.out (.int .i64 0)
          have HP3 := Lib.hid hP3
          have HB3 := Lib.hid (HB2.out.setCell (p := ⟨p, 0, none⟩) hpw (.int .i64 0))
          clear hP3
          go_upto_block 2 with fail
          obtain ⟨W3, hW3⟩ : ∃ W3, W2.setCell ⟨p, 0, none⟩ (.int .i64 0) = W3 := ⟨_, rfl⟩
          rw [hW3] at HP3 HB3 ⊢
          obtain ⟨d14, hd14⟩ : ∃ d, decide ((s : Int) < 8) = d := ⟨_, rfl⟩
          rw [hd14]
          clear hd14
          have hP3' : W3.heap[p]? = some (.cells #[.int .i64 0, .slice none 0 0] 69 (0, 0)) := by simpa using HP3.out
          have HQ3 := Lib.hid hP3'
          clear hP3' HP3 hW3 k0 f0 HP HB2
          go_wp2_with fail
          go_loopg [4] (L + 8) (fun gi v4 wr => ∃ q : Nat, v4 = .int .i64 (q : Int) ∧ q ≤ L + 7 ∧ gi = L + 8 - q ∧ ∃ (g m cl : Nat) (SV : Option Addr), Hid (q = 8 * g ∧ hgr L zl = g + hgr (L - g) (zl.drop q) ∧ wr.heap[p]? = some (.cells #[.int .i64 0, .slice SV m cl] 69 (0, 0)) ∧ (0 < g → SV = some ⟨ba, o + at_, none⟩ ∧ m = min q L ∧ cl = C) ∧ Below wo.heap.size wo wr))
          case atStart => exact ⟨0, rfl, by omega, by omega, 0, 0, 0, none, Lib.hid ⟨rfl, by simp, HQ3.out, fun h => by omega, HB3.out⟩⟩
          case round =>
            obtain ⟨q, rfl, hq, rfl, g, m, cl, SV, hK⟩ := hrel
            have hcb : wr.cell? ⟨b, 0, none⟩ = some (.slice (some ⟨ba, o + at_, none⟩) L C) := by
              have h1 := cell_of_one (hI.out.2.1.below hK.out.2.2.2.2 hbw)
              rw [HE.out.1, HE.out.2.1] at h1; exact h1
            have hCL : L ≤ C := HL.out.cap
            by_cases hqL : q < L
            · have hd : decide ((q : Int) < (L : Int)) = true := by simp; omega
              have hsl : ∀ w, (Instr.sliceAt 62 (.slice (some ⟨ba, o + at_, none⟩) L C) (some (.int .i64 q)) none none).run Try.prog w = .ok (.slice (some ⟨ba, o + at_ + q, none⟩) (L - q) (C - q)) w := by
                intro w
                have := run_l (P := Try.prog) (w := w) elemU64 (some ⟨ba, o + at_, none⟩) L C (l := q) (by omega) .i64
                rw [if_neg (show ¬ C = q by omega)] at this
                simpa [Addr.add_lit] using this
              have HS2 := Lib.hid (same_any (some ⟨ba, o + at_ + q, none⟩) (L - q) (C - q) (zl.drop q) wr ((HL.out.below (hK.out.2.2.2.2)).from_ (by omega)) (by omega))
              have hfu : L - g = (L - (g + 1)) + 1 := by have := hK.out.1; omega
              have hgr1 := hK.out.2.1
              rw [hfu, hgr] at hgr1
              have hzne : zl.drop q ≠ [] := fun e => by have := congrArg List.length e; rw [List.length_drop, HL.out.len] at this; simp at this; omega
              obtain ⟨s2, hs2⟩ : ∃ s2, same (zl.drop q) = s2 := ⟨_, rfl⟩
              rw [hs2] at HS2 hgr1
              by_cases h82 : s2 < 8
              · rw [if_neg (by simp [hzne]; omega)] at hgr1
                have HG1 := Lib.hid hgr1
                have hd2 : decide ((s2 : Int) < 8) = true := by simp; omega
                clear hgr1 hfu hzne hs2
                have hcw := HS2.out
                go_wp2_with fail
                refine HS2.out.mono ?_
                rintro e w2 ⟨rfl, hb2⟩
                have hK2 := (hb2.block p (lt_of_block hK.out.2.2.1)).trans hK.out.2.2.1
                have hcb2 : w2.cell? ⟨b, 0, none⟩ = some (.slice (some ⟨ba, o + at_, none⟩) L C) := by rw [World.cell?_of_block (w := wr) (hb2.block b (by have := hK.out.2.2.2.2.size; omega))]; exact hcb
                have k1 : w2.cell? ⟨p, 1, none⟩ = some (.slice SV m cl) := by simp [World.cell?, hK2]
                have f1 : w2.frozen? ⟨p, 1, none⟩ = false := by simp [World.frozen?, hK2]
                have HB2 := Lib.hid (hK.out.2.2.2.2.trans (hb2.mono hK.out.2.2.2.2.size))
                have HK2 := Lib.hid hK2
                clear hb2 hK2 hcb hcw
                go_wp2_with fail
                go_roundg (L - q)
                case measure => omega
                case rel =>
                  have h1 := Joins.block_setCell (i := 1) HK2.out (.slice (some ⟨ba, o + at_, none⟩) (min ((q : Int) + 8) (L : Int)).toNat C)
                  exact ⟨q + 8, by go_num, by omega, by omega, g + 1, (min ((q : Int) + 8) (L : Int)).toNat, C, some ⟨ba, o + at_, none⟩, Lib.hid ⟨by have := hK.out.1; omega, by rw [HG1.out, List.drop_drop]; omega, by simpa using h1, fun _ => ⟨rfl, by omega, rfl⟩, HB2.out.setCell (p := ⟨p, 1, none⟩) hpw _⟩⟩
              · rw [if_pos (by simp; omega)] at hgr1
                have hg0 : 0 < g := by
                  rcases Nat.eq_zero_or_pos g with h0 | h0
                  · have := hK.out.1; rw [h0] at this; subst this; rw [List.drop_zero, hs] at hs2; omega
                  · exact h0
                have HG1 := Lib.hid hgr1
                have hd2 : decide ((s2 : Int) < 8) = false := by simp; omega
                clear hgr1 hfu hzne hs2
                go_wp2_with fail
                refine HS2.out.mono ?_
                rintro e w2 ⟨rfl, hb2⟩
                have HK2 := Lib.hid ((hb2.block p (lt_of_block hK.out.2.2.1)).trans hK.out.2.2.1)
                have HB2 := Lib.hid (hK.out.2.2.2.2.trans (hb2.mono hK.out.2.2.2.2.size))
                clear hb2
                go_wp2_with fail
                go_meet
                obtain ⟨e1, e2, e3⟩ := hK.out.2.2.2.1 hg0
                refine ⟨0, m, cl, SV, Lib.hid ⟨HK2.out, HB2.out, .inr ⟨h8, rfl, e1, ?_, e3⟩⟩⟩
                rw [e2]; unfold htak; rw [if_neg (by rw [hs]; omega), HL.out.len, HG1.out, hK.out.1]; rfl
            · have hd : decide ((q : Int) < (L : Int)) = false := by simp; omega
              have hg0 : 0 < g := by have := hK.out.1; omega
              have hgr1 := hK.out.2.1
              rw [List.drop_of_length_le (by rw [HL.out.len]; omega)] at hgr1
              have hz0 : ∀ f, hgr f [] = 0 := fun f => by cases f <;> simp [hgr]
              rw [hz0] at hgr1
              have HG1 := Lib.hid hgr1
              clear hgr1 hz0
              go_wp2_with fail
              go_meet
              obtain ⟨e1, e2, e3⟩ := hK.out.2.2.2.1 hg0
              refine ⟨0, m, cl, SV, Lib.hid ⟨hK.out.2.2.1, hK.out.2.2.2.2, .inr ⟨h8, rfl, e1, ?_, e3⟩⟩⟩
              rw [e2]; unfold htak; rw [if_neg (by rw [hs]; omega), HL.out.len, HG1.out, hK.out.1]; rfl
        · go_wp2_with fail
          go_meet
          exact ⟨s, 0, 0, none, Lib.hid ⟨HP.out, HB2.out, .inl ⟨by omega, rfl, rfl⟩⟩⟩
      case rest =>
        obtain ⟨o', m, cl, SV, hC⟩ := hcut
        have k0 : wc.cell? ⟨p, 0, none⟩ = some (.int .i64 (o' : Int)) := by simp [World.cell?, hC.out.1]
        have k1 : wc.cell? ⟨p, 1, none⟩ = some (.slice SV m cl) := by simp [World.cell?, hC.out.1]
        have hcb : wc.cell? ⟨b, 0, none⟩ = some (.slice (some ⟨ba, o + at_, none⟩) L C) := by
          have h1 := cell_of_one (hI.out.2.1.below hC.out.2.1 hbw)
          rw [HE.out.1, HE.out.2.1] at h1; exact h1
        go_upto_if 45 with fail
        have hht : 8 ≤ s → htak zl = s := fun h => by unfold htak; rw [if_pos (by rw [hs]; exact h), hs]
        obtain ⟨t, ht⟩ : ∃ t, htak zl = t := ⟨_, rfl⟩
        have hmax : max (o' : Int) (m : Int) = (t : Int) := by
          rcases hC.out.2.2 with ⟨h1, h2, h3⟩ | ⟨h1, h2, h3, h4, h5⟩
          · have := hht h1; omega
          · omega
        rw [hmax]
        have HT := Lib.hid (And.intro ht hht)
        clear hmax ht hht
        go_cut [] from 6 to 55 (fun wx => ∃ x1 x2 : Nat, Hid (wx.heap[p]? = some (.cells #[.int .i64 (x1 : Int), .slice (some ⟨ba, o + at_, none⟩) x2 C] 69 (0, 0)) ∧ Below wo.heap.size wo wx ∧ (if 8 ≤ s then (s, at_, 1) else (0, at_, t)) = (x1, at_, x2)))
        case first =>
          rcases hC.out.2.2 with ⟨h1, rfl, rfl⟩ | ⟨h1, rfl, rfl, h4, rfl⟩
          · have ho : decide (0 < o') = true := by simp; omega
            have hlt2 : (1 : Nat) ≤ C := by have := HL.out.cap; omega
            have f1 : wc.frozen? ⟨p, 1, none⟩ = false := by simp [World.frozen?, hC.out.1]
            go_wp2_with fail
            go_meet
            have h2 := Joins.block_setCell (i := 1) hC.out.1 (.slice (some ⟨ba, o + at_, none⟩) 1 C)
            exact ⟨o', 1, Lib.hid ⟨by simpa using h2, hC.out.2.1.setCell (p := ⟨p, 1, none⟩) hpw _, by rw [if_pos h1]⟩⟩
          · have ho : decide ((0 : Nat) < 0) = false := by simp
            go_wp2_with fail
            go_meet
            exact ⟨0, m, Lib.hid ⟨hC.out.1, hC.out.2.1, by rw [if_neg (by omega), h4, HT.out.1]⟩⟩
        case rest =>
          obtain ⟨x1, x2, hD⟩ := hcut
          obtain ⟨wd, rfl⟩ : ∃ wd, wd = wc := ⟨_, rfl⟩
          have hzne : zl ≠ [] := fun e => by have := HL.out.len; rw [e] at this; simp at this; omega
          have hJw := HJ.out pre wo wd hI.out.2.2.2.2 (.of_below hD.out.2.1)
          have hli := hI.out.2.2.2.1
          rw [HE.out.2.2, hlist_step at_ hzne, hs, HT.out.1, hD.out.2.2] at hli
          obtain ⟨fn, tmps, assign, body, hy, hR⟩ := HY.out pre (x1, at_, x2) wd ⟨_, by rw [hli, List.append_assoc]; rfl⟩ hJw
          have hy' : (Instr.yield l #[.agg #[.int .i64 (x1 : Int), .slice (some ⟨ba, o + at_, none⟩) x2 C]]).run Try.prog wd = .ok (.round l fn tmps assign body) wd := by
            have h1 := hy; unfold runE runV at h1; simp only at h1; rw [HE.out.2.1] at h1; exact h1
          have k0' : wd.cell? ⟨p, 0, none⟩ = some (.int .i64 (x1 : Int)) := by simp [World.cell?, hD.out.1]
          have k1' : wd.cell? ⟨p, 1, none⟩ = some (.slice (some ⟨ba, o + at_, none⟩) x2 C) := by simp [World.cell?, hD.out.1]
          have HLI := Lib.hid hli
          have HRR := Lib.hid hR
          clear hli hy hJw k0 k1 hcb hC hR
          go_upto_region 11 with fail
          refine (wpIn_wide (n := 0)).1 ?_
          gi_wp2
          refine ⟨rfl, HRR.out.mono ?_⟩
          rintro e W3 ⟨rfl, hJ3, hk3⟩
          have hbd : Box wd b 62 (.slice (some ⟨ba, o + at_, none⟩) L C) := by
            have h1 := hI.out.2.1.below hD.out.2.1 hbw
            rw [HE.out.1, HE.out.2.1] at h1; exact h1
          have hb3 := hbd.keep hk3 (.inl rfl)
          have hr3 : Rd W3 .u64 (some ⟨ba, o, none⟩) n c zs := (hI.out.2.2.1.below hD.out.2.1).keep hk3.size fun k hk ⟨o', e⟩ => hk3.block k hk (.inr (by injection e with e; injection e with e; exact e.symm))
          have hc3 := cell_of_one hb3
          have hf3 := free_of_one hb3
          have HB3 := Lib.hid hb3
          have HR3 := Lib.hid hr3
          have HJ3 := Lib.hid hJ3
          have htL : t ≤ L := by have h1 := htak_le zl; rw [HL.out.len] at h1; have := HT.out.1; omega
          have ht0 : 1 ≤ t := by have := htak_pos hzne; have := HT.out.1; omega
          have hsl := fun w => run_l (P := Try.prog) (w := w) elemU64 (some ⟨ba, o + at_, none⟩) L C (l := t) htL .i64
          obtain ⟨V, hV⟩ : ∃ V, (if C = t then some (⟨ba, o + at_, none⟩ : Addr) else (some (⟨ba, o + at_, none⟩ : Addr)).map (·.add (t * 1))) = V := ⟨_, rfl⟩
          rw [hV] at hsl
          have HV := Lib.hid hV
          clear hbd hb3 hr3 hJ3 hk3 HRR hy' k0' k1' HY hV
          gi_wp2
          go_wp2_with fail
          go_roundg (n - (at_ + t))
          case measure => have := HE.out.1; omega
          case rel =>
            refine ⟨at_ + t, V, pre ++ [(x1, at_, x2)], by have := HE.out.1; omega, rfl, Lib.hid ⟨fun h => ?_, ?_, ?_, ?_, ?_⟩⟩
            · rw [← HV.out, if_neg (by have := HL.out.cap; have := HE.out.1; omega)]
              simp [Addr.add_lit, Nat.add_assoc]
            · have h1 := one_setCell (u := .slice V (L - t) (C - t)) HB3.out
              rw [show n - (at_ + t) = L - t by have := HE.out.1; omega, show c - (at_ + t) = C - t by have := HE.out.2.1; omega]
              exact h1
            · exact HR3.out.setCell (p := ⟨b, 0, none⟩) (fun b' o' e => by injection e with e; injection e with e; rw [← e]; exact hne) _
            · rw [HLI.out, ← HE.out.2.2, List.drop_drop]; simp
            · exact HJ.out _ _ _ HJ3.out (.setCell _ (fun h => h rfl) _)
    · obtain rfl : at_ = n := by omega
      have hli := hI.out.2.2.2.1
      have hl0 : zs.drop at_ = [] := List.drop_of_length_le (by rw [hI.out.2.2.1.len]; exact Nat.le_refl _)
      rw [hl0, hlist_nil, List.append_nil] at hli
      rw [Nat.sub_self] at hc
      have HLI := Lib.hid hli
      clear hli hl0
      go_wp2
      go_end0
      exact ⟨⟨_, rfl⟩, by rw [HLI.out]; exact hI.out.2.2.2.2⟩
end Go.Proofs.Ytbfnaigefmdcdaa

namespace Go.Free
open Go.RowKit
def noDefer (l : List Oper) : Bool := l.all fun o => match o.op with | .defer _ => false | _ => true
theorem noDefer_spec {l : List Oper} (h : noDefer l = true) {i : Nat} {o : Oper} (ho : l[i]? = some o) : ∀ c, o.op ≠ .defer c := by
  intro c e
  have h1 := List.all_eq_true.1 h o (List.mem_of_getElem? ho)
  simp [e] at h1
section
variable {P : Program} {Q : Exit → Act → World → Prop} {r : Nat}
theorem anyG_in {ops : Array Oper} : ∀ (fuel : Nat) (listed : Array Bool), AnyG (fun i K => wpOpIn (Fence.wide.inRound r) 0 P ops Q i K) ops (Q .normal) fuel listed = wpAnyIn (Fence.wide.inRound r) 0 P .any ops Q fuel listed
  | 0, _ => rfl
  | fuel + 1, listed => by funext a w; simp only [AnyG, wpAnyIn, anyG_in fuel]
theorem wpOpIn_of_oblig {l : List Oper} {a0 : Act} {w0 : World} {done : Done} {F : Fact} {i : Nat} {o : Oper} {a : Act} {w : World} {K : Act → World → Prop} (hnd : ∀ c, o.op ≠ .defer c) (ho : l[i]? = some o)
    (hob : Oblig P l.toArray a0 w0 done o F) (hb : Below w0.heap.size w0 w) (hs : ∀ s ∈ o.looksAt l.toArray, look a0 done s (a.tmps.getD s undef) w)
    (hK : ∀ v w', Below w.heap.size w w' → F v w' → K (a.put o.dst v) w') : wpOpIn (Fence.wide.inRound r) 0 P l.toArray Q i K a w := by
  have h := hob a.eval w (Env.of_act a) hb hs
  unfold wpOpIn
  simp only [List.getElem?_toArray, ho]
  rw [yielded_eq]
  split
  · rename_i hw
    rw [if_pos hw] at h
    refine ⟨fun _ _ => trivial, ?_⟩
    rw [Oper.semAt_eq _ _ _ hnd]
    generalize (execOp a.eval o).run P w = q at h
    cases q with
    | ok x w' =>
      cases x <;> simp only [upon] at h <;> simp only [Oper.uponIn]
      case value v => exact hK _ _ h.1 h.2
      case skip => exact hK _ _ h.1 h.2
      case enter f args =>
        obtain ⟨h1, h2⟩ := h
        refine ⟨fun hd => (by cases hd), CallsIn.inRound r (callsIn_wide.2 (h2.mono ?_))⟩
        rintro e w'' ⟨v, rfl, h3, h4⟩
        exact hK _ _ (h1.trans ⟨h3.os, h3.tape, h3.output, h3.size, fun k hk => h3.block k (Nat.lt_of_lt_of_le hk h1.size)⟩) h4
    | halt x w' => simp only [upon] at h
  · rename_i hw
    rw [if_neg hw] at h
    exact ⟨fun _ _ => trivial, hK _ _ (Below.refl _ _) h⟩
theorem seq_wpListIn {l : List Oper} : ∀ (f k : Nat), k + f = l.length → seqG (fun i K => wpOpIn (Fence.wide.inRound r) 0 P l.toArray Q i K) (Q .normal) f k = wpListIn (Fence.wide.inRound r) 0 P l.toArray Q (l.drop k)
  | 0, k, h => by rw [List.drop_of_length_le (by omega)]; rfl
  | f + 1, k, h => by
    have hk : k < l.length := by omega
    rw [List.drop_eq_getElem_cons hk]
    funext a w
    simp only [seqG, wpListIn, wpOpIn, List.getElem?_toArray, List.getElem?_eq_getElem hk, seq_wpListIn (l := l) f (k + 1) (by omega)]
theorem wpIn_region_free {id : Nat} {l : List Oper} {a0 : Act} {w0 : World} (n : Nat) (hm : P.follows .mixedOrders = true) (hc : checkB l n a0.tmps.size = true) (hd : noDefer l = true)
    (h : Chain P l.toArray a0 w0 (fun rest a w => wpListIn (Fence.wide.inRound r) 0 P l.toArray Q rest a w) n [] l) : (Code.region id l.toArray true).wpIn (Fence.wide.inRound r) 0 P Q a0 w0 := by
  obtain ⟨Fs, h1, h2, h3⟩ := chain_out (l := l) n 0 (fun _ _ _ => False) (fun i hi => by omega) (fun i hi => by omega) h
  have hn : n ≤ l.length := by
    simp only [checkB, Bool.and_eq_true, decide_eq_true_eq] at hc
    exact hc.2
  simp only [Nat.zero_add] at h1 h2 h3
  refine wpIn_region_any hm ?_
  have e : wpAnyIn (Fence.wide.inRound r) 0 P .any l.toArray Q l.toArray.size (Array.replicate l.toArray.size false) a0 { w0 with drawn := w0.drawn + 1 } =
      AnyG (fun i K => wpOpIn (Fence.wide.inRound r) 0 P l.toArray Q i K) l.toArray (Q .normal) l.toArray.size (Array.replicate l.toArray.size false) a0 { w0 with drawn := w0.drawn + 1 } := by rw [anyG_in]
  rw [e]
  have hrep : ∀ j, (Array.replicate l.toArray.size false).getD j false = false := fun j => by
    rcases Nat.lt_or_ge j l.length with h | h
    · simp [h]
    · simp [h]
  refine head_any (op := fun i K => wpOpIn (Fence.wide.inRound r) 0 P l.toArray Q i K) (N := Q .normal) (l := l) (Fs := Fs) (vals := fun _ => undef) hc (fun i K K' a w h => wpOpIn_mono h) h1 (fun i o a w K hi ho hb hs hK => wpOpIn_of_oblig (a := a) (w := w) (K := K) (noDefer_spec hd ho) ho (h2 i hi o ho) hb hs hK) ?_ _ _ _ _ ?_ ?_
  · intro vals w hb hv
    rw [seq_wpListIn _ _ (by omega)]
    exact ends_out a0 n hv (h3 w hb)
  · have : ∀ k, unl (Array.replicate l.toArray.size false) k ≤ k := by
      intro k
      induction k with
      | zero => exact Nat.le_refl _
      | succ k ih => simp only [unl]; split <;> omega
    simpa using this l.length
  · refine ⟨by simp, fun i o _ hl => (by rw [hrep] at hl; cases hl), fun i hl => (by rw [hrep] at hl; cases hl), ⟨rfl, rfl, rfl, Nat.le_refl _, fun _ _ => rfl⟩, rfl, rfl, fun i hl => (by rw [hrep] at hl; cases hl), ?_⟩
    intro s k hcut
    have : ∀ j < k, (l[j]?).bind (·.dst) ≠ some s := fun j hj hd => by
      have := (hcut j hd).2 hj
      rw [hrep] at this; cases this
    have key : ∀ m ≤ k, (frm l a0 (fun _ => undef) m).tmps.getD s undef = a0.tmps.getD s undef := by
      intro m
      induction m with
      | zero => intro _; rfl
      | succ m ih => intro hm; simp only [frm]; rw [put_other _ _ _ _ (this m (by omega))]; exact ih (by omega)
    rw [key k (Nat.le_refl _)]
end
end Go.Free
