/-
  Chapter 10: a run's size, a run's bytes.
-/
import Derived.Laws.CopyOwn
import Derived.Deep.OwnRows
import Derived.Test.YtbfnaigefmdcdaaG14
import Derived.Test.YtbfnaigefmdcdaaG21
namespace Go.Cor
open Go Go.RowKit
/-- a run, by value -/
def runV (o : Nat) (A : Option Addr) (n c : Nat) : Value := .agg #[.int .i64 o, .slice A n c]
theorem hpad_splice (us : List Int) (N : Nat) (hN : N = 8 * ((us.length + 7) / 8)) : splice ((List.replicate N (0 : Int)).map (Value.int .u64)) 0 (us.map (Value.int .u64)) = (hpad us).map (Value.int .u64) := by
  unfold splice hpad
  rw [List.take_zero, List.nil_append, Nat.zero_add, List.length_map, ← List.map_drop, ← List.map_append, List.drop_replicate, hN]
theorem owns_block {w : World} {B g n : Nat} {E : TypeId} {vs : List Value} (hB : B ≤ g) (hg : w.heap[g]? = some (.cells vs.toArray E (0, 0))) (hn : vs.length = n) (hm : n ≤ maxLen) : w.ownsRow B E 1 (.slice (some ⟨g, 0, none⟩) n n) n vs :=
  ⟨by simpa using hn, .inr ⟨g, n, vs.toArray, rfl, hB, hg, Nat.le_refl _, hm, by simpa using hn, by rw [Nat.mul_one]; exact List.take_of_length_le (by show vs.length ≤ n; omega)⟩⟩
end Go.Cor
namespace Go.Proofs.Ytbfnaigefmdcdaa
open Go.RowKit Go.Cor Go.Free

set_option maxRecDepth 100000 in
set_option maxHeartbeats 2000000 in
theorem rsize_any (o : Nat) (A : Option Addr) (n c : Nat) (us : List Int) (k : Nat) (w : World) (h : us.length = n) (hk : k ≤ 64) (hn : n ≤ 1024) (ho : o ≤ 1200) :
    Calls Try.prog 49 #[runV o A n c, .int .i64 k] w fun e w' => e = .returned (.int .i64 ((hput k o us).length : Nat)) ∧ Below w.heap.size w w' := by
  by_cases h0 : 0 < o
  · have hl : (hput k o us).length = (vput (2 * o)).length + octets k := by rw [hput, if_pos h0, List.length_append, leb_len]
    have hv := vput_len_u64 (2 * o) (by omega)
    have hoc : octets k ≤ 8 := by unfold octets; omega
    rw [hl]
    have HS := Lib.hid (fun w => size_any (2 * o) w (by omega))
    have HW := Lib.hid (fun w => hwide_any k hk w)
    obtain ⟨m, hm⟩ : ∃ m, (vput (2 * o)).length = m := ⟨_, rfl⟩
    obtain ⟨q, hq⟩ : ∃ q, octets k = q := ⟨_, rfl⟩
    rw [hm] at hv HS ⊢
    rw [hq] at hoc HW ⊢
    clear hl h hm hq
    unfold runV
    go_enter Try.func49, Try.ntmps49
    go_wp2_with fail
    have e1 : (2 : Int) * (o : Int) = ((2 * o : Nat) : Int) := by simp
    rw [e1]
    clear e1
    refine (HS.out _).mono ?_
    rintro e w1 ⟨rfl, hb1⟩
    have HB := Lib.hid (((Below.refl w.heap.size w).alloc (Nat.le_refl _) _).trans (hb1.mono (by simp)))
    clear hb1
    go_wp2_with fail
    refine (HW.out _).mono ?_
    rintro e w2 ⟨rfl, rfl⟩
    go_wp2
    go_ret
    exact ⟨ret_i (by omega), HB.out⟩
  · obtain rfl : o = 0 := by omega
    have hl : (hput k 0 us).length = (vput (2 * ((n + 7) / 8) + 1)).length + (n + 7) / 8 * k := by
      rw [hput, if_neg h0, List.length_append, h]
      congr 1
      rw [packr_in (by rw [hpad_len, h]; omega), packed_len, hpad_len, h, oct8]
    have hv := vput_len_u64 (2 * ((n + 7) / 8) + 1) (by omega)
    rw [hl]
    obtain ⟨q, hq⟩ : ∃ q, (n + 7) / 8 = q := ⟨_, rfl⟩
    have HG := Lib.hid (fun w => groups_any n (by omega) w)
    rw [hq] at hv HG ⊢
    have HS := Lib.hid (fun w => size_any (2 * q + 1) w (by omega))
    obtain ⟨m, hm⟩ : ∃ m, (vput (2 * q + 1)).length = m := ⟨_, rfl⟩
    rw [hm] at hv HS ⊢
    have hqk : q * k ≤ 128 * 64 := Nat.mul_le_mul (by omega) hk
    have hqk0 := Lib.hid hqk
    clear hl h hm
    unfold runV
    go_enter Try.func49, Try.ntmps49
    go_wp2
    obtain ⟨W1, hW1⟩ : ∃ W1, w.alloc (.cells #[.int .i64 0, .slice A n c] 69) = W1 := ⟨_, rfl⟩
    have hs1 : W1.heap.size = w.heap.size + 1 := by rw [← hW1]; simp
    have hbx : W1.heap[w.heap.size]? = some (.cells #[.int .i64 0, .slice A n c] 69 (0, 0)) := by rw [← hW1]; exact heap_alloc_new w _
    have k1 : W1.cell? ⟨w.heap.size, 1, none⟩ = some (.slice A n c) := by simp [World.cell?, hbx]
    have hp : w.heap.size < W1.heap.size := by omega
    have HB0 := Lib.hid (show Below w.heap.size w W1 by rw [← hW1]; exact (Below.refl _ _).alloc (Nat.le_refl _) _)
    rw [hW1]
    clear hW1 hbx
    refine wp_region_free 16 (by kernel_rfl) (by kernel_rfl) ?_
    refine chain_val (.pointer (some ⟨w.heap.size, 1, none⟩)) (S := [2]) rfl ?_ ?_
    · intro ρ w' hE hB hs
      have h2 : ρ (.tmp 2) = .pointer (some ⟨w.heap.size, 0, none⟩) := hs 2 (by decide)
      clear hs
      refine if_t (by rfl) ?_
      (go_simp <;> exact wrapi64_in _ (by omega) (by omega))
    refine chain_val (.slice A n c) (S := [16]) rfl ?_ ?_
    · intro ρ w' hE hB hs
      have h16 : ρ (.tmp 16) = .pointer (some ⟨w.heap.size, 1, none⟩) := hs 16 (by decide)
      clear hs
      refine if_t (by rfl) ?_
      have hcl := (hB.cell (p := ⟨w.heap.size, 1, none⟩) hp).trans k1
      go_simp
    refine chain_val (.int .i64 (n : Nat)) (S := [17]) rfl ?_ ?_
    · intro ρ w' hE hB hs
      have h17 : ρ (.tmp 17) = .slice A n c := hs 17 (by decide)
      clear hs
      refine if_t (by rfl) ?_
      (go_simp <;> exact wrapi64_in _ (by omega) (by omega))
    refine chain_static (fun v__ _ => v__ = .int .i64 (q : Int)) (stable_eq _) (S := [18]) rfl (Go.Cor.enters_f Try.func78 (by kernel_rfl) rfl) rfl ?_ ?_
    · intro ρ w' hE hB hs
      have h18 : ρ (.tmp 18) = .int .i64 (n : Nat) := hs 18 (by decide)
      clear hs
      refine ⟨(by rfl), ?_⟩
      simp only [List.map_toArray, List.map_cons, List.map_nil, h18]
      refine (HG.out _).mono ?_
      rintro e w3 ⟨rfl, rfl⟩
      exact ⟨_, rfl, Below.refl _ _, rfl⟩
    refine chain_val (.int .i64 (2 * (q : Int))) (S := [19]) rfl ?_ ?_
    · intro ρ w' hE hB hs
      have h19 : ρ (.tmp 19) = .int .i64 (q : Int) := hs 19 (by decide)
      clear hs
      have hc := hE.const
      refine if_t (by rfl) ?_
      (go_simp <;> exact wrapi64_in _ (by omega) (by omega))
    refine chain_val (.int .i64 (2 * (q : Int) + 1)) (S := [20]) rfl ?_ ?_
    · intro ρ w' hE hB hs
      have h20 : ρ (.tmp 20) = .int .i64 (2 * (q : Int)) := hs 20 (by decide)
      clear hs
      have hc := hE.const
      refine if_t (by rfl) ?_
      (go_simp <;> exact wrapi64_in _ (by omega) (by omega))
    refine chain_val (.int .u64 ((2 * q + 1 : Nat) : Int)) (S := [21]) rfl ?_ ?_
    · intro ρ w' hE hB hs
      have h21 : ρ (.tmp 21) = .int .i64 (2 * (q : Int) + 1) := hs 21 (by decide)
      clear hs
      refine if_t (by rfl) ?_
      go_simp
      (rw [wrapu64_in _ (by omega) (by omega)])
    refine chain_static (fun v__ _ => v__ = .int .i64 (m : Int)) (stable_eq _) (S := [22]) rfl (Go.Cor.enters_f Try.func35 (by kernel_rfl) rfl) rfl ?_ ?_
    · intro ρ w' hE hB hs
      have h22 : ρ (.tmp 22) = .int .u64 ((2 * q + 1 : Nat) : Int) := hs 22 (by decide)
      clear hs
      refine ⟨(by rfl), ?_⟩
      simp only [List.map_toArray, List.map_cons, List.map_nil, h22]
      refine (HS.out _).mono ?_
      rintro e w3 ⟨rfl, hb⟩
      exact ⟨_, rfl, hb, rfl⟩
    refine chain_val (.pointer (some ⟨w.heap.size, 1, none⟩)) (S := [2]) rfl ?_ ?_
    · intro ρ w' hE hB hs
      have h2 : ρ (.tmp 2) = .pointer (some ⟨w.heap.size, 0, none⟩) := hs 2 (by decide)
      clear hs
      refine if_t (by rfl) ?_
      (go_simp <;> exact wrapi64_in _ (by omega) (by omega))
    refine chain_val (.slice A n c) (S := [24]) rfl ?_ ?_
    · intro ρ w' hE hB hs
      have h24 : ρ (.tmp 24) = .pointer (some ⟨w.heap.size, 1, none⟩) := hs 24 (by decide)
      clear hs
      refine if_t (by rfl) ?_
      have hcl := (hB.cell (p := ⟨w.heap.size, 1, none⟩) hp).trans k1
      go_simp
    refine chain_val (.int .i64 (n : Nat)) (S := [25]) rfl ?_ ?_
    · intro ρ w' hE hB hs
      have h25 : ρ (.tmp 25) = .slice A n c := hs 25 (by decide)
      clear hs
      refine if_t (by rfl) ?_
      (go_simp <;> exact wrapi64_in _ (by omega) (by omega))
    refine chain_static (fun v__ _ => v__ = .int .i64 (q : Int)) (stable_eq _) (S := [26]) rfl (Go.Cor.enters_f Try.func78 (by kernel_rfl) rfl) rfl ?_ ?_
    · intro ρ w' hE hB hs
      have h26 : ρ (.tmp 26) = .int .i64 (n : Nat) := hs 26 (by decide)
      clear hs
      refine ⟨(by rfl), ?_⟩
      simp only [List.map_toArray, List.map_cons, List.map_nil, h26]
      refine (HG.out _).mono ?_
      rintro e w3 ⟨rfl, rfl⟩
      exact ⟨_, rfl, Below.refl _ _, rfl⟩
    refine chain_val (.int .i64 (k : Int)) (S := [1]) rfl ?_ ?_
    · intro ρ w' hE hB hs
      have h1 : ρ (.tmp 1) = .int .i64 (k : Int) := hs 1 (by decide)
      clear hs
      refine if_t (by rfl) ?_
      (go_simp <;> exact wrapi64_in _ (by omega) (by omega))
    refine chain_val (.int .i64 ((q * k : Nat) : Int)) (S := [27, 28]) rfl ?_ ?_
    · intro ρ w' hE hB hs
      have h27 : ρ (.tmp 27) = .int .i64 (q : Int) := hs 27 (by decide)
      have h28 : ρ (.tmp 28) = .int .i64 (k : Int) := hs 28 (by decide)
      clear hs
      refine if_t (by rfl) ?_
      go_simp
      (rw [wrapi64_in _ (by omega) (by omega)])
    refine chain_val (.int .i64 ((m + q * k : Nat) : Int)) (S := [23, 29]) rfl ?_ ?_
    · intro ρ w' hE hB hs
      have h23 : ρ (.tmp 23) = .int .i64 (m : Int) := hs 23 (by decide)
      have h29 : ρ (.tmp 29) = .int .i64 ((q * k : Nat) : Int) := hs 29 (by decide)
      clear hs
      refine if_t (by rfl) ?_
      go_simp
      (rw [wrapi64_in _ (by omega) (by omega)])
    refine chain_val (.int .i64 ((m + q * k : Nat) : Int)) (S := [30]) rfl ?_ ?_
    · intro ρ w' hE hB hs
      have h30 : ρ (.tmp 30) = .int .i64 ((m + q * k : Nat) : Int) := hs 30 (by decide)
      clear hs
      refine if_t (by rfl) ?_
      (go_simp <;> exact wrapi64_in _ (by omega) (by omega))
    intro w1 hB1
    simp only [List.reverse_cons, List.reverse_nil, List.nil_append, List.cons_append, Go.Free.Ends, forall_eq, Act.put, List.setIfInBounds_toArray, List.set_cons_zero, List.set_cons_succ]
    have HB1 := Lib.hid (HB0.out.trans (hB1.mono (by omega)))
    clear hB1
    go_wp2
    go_ret
    exact ⟨rfl, HB1.out⟩

set_option maxRecDepth 100000 in
set_option maxHeartbeats 4000000 in
theorem rput_any (o : Nat) (A : Option Addr) (n c : Nat) (us : List Int) (k : Nat) (B : Option Addr) (m d : Nat) (bs : List Int) (w : World) (h : Rd w .u64 A n c us) (hi : In .u64 us) (hf : Fitl k us) (hn0 : 0 < n) (hk : k ≤ 64) (hn : n ≤ 1024) (ho : o ≤ 1200)
    (hb : Rd w .u8 B m d bs) (hm : m ≤ 50000) :
    Calls Try.prog 67 #[runV o A n c, .slice B m d, .int .i64 k] w (RetRow w.heap.size 5 .u8 w (bs ++ hput k o us)) := by
  by_cases h0 : 0 < o
  · have hl : hput k o us = vput (2 * o) ++ (leb (us[0]?.getD 0).toNat 8).take (octets k) := by
      rw [hput, if_pos h0]
      congr 1
      unfold leb
      rw [← List.map_take, List.take_range, Nat.min_eq_left (by unfold octets; omega)]
    have hoc : octets k ≤ 8 := by unfold octets; omega
    have hv := vput_len_u64 (2 * o) (by omega)
    obtain ⟨b', of, rfl, hbl, hc⟩ := h.get hn0
    have hcell := hc 0 hn0
    rw [List.getD_eq_getElem?_getD, Nat.add_zero] at hcell
    have hx := hi (us[0]?.getD 0) (by rw [List.getElem?_eq_getElem (by have := h.len; omega)]; exact List.getElem_mem _)
    obtain ⟨x, hxe⟩ : ∃ x, us[0]?.getD 0 = x := ⟨_, rfl⟩
    rw [hxe] at hl hcell hx
    obtain ⟨x, rfl⟩ := Int.eq_ofNat_of_zero_le hx.1
    rw [Int.toNat_natCast] at hl
    have HL := Lib.hid hl
    have hx2 := hx.2
    have HP := Lib.hid (fun w h => put_any B m d bs (2 * o) w h (by omega) (by omega))
    have HW := Lib.hid (fun w => hwide_any k hk w)
    obtain ⟨q, hq⟩ : ∃ q, octets k = q := ⟨_, rfl⟩
    rw [hq] at hoc HW HL
    have HB := Lib.hid hb
    have HV := Lib.hid hv
    clear hc hl hxe hx hb hv h hi hf hq
    unfold runV
    go_enter Try.func67, Try.ntmps67
    go_wp2_with fail
    have e1 : (2 : Int) * (o : Int) = ((2 * o : Nat) : Int) := by simp
    rw [e1]
    clear e1
    have hbx : (w.alloc (.cells #[.int .i64 o, .slice (some ⟨b', of, none⟩) n c] 69)).heap[w.heap.size]? = some (.cells #[.int .i64 o, .slice (some ⟨b', of, none⟩) n c] 69 (0, 0)) := heap_alloc_new w _
    refine (HP.out _ (HB.out.alloc _)).mono ?_
    rintro e w1 ⟨A1, m1, c1, rfl, ho1, hb1⟩
    have HO1 := Lib.hid ho1
    have hbx1 := (hb1.block w.heap.size (by simp)).trans hbx
    have k1 : w1.cell? ⟨w.heap.size, 1, none⟩ = some (.slice (some ⟨b', of, none⟩) n c) := by simp [World.cell?, hbx1]
    have HB1 := Lib.hid (((Below.refl w.heap.size w).alloc (Nat.le_refl _) _).trans (hb1.mono (by simp)))
    have hcell1 : w1.cell? ⟨b', of, none⟩ = some (.int .u64 (x : Int)) := by rw [World.cell?_of_block (w := w) (w' := w1) (HB1.out.block b' hbl)]; exact hcell
    have hm1 : m1 ≤ 50010 := by have h1 := row_len ho1; have h2 := HB.out.len; have h3 := HV.out; rw [List.length_append] at h1; omega
    clear ho1 hb1 hbx hbx1 hcell
    go_wp2_with fail
    refine (Put64_any none 0 0 [] x _ (Rd.nilv _ _) (by omega) (by omega)).mono ?_
    rintro e w2 ⟨A2, m2, c2, rfl, ho2, hb2⟩
    have hm2 : m2 = 8 := by have h1 := row_len ho2; simp [leb_len] at h1; omega
    subst hm2
    have HO2 := Lib.hid (Rd.own ho2)
    have HO1' := Lib.hid (owns_weak (B' := w.heap.size) (owns_keep (S := fun _ _ => True) HO1.out (.of_below hb2) fun _ _ _ => trivial) (by simp))
    have HB2 := Lib.hid (HB1.out.trans (hb2.mono HB1.out.size))
    clear ho2 hb2
    go_wp2_with fail
    refine (HW.out _).mono ?_
    rintro e w3 ⟨rfl, rfl⟩
    go_wp2_with (first
      | ((refine wpList_slice_h (o := ⟨some 28, _, _, _, _, _⟩) rfl rfl elemU8 HO2.out rfl (kh := .i64) (j := q) rfl (by omega) ?_; intro hrd; have HRD := Lib.hid hrd; clear hrd))
      | (at_builtin; refine wpList_append_r rfl rfl elemU8 HO1'.out rfl (Rd.toV HRD.out) rfl ints_one (by omega) (by omega) (by have := HB2.out.size; have := HO1.out; omega) ?_; intro A3 c3 w3 hown hg _))
    have HB3 := Lib.hid (below_grown HB2.out HO1'.out hg HB2.out.size)
    have hown' := owns_app hown
    rw [List.nil_append, List.append_assoc, ← HL.out] at hown'
    have HO3 := Lib.hid hown'
    clear hown hown' hg
    go_ret
    exact ⟨A3, _, c3, rfl, HO3.out, HB3.out⟩
  · obtain rfl : o = 0 := by omega
    have hl := h.len
    have hpl := hpad_len us
    have hpf := hf.pad
    have hpi : In .u64 (hpad us) := by
      intro x hx
      rcases List.mem_append.1 hx with hx | hx
      · exact hi x hx
      · rw [List.eq_of_mem_replicate hx]; exact ⟨by decide, by decide⟩
    rw [hl] at hpl
    have HG := Lib.hid (fun w => groups_any n (by omega) w)
    have hsp := hpad_splice us
    rw [hl] at hsp
    have hHL : hput k 0 us = vput (2 * ((n + 7) / 8) + 1) ++ packed k (hpad us) := by
      rw [hput, if_neg h0, hl, packr_in (by rw [hpl]; omega)]
    obtain ⟨q, hq⟩ : ∃ q, (n + 7) / 8 = q := ⟨_, rfl⟩
    rw [hq] at hpl HG hsp hHL
    have hqn : n ≤ 8 * q ∧ 8 * q ≤ 1024 := by omega
    obtain ⟨N, hN⟩ : ∃ N, 8 * q = N := ⟨_, rfl⟩
    rw [hN] at hpl hqn hsp
    have hv := vput_len_u64 (2 * q + 1) (by omega)
    have hmk := run_make_row' (P := Try.prog) 62 45 (.int .u64 0) 8 Try.underlying62 (by kernel_rfl) rfl .i64 .i64 N (by omega) (by omega)
    have e0 : IntKind.i64.wrap ((q : Int) * 8) = (N : Int) := by rw [wrapi64_in _ (by omega) (by omega)]; omega
    have e00 : (q : Int) * 8 = (N : Int) := by omega
    obtain ⟨b', of, rfl, hbl, hc⟩ := h.get hn0
    have hsrc : ∀ j v, (us.map (Value.int .u64))[j]? = some v → w.cell? ((⟨b', of, none⟩ : Addr).add j) = some v := by
      intro j v hj
      have hjl : j < us.length := by have := (List.getElem?_eq_some_iff.1 hj).1; simpa using this
      rw [Addr.add_lit, hc j (by omega)]
      rw [List.getElem?_map, List.getElem?_eq_getElem hjl] at hj
      simp at hj
      simp [List.getElem?_eq_getElem hjl, hj]
    obtain ⟨cs, hcs⟩ : ∃ cs, us.map (Value.int .u64) = cs := ⟨_, rfl⟩
    have hcl : cs.length = n := by rw [← hcs]; simpa using hl
    have hc1 : ∀ v ∈ cs, v.oneCell' = true := by rw [← hcs]; exact ints_one
    obtain ⟨cur, hcur⟩ : ∃ cur, (List.replicate N (0 : Int)).map (Value.int .u64) = cur := ⟨_, rfl⟩
    have hcul : cur.length = N := by rw [← hcur]; simp
    rw [show madeCells #[Value.int .u64 0] N = cur.toArray by rw [← hcur, List.map_replicate, ← made_list]] at hmk
    rw [hcs] at hsrc
    have hsp := hsp N rfl
    rw [hcs, hcur] at hsp
    have HSP := Lib.hid hsp
    have HPK := Lib.hid (fun w A c h => pack_any A N c (hpad us) k w h hpi hqn.2 hk hpf)
    have HHL := Lib.hid hHL
    have HB := Lib.hid hb
    have HV := Lib.hid hv
    have HPL := Lib.hid hpl
    have HSRC := Lib.hid hsrc
    have HC1 := Lib.hid hc1
    have HPUT := Lib.hid (fun w h => put_any B m d bs (2 * q + 1) w h (by omega) (by omega))
    have HCU := Lib.hid hcur
    obtain ⟨hqn1, hqn2⟩ := hqn
    clear hc hl hb hv h hi hf hq hpf hpi hsp hHL hpl hsrc hcs hc1 hN hcur
    unfold runV
    go_enter Try.func67, Try.ntmps67
    go_wp2_with fail
    refine (HG.out _).mono ?_
    rintro e w' ⟨rfl, rfl⟩
    obtain ⟨W1, hW1⟩ : ∃ W1, w.alloc (.cells #[.int .i64 0, .slice (some ⟨b', of, none⟩) n c] 69) = W1 := ⟨_, rfl⟩
    have hs1 : W1.heap.size = w.heap.size + 1 := by rw [← hW1]; simp
    have hbx : W1.heap[w.heap.size]? = some (.cells #[.int .i64 0, .slice (some ⟨b', of, none⟩) n c] 69 (0, 0)) := by rw [← hW1]; exact heap_alloc_new w _
    have k1 : W1.cell? ⟨w.heap.size, 1, none⟩ = some (.slice (some ⟨b', of, none⟩) n c) := by simp [World.cell?, hbx]
    have HBW := Lib.hid (show Below w.heap.size w W1 by rw [← hW1]; exact (Below.refl _ _).alloc (Nat.le_refl _) _)
    rw [hW1]
    clear hW1 hbx
    have hp1 : Below W1.heap.size W1 (W1.alloc (.cells cur.toArray 45)) := (Below.refl _ _).alloc (Nat.le_refl _) _
    have HBLK := Lib.hid (heap_alloc_new W1 (.cells cur.toArray 45))
    have HSRC2 : Hid (∀ j v, cs[j]? = some v → (W1.alloc (.cells cur.toArray 45)).cell? ((⟨b', of, none⟩ : Addr).add j) = some v) := Lib.hid (fun j v hj => by
      have h1 := HSRC.out j v hj
      rw [Addr.add_lit] at h1 ⊢
      rw [World.cell?_of_block (w := w) (a := ⟨b', of + j, none⟩) ((HBW.out.trans (hp1.mono (by omega))).block b' hbl)]; exact h1)
    have hcp := run_copy_row (P := Try.prog) (W1.alloc (.cells cur.toArray 45)) 62 62 3 45 W1.heap.size 0 N N ⟨b', of, none⟩ n c cur.toArray 45 cs Try.underlying62 (by kernel_rfl) HBLK.out (by rw [hcl]; exact (Nat.min_eq_left hqn1).symm) HSRC2.out (by simp; omega) HC1.out
    have hrow : (cur.toArray.toList.take 0 ++ cs ++ cur.toArray.toList.drop (0 + cs.length)) = (hpad us).map (Value.int .u64) := by rw [← HSP.out]; simp [splice]
    rw [hrow, hcl] at hcp
    obtain ⟨w4, hw4⟩ : ∃ w4, (W1.alloc (.cells cur.toArray 45)).setRow W1.heap.size ((hpad us).map (Value.int .u64)).toArray = w4 := ⟨_, rfl⟩
    have hg4 : w4.heap[W1.heap.size]? = some (.cells ((hpad us).map (Value.int .u64)).toArray 45 (0, 0)) := by rw [← hw4]; exact setRow_heap _ _ _ _ _ _ HBLK.out
    have hb4 : Below W1.heap.size W1 w4 := by rw [← hw4]; exact below_setRow hp1 (Nat.le_refl _) _
    rw [hw4] at hcp
    have hown4 := owns_block (B := W1.heap.size) (n := N) (Nat.le_refl _) hg4 (by simpa using HPL.out) (by simp [maxLen]; omega)
    have HB4 := Lib.hid (HBW.out.trans (hb4.mono (by omega)))
    have HO4 := Lib.hid hown4
    have HPK4 := Lib.hid (HPK.out _ _ _ (Rd.own hown4))
    have k2 : (W1.alloc (.cells cur.toArray 45)).cell? ⟨w.heap.size, 1, none⟩ = some (.slice (some ⟨b', of, none⟩) n c) := by rw [World.cell?_of_block (w := W1) (hp1.block w.heap.size (by omega))]; exact k1
    have HS1 := Lib.hid hs1
    clear hp1 HSRC hs1 HSRC2 HBLK hrow hw4 hg4 hown4 hb4
    go_wp2_with fail
    refine HPK4.out.mono ?_
    rintro e w5 ⟨A5, m5, c5, rfl, ho5, hb5⟩
    have HO5 := Lib.hid (owns_weak ho5 HB4.out.size)
    have HB5 := Lib.hid (HB4.out.trans (hb5.mono HB4.out.size))
    have hm5 : m5 ≤ 8192 := by
      have h1 := row_len ho5
      rw [packed_len, HPL.out] at h1
      have h2 : octets (N * k) ≤ octets (1024 * 64) := by unfold octets; exact Nat.div_le_div_right (Nat.add_le_add_right (Nat.mul_le_mul hqn2 hk) _)
      have h3 : octets (1024 * 64) = 8192 := by decide
      omega
    clear ho5 hb5
    go_wp2_with fail
    have e1 : (2 : Int) * (q : Int) + 1 = ((2 * q + 1 : Nat) : Int) := by simp
    rw [e1]
    clear e1
    refine (HPUT.out _ (HB.out.below HB5.out)).mono ?_
    rintro e w6 ⟨A6, m6, c6, rfl, ho6, hb6⟩
    have HO6 := Lib.hid (owns_weak ho6 HB5.out.size)
    have HB6 := Lib.hid (HB5.out.trans (hb6.mono HB5.out.size))
    have HR5 := Lib.hid ((Rd.own HO5.out).below hb6)
    have hm6 : m6 ≤ 50010 := by have h1 := row_len ho6; have h2 := HB.out.len; have h3 := HV.out; rw [List.length_append] at h1; omega
    clear ho6 hb6
    go_wp2_with (at_builtin; refine wpList_append_r rfl rfl elemU8 HO6.out rfl (Rd.toV HR5.out) rfl ints_one (by omega) (by omega) HB6.out.size ?_; intro A3 c3 w3 hown hg _)
    have HB7 := Lib.hid (below_grown HB6.out HO6.out hg HB6.out.size)
    have hown' := owns_app hown
    rw [List.append_assoc, ← HHL.out] at hown'
    have HO7 := Lib.hid hown'
    clear hown hown' hg
    go_ret
    exact ⟨A3, _, c3, rfl, HO7.out, HB7.out⟩
end Go.Proofs.Ytbfnaigefmdcdaa
