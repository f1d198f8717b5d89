/-
  Chapter 10: one run's numbers.
  Chapter 10: a packed run's numbers.
-/
import Derived.Test.YtbfnaigefmdcdaaG5
import Derived.Test.YtbfnaigefmdcdaaG16
import Derived.Test.YtbfnaigefmdcdaaG21
import Derived.Test.YtbfnaigefmdcdaaG22
namespace Go.Cor
open Go Go.RowKit
/-- a run of one number, of which so many lack -/
def rone (w lack o : Nat) (b : List Int) : List Int × Nat × Int :=
  if lack < o then ([], 0, 7) else if b.length < octets w then ([], 0, 1) else if 2 ^ w ≤ nums (b.take (octets w)) then ([], 0, 4) else (List.replicate o ((nums (b.take (octets w)) : Nat) : Int), octets w, 0)
/-- a run of packed numbers -/
def rpak (w lack g : Nat) (b : List Int) : List Int × Nat × Int :=
  if (lack + 7) / 8 < g then ([], 0, 7) else if b.length < g * w then ([], 0, 1)
  else if ((unp w (8 * g) (nums (b.take (g * w)))).drop lack).any (· != 0) then ([], 0, 3) else ((unp w (8 * g) (nums (b.take (g * w)))).take lack, g * w, 0)
def rlift (m : Nat) (r : List Int × Nat × Int) : List Int × Nat × Int := if r.2.2 ≠ 0 then ([], 0, r.2.2) else (r.1.map zag, m + r.2.1, 0)
theorem hbody_raw (w lack h m : Nat) (b : List Int) : hbody w lack h m b = if h ≤ 1 then ([], 0, 7) else rlift m (if h % 2 = 0 then rone w lack (h / 2) b else rpak w lack (h / 2) b) := by
  unfold hbody rone rpak rlift
  by_cases h1 : h ≤ 1
  · rw [if_pos h1, if_pos h1]
  · rw [if_neg h1, if_neg h1]
    by_cases h2 : h % 2 = 0
    · rw [if_pos h2, if_pos h2]
      repeat' split
      all_goals first | rfl | (simp_all; done) | omega
    · rw [if_neg h2, if_neg h2]
      repeat' split
      all_goals first | rfl | (simp_all; done) | omega
theorem num_zeros (l : List Int) (j : Nat) : num (l ++ List.replicate j 0) = num l := by
  induction l with
  | nil => induction j with
    | zero => rfl
    | succ j ih =>
      rw [List.nil_append] at ih
      rw [List.replicate_succ, List.nil_append]
      show 0 + 256 * num (List.replicate j 0) = num []
      rw [ih]; rfl
  | cons x r ih => rw [List.cons_append, num, ih]; rfl
theorem num_pad {l : List Int} (h : l.length ≤ 8) : num ((l ++ List.replicate 8 0).take 8) = num l := by
  rw [List.take_append, List.take_of_length_le h, List.take_replicate, num_zeros]
theorem Mod.fresh {T : Nat → Prop} {w w2 w3 : World} {p : Nat} (h : Mod T w w2) (hm : Mod (· = p) w2 w3) (hp : w.heap.size ≤ p) : Mod T w w3 :=
  ⟨hm.os.trans h.os, hm.tape.trans h.tape, hm.output.trans h.output, Nat.le_trans h.size hm.size, fun k hk ht => (hm.block k (Nat.lt_of_lt_of_le hk h.size) (by show ¬ k = p; omega)).trans (h.block k hk ht)⟩
theorem bw_le {v k : Nat} : decide (nbits v ≤ k) = decide (v < 2 ^ k) := by
  rw [Bool.eq_iff_iff]; simp only [decide_eq_true_eq]
  constructor
  · intro h; exact Nat.lt_of_lt_of_le (nbits_lt v) (pow_mono2 (by omega))
  · intro h; have := nbits_le v k h; omega
end Go.Cor
namespace Go.Proofs.Ytbfnaigefmdcdaa
open Go.RowKit Go.Cor Go.Free

/-- what a run's reading comes to: the numbers in a fresh row, the cursor behind it; or an error -/
def RawP (p : Nat) (A : Option Addr) (n c : Nat) (xs : List Int) (at_ : Nat) (w : World) (r : List Int × Nat × Int) (e : Ending) (w' : World) : Prop :=
  Mod (· = p) w w' ∧ ((r.2.2 = 0 ∧ (∃ A' m c', e = .returned (.slice A' m c') ∧ Rd w' .u64 A' m c' r.1 ∧ ∀ b o, A' = some ⟨b, o, none⟩ → w.heap.size ≤ b) ∧ Cur w' p A n c xs (at_ + r.2.1)) ∨ (r.2.2 ≠ 0 ∧ e = Thr r.2.2))

theorem must_ok (A : Option Addr) (n c : Nat) (w : World) : Calls Try.prog 86 #[.slice A n c, .int .i64 0] w fun e w' => e = .returned (.slice A n c) ∧ w = w' := by
  go_enter Try.func86, Try.ntmps86
  go_wp2_with fail
  refine (throw_ok w).mono ?_
  rintro e w' ⟨rfl, rfl⟩
  go_wp2
  go_ret
  exact ⟨rfl, rfl⟩
theorem must_err (A : Option Addr) (n c : Nat) (er : Int) (w : World) (h : er ≠ 0) : Calls Try.prog 86 #[.slice A n c, .int .i64 er] w fun e w' => e = Thr er ∧ w = w' := by
  go_enter Try.func86, Try.ntmps86
  go_wp2_with fail
  refine (throw_any er w h).mono ?_
  rintro e w' ⟨rfl, rfl⟩
  exact ⟨rfl, rfl, rfl⟩

set_option maxRecDepth 100000 in
set_option maxHeartbeats 4000000 in
theorem one_any {w : World} {p : Nat} {A : Option Addr} {n c : Nat} {xs : List Int} {at_ : Nat} (h : Cur w p A n c xs at_) (o k lack : Nat) (ho : (o : Int) ≤ 18446744073709551615) (hk : k ≤ 64) (hl : lack ≤ 1024) :
    Calls Try.prog 62 #[.pointer (some ⟨p, 0, none⟩), .int .u64 o, .int .i64 k, .int .i64 lack] w (RawP p A n c xs at_ w (rone k lack o (xs.drop at_))) := by
  have hby := h.bytes.drop at_
  have hlen := h.rd.len
  have hdl : (xs.drop at_).length = n - at_ := by rw [List.length_drop, hlen]
  obtain ⟨b, hb⟩ : ∃ b, xs.drop at_ = b := ⟨_, rfl⟩
  rw [hb] at hby hdl ⊢
  have hoc : octets k ≤ 8 := by unfold octets; omega
  have HW := Lib.hid (fun w => hwide_any k hk w)
  obtain ⟨q, hq⟩ : ∃ q, octets k = q := ⟨_, rfl⟩
  have hR : rone k lack o b = if lack < o then ([], 0, 7) else if n - at_ < q then ([], 0, 1) else if 2 ^ k ≤ nums (b.take q) then ([], 0, 4) else (List.replicate o ((nums (b.take q) : Nat) : Int), q, 0) := by unfold rone; rw [hq, hdl]
  rw [hq] at HW hoc
  have HR := Lib.hid hR
  have H := Lib.hid h
  have HBY := Lib.hid hby
  have HBE := Lib.hid hb
  clear hq hR h hby hlen hb hdl
  by_cases h1 : lack < o
  · have hd : decide (o ≤ lack) = false := by simp; omega
    go_enter Try.func62, Try.ntmps62
    go_wp2_with fail
    refine (check_false 7 _ (by decide)).mono ?_
    rintro e w2 ⟨rfl, rfl⟩
    exact ⟨rfl, Keep.refl _ _, .inr (by rw [HR.out, if_pos h1]; exact ⟨by decide, rfl⟩)⟩
  have hd : decide (o ≤ lack) = true := by simp; omega
  by_cases h2 : n - at_ < q
  · have HS := Lib.hid (bytes_short H.out (q : Int) (by omega))
    go_enter Try.func62, Try.ntmps62
    go_wp2_with fail
    refine (check_true 7 _).mono ?_
    rintro e w2 ⟨rfl, rfl⟩
    go_wp2_with fail
    refine (HW.out _).mono ?_
    rintro e w2 ⟨rfl, rfl⟩
    go_wp2_with fail
    refine HS.out.mono ?_
    rintro e w2 ⟨rfl, hb⟩
    exact ⟨rfl, .of_below hb, .inr (by rw [HR.out, if_neg h1, if_pos h2]; exact ⟨by decide, rfl⟩)⟩
  have hbk := bytes_ok H.out q (by omega)
  unfold TookRow Took at hbk
  rw [HBE.out] at hbk
  have HBK := Lib.hid hbk
  clear hbk
  have htl : (b.take q).length = q := by rw [List.length_take, ← HBE.out, List.length_drop, H.out.rd.len]; omega
  have hnl := nums_lt (HBY.out.take q)
  rw [htl] at hnl
  have h256 : (256 : Nat) ^ q ≤ 256 ^ 8 := Nat.pow_le_pow_right (by decide) hoc
  have h2568 : (256 : Nat) ^ 8 = 18446744073709551616 := by decide
  have hnp : num ((b.take q ++ List.replicate 8 0).take 8) = ((nums (b.take q) : Nat) : Int) := by rw [num_pad (by omega), nums_eq (HBY.out.take q)]
  have hfb : By (b.take q ++ List.replicate 8 0) := by
    intro x hx
    rcases List.mem_append.1 hx with hx | hx
    · exact HBY.out x (List.mem_of_mem_take hx)
    · rw [List.eq_of_mem_replicate hx]; exact ⟨by decide, by decide⟩
  obtain ⟨full, hfu⟩ : ∃ full, b.take q ++ List.replicate 8 (0 : Int) = full := ⟨_, rfl⟩
  have hfl : full.length = q + 8 := by rw [← hfu, List.length_append, htl, List.length_replicate]
  rw [hfu] at hnp hfb
  obtain ⟨v, hv⟩ : ∃ v, nums (b.take q) = v := ⟨_, rfl⟩
  rw [hv] at hnl hnp HR
  have hbw := bw_le (v := v) (k := k)
  have hof := fun w => of_any (v : Int) w (by omega) (by omega)
  rw [show bw (v : Int) = (nbits v : Int) by simp [bw]] at hof
  have HOF := Lib.hid hof
  have HBW := Lib.hid hbw
  have HNP := Lib.hid hnp
  have HFB := Lib.hid hfb
  have HFU := Lib.hid (And.intro hfu hfl)
  have HR2 := Lib.hid (show rone k lack o b = if 2 ^ k ≤ v then ([], 0, 4) else (List.replicate o ((v : Nat) : Int), q, 0) by rw [HR.out, if_neg h1, if_neg h2])
  have hv64 : (v : Int) ≤ 18446744073709551615 := by omega
  have hwp := H.out.lt
  clear htl hnl h256 h2568 hnp hfb hfu hfl hv hbw hof HR HBE
  go_enter Try.func62, Try.ntmps62
  go_wp2_with fail
  refine (check_true 7 _).mono ?_
  rintro e w2 ⟨rfl, rfl⟩
  go_wp2_with fail
  refine (HW.out _).mono ?_
  rintro e w2 ⟨rfl, rfl⟩
  go_wp2_with fail
  refine HBK.out.mono ?_
  rintro e w2 ⟨⟨A2, c2, rfl, ho2⟩, hcu2, hm2⟩
  have HO2 := Lib.hid ho2
  have HC2 := Lib.hid hcu2
  have HM2 := Lib.hid hm2
  clear ho2 hcu2 hm2
  go_wp2_with (at_builtin; refine wpList_append_z rfl rfl elemU8 (Try.underlying3) rfl rfl HO2.out rfl (m := 8) rfl (by omega) (by omega) (by omega) HM2.out.size ?_; intro A3 c3 w3 hown hg)
  have hown' : Owns w3 w.heap.size 5 .u8 A3 (q + 8) c3 full := by
    have h1 := hown
    rw [show List.replicate 8 (Value.int .u8 0) = (List.replicate 8 (0 : Int)).map (Value.int .u8) by rw [List.map_replicate], ← List.map_append, HFU.out.1] at h1
    exact h1
  have hm3 := HM2.out.grown HO2.out hg (Nat.le_refl _)
  have hp3 : w3.heap[p]? = w2.heap[p]? := hg.block p HC2.out.lt fun e => by have := (HO2.out.lt p e.symm).1; omega
  have HP3 := Lib.hid hp3
  have HM3 := Lib.hid hm3
  have HNC := Lib.hid (new_any A3 (q + 8) c3 full w3 (Rd.own hown') (by omega) HFB.out)
  clear hown hown' hg hp3 hm3
  refine HNC.out.mono ?_
  rintro e w4 ⟨p2, A4, c4, rfl, hcu4, hb4, hp2, _⟩
  have hu := U64_ok hcu4 (by omega)
  rw [List.drop_zero, HNP.out] at hu
  have HU := Lib.hid hu
  have HB4 := Lib.hid hb4
  clear hu hcu4 hb4
  go_wp2_with fail
  refine HU.out.mono ?_
  rintro e w5 ⟨rfl, _, hm5⟩
  have hps : p < w3.heap.size := by have := HM3.out.size; omega
  have hpw : w.heap.size ≤ p2 := by have := HM3.out.size; omega
  have hp5 : w5.heap[p]? = w2.heap[p]? := (hm5.block p (by have := HB4.out.size; omega) (by show ¬ p = p2; omega)).trans ((HB4.out.block p hps).trans HP3.out)
  have hm5' : Mod (· = p) w w5 := Mod.fresh (Mod.trans HM3.out (.of_below HB4.out)) hm5 hpw
  have hcu5 : Cur w5 p A n c xs (at_ + q) := Cu.of_mod H.out hm5' (hp5.trans HC2.out.blk) HC2.out.le
  have HM5 := Lib.hid hm5'
  have HC5 := Lib.hid hcu5
  clear hm5 hp5 hm5' hcu5 HU HB4
  by_cases h3 : v < 2 ^ k
  · have hd3 : decide (nbits v ≤ k) = true := by rw [HBW.out]; exact decide_eq_true h3
    have HR3 := Lib.hid (show rone k lack o b = (List.replicate o ((v : Nat) : Int), q, 0) by rw [HR2.out, if_neg (by omega)])
    clear h3
    go_wp2_with fail
    refine (HOF.out _).mono ?_
    rintro e w6 ⟨rfl, rfl⟩
    go_wp2_with fail
    refine (check_true 4 _).mono ?_
    rintro e w6 ⟨rfl, rfl⟩
    go_wp2_with fail
    go_loopg [11, 31] o (fun g v11 v31 wr => ∃ i : Nat, v31 = .int .u64 i ∧ i ≤ o ∧ g = o - i ∧ ∃ A' c', v11 = .slice A' i c' ∧ Hid (Owns wr w.heap.size 45 .u64 A' i c' (List.replicate i (v : Int)) ∧ Cur wr p A n c xs (at_ + q) ∧ Mod (· = p) w wr))
    case atStart => exact ⟨0, rfl, by omega, by omega, none, 0, rfl, Lib.hid ⟨owns_nil _ _ _ _, HC5.out, HM5.out⟩⟩
    case round =>
      obtain ⟨i, rfl, hi, rfl, A', c', rfl, hI⟩ := hrel
      by_cases hlt : i < o
      · have hd5 : decide (i < o) = true := by simp; omega
        go_wp2_with (at_builtin; refine wpList_append_r rfl rfl elemU64 (hI.out.1.alloc _) rfl (RdV.one (Box.new _ _ _)) rfl one_one (by omega) (by omega) (by have := hI.out.2.2.size; simp; omega) ?_; intro A6 c6 w6 hown6 hg6 _)
        have hgr := Cu.grown H.out (Mod.trans hI.out.2.2 (.alloc _ _ _)) (hI.out.2.1.alloc' _) (hI.out.1.alloc _) (Nat.le_refl _) hg6
        have HG := Lib.hid hgr
        have HO6 := Lib.hid (owns_snoc hown6)
        clear hgr hown6 hg6
        go_roundg (o - (i + 1))
        case measure => omega
        case rel => exact ⟨i + 1, by go_num, by omega, rfl, A6, c6, rfl, Lib.hid ⟨by rw [List.replicate_succ']; exact HO6.out, HG.out.1, HG.out.2⟩⟩
      · obtain rfl : i = o := by omega
        have hd5 : decide (i < i) = false := by simp
        go_wp2
        go_ret
        refine ⟨hI.out.2.2, .inl ?_⟩
        rw [HR3.out]
        exact ⟨rfl, ⟨A', i, c', rfl, Rd.own hI.out.1, fun b o e => by subst e; exact (hI.out.1.lt b rfl).1⟩, hI.out.2.1⟩
  · have hd3 : decide (nbits v ≤ k) = false := by rw [HBW.out]; exact decide_eq_false h3
    have HR3 := Lib.hid (show rone k lack o b = ([], 0, 4) by rw [HR2.out, if_pos (by omega)])
    clear h3
    go_wp2_with fail
    refine (HOF.out _).mono ?_
    rintro e w6 ⟨rfl, rfl⟩
    go_wp2_with fail
    refine (check_false 4 _ (by decide)).mono ?_
    rintro e w6 ⟨rfl, rfl⟩
    exact ⟨rfl, HM5.out, .inr (by rw [HR3.out]; exact ⟨by decide, rfl⟩)⟩
end Go.Proofs.Ytbfnaigefmdcdaa

namespace Go.Cor
theorem any_drop {l : List Int} (h : ∀ t, t < l.length → l[t]?.getD 0 = 0) : l.any (· != 0) = false := by
  rw [List.any_eq_false]
  intro x hx
  obtain ⟨t, ht, rfl⟩ := List.mem_iff_getElem.1 hx
  have := h t ht
  rw [List.getElem?_eq_getElem ht] at this
  simpa using this
theorem any_at {l : List Int} {t : Nat} (ht : t < l.length) (h : l[t]?.getD 0 ≠ 0) : l.any (· != 0) = true := by
  rw [List.any_eq_true]
  rw [List.getElem?_eq_getElem ht] at h
  exact ⟨_, List.getElem_mem ht, by simpa using h⟩
end Go.Cor
namespace Go.Proofs.Ytbfnaigefmdcdaa
open Go.RowKit Go.Cor Go.Free

set_option maxRecDepth 100000 in
set_option maxHeartbeats 4000000 in
theorem packed_any {w : World} {p : Nat} {A : Option Addr} {n c : Nat} {xs : List Int} {at_ : Nat} (h : Cur w p A n c xs at_) (g k lack : Nat) (hg : (g : Int) ≤ 18446744073709551615) (hk : k ≤ 64) (hl : lack ≤ 1024) :
    Calls Try.prog 63 #[.pointer (some ⟨p, 0, none⟩), .int .u64 g, .int .i64 k, .int .i64 lack] w (RawP p A n c xs at_ w (rpak k lack g (xs.drop at_))) := by
  have hby := h.bytes.drop at_
  have hlen := h.rd.len
  have hdl : (xs.drop at_).length = n - at_ := by rw [List.length_drop, hlen]
  obtain ⟨b, hb⟩ : ∃ b, xs.drop at_ = b := ⟨_, rfl⟩
  rw [hb] at hby hdl ⊢
  have HG := Lib.hid (fun w => groups_any lack (by omega) w)
  have hR : rpak k lack g b = if (lack + 7) / 8 < g then ([], 0, 7) else if n - at_ < g * k then ([], 0, 1)
    else if ((unp k (8 * g) (nums (b.take (g * k)))).drop lack).any (· != 0) then ([], 0, 3) else ((unp k (8 * g) (nums (b.take (g * k)))).take lack, g * k, 0) := by unfold rpak; rw [hdl]
  obtain ⟨G, hGe⟩ : ∃ G, (lack + 7) / 8 = G := ⟨_, rfl⟩
  rw [hGe] at HG hR
  have hG128 : G ≤ 128 := by omega
  have H := Lib.hid h
  have HBY := Lib.hid hby
  have HBE := Lib.hid hb
  by_cases h1 : G < g
  · have HR := Lib.hid (show rpak k lack g b = ([], 0, 7) by rw [hR, if_pos h1])
    have hd : decide (g ≤ G) = false := by simp; omega
    have eG : IntKind.u64.wrap (G : Int) = (G : Int) := wrapu64_in _ (by omega) (by omega)
    clear hGe hR h hby hlen hb hdl
    go_enter Try.func63, Try.ntmps63
    go_wp2_with fail
    refine (HG.out _).mono ?_
    rintro e w2 ⟨rfl, rfl⟩
    go_wp2_with fail
    refine (check_false 7 _ (by decide)).mono ?_
    rintro e w2 ⟨rfl, rfl⟩
    exact ⟨rfl, Keep.refl _ _, .inr (by rw [HR.out]; exact ⟨by decide, rfl⟩)⟩
  have hd : decide (g ≤ G) = true := by simp; omega
  have hg128 : g ≤ 128 := by omega
  have hgk : g * k ≤ 128 * 64 := Nat.mul_le_mul hg128 hk
  have eM : (g : Int) * (k : Int) = ((g * k : Nat) : Int) := by simp
  have hoct : octets (8 * g * k) = g * k := oct8 g k
  obtain ⟨M, hM⟩ : ∃ M, g * k = M := ⟨_, rfl⟩
  rw [hM] at hR hgk eM hoct
  have eG : IntKind.u64.wrap (G : Int) = (G : Int) := wrapu64_in _ (by omega) (by omega)
  have eg : IntKind.i64.wrap (g : Int) = (g : Int) := wrapi64_in _ (by omega) (by omega)
  have eN1 : (g : Int) * 8 = ((8 * g : Nat) : Int) := by omega
  obtain ⟨N, hN⟩ : ∃ N, 8 * g = N := ⟨_, rfl⟩
  rw [hN] at hR eN1 hoct
  have hN8 : N ≤ 1024 := by omega
  by_cases h2 : n - at_ < M
  · have HR := Lib.hid (show rpak k lack g b = ([], 0, 1) by rw [hR, if_neg h1, if_pos h2])
    have HS := Lib.hid (bytes_short H.out (M : Int) (by omega))
    clear hGe hR h hby hlen hb hdl hM hN
    go_enter Try.func63, Try.ntmps63
    go_wp2_with fail
    refine (HG.out _).mono ?_
    rintro e w2 ⟨rfl, rfl⟩
    go_wp2_with fail
    refine (check_true 7 _).mono ?_
    rintro e w2 ⟨rfl, rfl⟩
    go_wp2_with fail
    refine HS.out.mono ?_
    rintro e w2 ⟨rfl, hb⟩
    exact ⟨rfl, .of_below hb, .inr (by rw [HR.out]; exact ⟨by decide, rfl⟩)⟩
  have hbk := bytes_ok H.out M (by omega)
  unfold TookRow Took at hbk
  rw [HBE.out] at hbk
  have HBK := Lib.hid hbk
  have htl : (b.take M).length = M := by rw [List.length_take, hdl]; omega
  have hup : unpk k N (b.take M) = (unp k N (nums (b.take M)), 0) := by
    unfold unpk
    rw [hoct, htl, if_neg (by omega), if_neg (by omega), if_neg]
    have h3 := nums_lt (HBY.out.take M)
    rw [htl, two8] at h3
    intro h4
    apply h4
    refine Nat.div_eq_of_lt (Nat.lt_of_lt_of_le h3 (pow_mono2 ?_))
    rw [← hM, ← hN, Nat.mul_comm k, Nat.mul_assoc]; omega
  obtain ⟨us, hus⟩ : ∃ us, unp k N (nums (b.take M)) = us := ⟨_, rfl⟩
  have hul : us.length = N := by rw [← hus, unp_len]
  have huf : ∀ u ∈ us, 0 ≤ u := by rw [← hus]; exact fun u hu => (unp_fit _ _ _ u hu).1
  rw [hus] at hup hR
  obtain ⟨j, hj⟩ : ∃ j, min N lack = j := ⟨_, rfl⟩
  have hmin : min (N : Int) (lack : Int) = (j : Int) := by omega
  have hjN : j ≤ N := by omega
  have hdj : us.drop lack = us.drop j := by
    by_cases h5 : N ≤ lack
    · rw [List.drop_of_length_le (by omega), List.drop_of_length_le (by omega)]
    · rw [show j = lack by omega]
  have htj : us.take lack = us.take j := by
    by_cases h5 : N ≤ lack
    · rw [List.take_of_length_le (by omega), List.take_of_length_le (by omega)]
    · rw [show j = lack by omega]
  have HUN := Lib.hid (fun w A c h => unpack_any A M c (b.take M) k N w h (HBY.out.take M) (by omega) hN8 hk)
  rw [hup] at HUN
  have HR := Lib.hid (show rpak k lack g b = if (us.drop j).any (· != 0) then ([], 0, 3) else (us.take j, M, 0) by rw [hR, if_neg h1, if_neg h2, hdj, htj])
  have HUL := Lib.hid (And.intro hul huf)
  have hdl2 : (us.drop j).length = N - j := by rw [List.length_drop, hul]
  have HDL := Lib.hid hdl2
  clear hGe hR h hby hlen hb hdl hM hN hbk htl hup hus hul huf hj hdj htj hdl2 hoct
  go_enter Try.func63, Try.ntmps63
  go_wp2_with fail
  refine (HG.out _).mono ?_
  rintro e w2 ⟨rfl, rfl⟩
  go_wp2_with fail
  refine (check_true 7 _).mono ?_
  rintro e w2 ⟨rfl, rfl⟩
  go_wp2_with fail
  refine HBK.out.mono ?_
  rintro e w2 ⟨⟨A2, c2, rfl, ho2⟩, hcu2, hm2⟩
  have HU2 := Lib.hid (HUN.out w2 A2 c2 (Rd.own ho2))
  have HC2 := Lib.hid hcu2
  have HM2 := Lib.hid hm2
  clear ho2 hcu2 hm2
  go_wp2_with fail
  refine HU2.out.mono ?_
  rintro e w3 ⟨A3, m3, c3, rfl, ho3, hb3⟩
  obtain rfl : N = m3 := by have h6 : us.length = m3 := row_len ho3; have := HUL.out.1; omega
  have HO3 := Lib.hid (owns_weak ho3 HM2.out.size)
  have HC3 := Lib.hid (HC2.out.below hb3)
  have HM3 := Lib.hid (Mod.trans HM2.out (.of_below hb3))
  clear ho3 hb3
  go_wp2_with fail
  refine (must_ok _ _ _ _).mono ?_
  rintro e w4 ⟨rfl, rfl⟩
  have HRD3 := Lib.hid (Rd.own HO3.out)
  go_wp2_with ((refine wpList_slice_l (o := ⟨some 38, _, _, _, _, _⟩) rfl rfl elemU64 HRD3.out rfl (kl := .i64) (l := j) rfl (by omega) ?_; intro A4 c4 hrd; have HRD := Lib.hid hrd; clear hrd))
  go_loopg [40] (N - j) (fun gg v40 wr => ∃ i : Nat, v40 = .int .i64 i ∧ i ≤ N - j ∧ gg = N - j - i ∧ w3 = wr ∧ Hid (∀ t, t < i → (us.drop j)[t]?.getD 0 = 0))
  case atStart => exact ⟨0, rfl, by omega, by omega, rfl, Lib.hid (fun t h => by omega)⟩
  case round =>
    obtain ⟨i, rfl, hi, rfl, rfl, hI⟩ := hrel
    by_cases hlt : i < N - j
    · obtain ⟨b', o, rfl, hbl, hc⟩ := HRD.out.get (by omega)
      have hcell := hc i hlt
      rw [List.getD_eq_getElem?_getD] at hcell
      have hxm : (us.drop j)[i]?.getD 0 ∈ us := by rw [List.getElem?_eq_getElem (by have := HDL.out; omega)]; exact List.mem_of_mem_drop (List.getElem_mem _)
      have hx0 := HUL.out.2 _ hxm
      obtain ⟨x, hxe⟩ : ∃ x, (us.drop j)[i]?.getD 0 = x := ⟨_, rfl⟩
      rw [hxe] at hcell hx0
      have HXE := Lib.hid hxe
      clear hc hxm hxe
      by_cases hx : x = 0
      · subst hx
        go_wp2_with fail
        refine (check_true 3 _).mono ?_
        rintro e w4 ⟨rfl, rfl⟩
        go_wp2_with fail
        go_roundg (N - j - (i + 1))
        case measure => omega
        case rel =>
          refine ⟨i + 1, by go_num, by omega, rfl, rfl, Lib.hid (fun t ht => ?_)⟩
          by_cases h6 : t < i
          · exact hI.out t h6
          · rw [show t = i by omega]; exact HXE.out
      · have he : (x == 0) = false := by simp [hx]
        go_wp2_with fail
        refine (check_false 3 _ (by decide)).mono ?_
        rintro e w4 ⟨rfl, rfl⟩
        refine ⟨rfl, HM3.out, .inr ?_⟩
        rw [HR.out, if_pos (any_at (t := i) (by rw [HDL.out]; exact hlt) (by rw [HXE.out]; exact hx))]
        exact ⟨by decide, rfl⟩
    · obtain rfl : i = N - j := by omega
      have hr2 := HR.out
      rw [if_neg (by rw [any_drop (fun t ht => hI.out t (by rw [HDL.out] at ht; exact ht))]; simp)] at hr2
      have HR2 := Lib.hid hr2
      clear hr2
      go_wp2_with ((refine wpList_slice_h (o := ⟨some 52, _, _, _, _, _⟩) rfl rfl elemU64 HRD3.out rfl (kh := .i64) (j := j) rfl (by omega) ?_; intro hrd; have HRD5 := Lib.hid hrd; clear hrd))
      go_ret
      refine ⟨HM3.out, .inl ?_⟩
      rw [HR2.out]
      exact ⟨rfl, ⟨A3, j, c3, rfl, HRD5.out, fun b o e => by subst e; exact (HO3.out.lt b rfl).1⟩, HC3.out⟩
end Go.Proofs.Ytbfnaigefmdcdaa
