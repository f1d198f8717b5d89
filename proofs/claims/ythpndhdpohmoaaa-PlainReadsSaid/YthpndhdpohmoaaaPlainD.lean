/-
  Chapter 7: the plain form, decoding.
-/
import Derived.Test.YthpndhdpohmoaaaRead
import Derived.Test.YthpndhdpohmoaaaCodecB
import Derived.Test.YthpndhdpohmoaaaPlain
import Derived.Test.YthpndhdpohmoaaaPlainK
import Derived.Test.YthpndhdpohmoaaaPlainG
namespace Go.Cor
open Go Go.RowKit
/-- the numbers of plain bytes -/
def pnums (ys : List Int) (N : Nat) : List Int := (List.range N).map fun i => w64 (num ((ys.drop (8 * i)).take 8))
theorem pnums_snoc (ys : List Int) (i : Nat) : pnums ys i ++ [w64 (num ((ys.drop (8 * i)).take 8))] = pnums ys (i + 1) := range_map_snoc _ i
def perr (ys : List Int) (N : Int) : Int := if (ys.length : Int) < 8 * N then 1 else 0
def pdec (ys : List Int) (N : Int) : List Int × Int := (rlist N ys.length (8 * N.toNat) (perr ys N) (pnums ys N.toNat), rerr N ys.length (8 * N.toNat) (perr ys N))
end Go.Cor
namespace Go.Proofs.Ythpndhdpohmoaaa
open Go.RowKit Go.Cor Go.Free

set_option maxRecDepth 100000 in
set_option maxHeartbeats 4000000 in
theorem pdec1 {w : World} {p bN : Nat} {A : Option Addr} {n c : Nat} {xs : List Int} {N : Nat} (h : Cur w p A n c xs 0) (hb : Box w bN 3 (.int .i64 N)) (hN : N ≤ 1024) :
    Calls Try.prog 74 #[.pointer (some ⟨p, 0, none⟩), .pointer (some ⟨bN, 0, none⟩)] w (Dec p A n c xs w (pnums xs N) (8 * N) (perr xs N)) := by
  have hcb := cell_of_one hb
  have hlen := h.rd.len
  have hsm := h.small
  have hplt := h.lt
  have H := Lib.hid h
  have HLEN := Lib.hid hlen
  clear h hb hlen
  go_enter Try.func74, Try.ntmps74
  go_wp2
  go_loopw [4, 6, 7, 8, 9, 10, 11, 12, 13, 14] (fun v4 v6 _ _ _ _ _ _ _ _ wr => ∃ i : Nat, v6 = .int .i64 i ∧ i ≤ N ∧ ∃ A' c', v4 = .slice A' i c' ∧ Hid (Owns wr w.heap.size 2 .i64 A' i c' (pnums xs i) ∧ Cur wr p A n c xs (8 * i) ∧ Mod (· = p) w wr))
    (fun _ v6 _ _ _ _ _ _ _ _ _ => N - (intOf v6).toNat)
  case atStart => exact ⟨0, rfl, by omega, none, 0, rfl, Lib.hid ⟨owns_nil _ _ _ _, H.out, Keep.refl _ _⟩⟩
  case round =>
    obtain ⟨i, rfl, hi, A', c', rfl, hI⟩ := hrel
    by_cases hlt : i < N
    · by_cases hsh : 8 * i + 8 ≤ n
      · have HU := Lib.hid (U64_ok hI.out.2.1 (by omega))
        obtain ⟨z, hz⟩ : ∃ z, num ((xs.drop (8 * i)).take 8) = z := ⟨_, rfl⟩
        have e1 := pnums_snoc xs i
        rw [hz] at HU e1
        have E1 := Lib.hid e1
        have e2 : IntKind.i64.wrap z = w64 z := wrapi64 z
        clear e1 hz
        go_wp2_with fail
        refine HU.out.mono ?_
        rintro e w2 ⟨rfl, hcu, hm⟩
        have HC2 := Lib.hid hcu
        have HM2 := Lib.hid (Mod.trans hI.out.2.2 hm)
        have HO2 := Lib.hid (owns_keep hI.out.1 hm fun g hg _ => by have := (hI.out.1.lt g hg).1; omega)
        clear hcu hm hI HU
        go_wp2_with (at_builtin; refine wpList_append_r rfl rfl elemI64 (HO2.out.alloc _) rfl (RdV.one (Box.new _ _ _)) rfl one_one (by omega) (by omega) (by have := HM2.out.size; simp; omega) ?_; intro A2 c2 w3 hown hg _)
        have hgr := Cu.grown H.out (Mod.trans HM2.out (.alloc _ _ _)) (HC2.out.alloc' _) (HO2.out.alloc _) (Nat.le_refl _) hg
        have HG := Lib.hid hgr
        have HO3 := Lib.hid (owns_snoc hown)
        clear hgr hown hg
        go_roundw
        case rel =>
          refine ⟨i + 1, by go_num, by omega, A2, c2, rfl, Lib.hid ⟨?_, ?_, HG.out.2⟩⟩
          · rw [← E1.out]; exact HO3.out
          · exact HG.out.1
        case measure => simp [intOf] <;> omega
      · have HU := Lib.hid (U64_short hI.out.2.1 (by omega))
        go_wp2_with fail
        refine HU.out.mono ?_
        rintro e w2 ⟨rfl, hb2⟩
        have he : perr xs N = 1 := by unfold perr; rw [HLEN.out, if_pos (by omega)]
        exact ⟨rfl, Mod.trans hI.out.2.2 (.of_below hb2), .inr ⟨by rw [he]; decide, by rw [he]⟩⟩
    · obtain rfl : i = N := by omega
      have he : Hid (perr xs i = 0) := by unfold perr; rw [HLEN.out]; exact if_neg (by have := hI.out.2.1.le; omega)
      go_wp2
      go_ret
      exact ⟨hI.out.2.2, .inl ⟨he.out, ⟨A', i, c', rfl, hI.out.1⟩, hI.out.2.1⟩⟩

set_option maxRecDepth 100000 in
set_option maxHeartbeats 2000000 in
theorem plainDecode_any (w : World) (A : Option Addr) (n c : Nat) (ys : List Int) (N : Int) (h : Rd w .u8 A n c ys) (hby : By ys) (hn : n ≤ 100000) :
    Calls Try.prog 46 #[.agg #[], .slice A n c, .int .i64 N] w (DecG w.heap.size w pdec ys N) := by
  have hmf : ∀ (fn : Fn) (first cap : Array Value) (w : World), (Instr.makeFunc fn first cap).run Try.prog w = .ok (.func fn first cap) w := fun _ _ _ _ => rfl
  obtain ⟨w2, hw2⟩ : ∃ w2, (w.alloc (.cells #[] 37)).alloc (.cells #[.int .i64 N] 3) = w2 := ⟨_, rfl⟩
  have hb2 : Below w.heap.size w w2 := by rw [← hw2]; exact ((Below.refl _ _).alloc (Nat.le_refl _) _).alloc (by simp) _
  have hbx : Box w2 (w.heap.size + 1) 3 (.int .i64 N) := by rw [← hw2]; have := Box.new (w.alloc (.cells #[] 37)) 3 (.int .i64 N); rwa [World.size_alloc] at this
  have hs2 : w2.heap.size = w.heap.size + 2 := by rw [← hw2]; simp
  have hcell := cell_of_one hbx
  have eg1 : ∀ args w, (callFunc 74 args).run Try.prog w = .ok (.enter 74 args) w := enters_f Try.func74 (by kernel_rfl) rfl
  have hrd := read_any w2 A n c ys (h.below hb2) hn hby N 74 #[.pointer (some ⟨w.heap.size + 1, 0, none⟩)] (pnums ys N.toNat) (8 * N.toNat) (perr ys N) eg1
    (fun hbk w4 p A1 c1 hb4 hcu hp => by
      have hN := of_decide_eq_true hbk
      obtain ⟨M, rfl⟩ := Int.eq_ofNat_of_zero_le (show 0 ≤ N by omega)
      exact pdec1 hcu (hbx.below hb4 (by omega)) (by omega))
  have HP := Lib.hid (show pdec ys N = (rlist N n (8 * N.toNat) (perr ys N) (pnums ys N.toNat), rerr N n (8 * N.toNat) (perr ys N)) by unfold pdec; rw [h.len])
  have HR := Lib.hid hrd
  have HB2 := Lib.hid hb2
  clear h hby hn hb2 hbx hs2 eg1 hrd
  go_enter Try.func46, Try.ntmps46
  go_wp2_with fail
  refine HR.out.mono ?_
  rintro e w5 ⟨A', m, c', rfl, hown, hb5⟩
  have HO := Lib.hid (owns_weak hown HB2.out.size)
  have HB5 := Lib.hid (HB2.out.trans (hb5.mono HB2.out.size))
  clear hown hb5
  go_wp2
  go_ret2
  exact ⟨A', m, c', by rw [HP.out]; rfl, by rw [HP.out]; exact HO.out, HB5.out⟩

/-! ### the plain codec, as a codec -/
theorem m_ahead (w : World) : (nilAhead 237 37 (.agg #[]) "Decode").run Try.prog w = .ok (some false) w := by kernel_rfl
theorem plainT : Taker 37 100 tkAll :=
  ⟨m_takes, enters_f Try.func100 (by kernel_rfl) rfl, fun w A n c xs h _ _ => by rw [tak_all, h.len]; exact takes_any A n c w⟩
theorem plainE : Encer 37 54 tkAll pform :=
  ⟨m_encode, enters_f Try.func54 (by kernel_rfl) rfl, fun w A n c xs h _ _ => by
    have := encode_any A n c xs w h
    unfold EncRow at this
    unfold EncG
    rw [wrg_all, tak_all, h.len]; exact this⟩
theorem plainS : Sizer 37 99 tkAll pform :=
  ⟨m_size, enters_f Try.func99 (by kernel_rfl) rfl, fun w A n c xs h _ _ => by
    rw [tak_all, pform_len, h.len]; exact size_any A n c w⟩
theorem plainD : Decer 37 46 pdec :=
  ⟨m_decode, m_ahead, enters_f Try.func46 (by kernel_rfl) rfl, fun w A n c ys N h hb hn => plainDecode_any w A n c ys N h hb hn⟩
end Go.Proofs.Ythpndhdpohmoaaa
