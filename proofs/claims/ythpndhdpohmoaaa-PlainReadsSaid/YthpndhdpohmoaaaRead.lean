/-
  Chapter 7: Read: a block's numbers by a reading, or the first thing that is wrong.
-/
import Derived.Test.YthpndhdpohmoaaaGet
import Derived.Test.YthpndhdpohmoaaaCurN
import Derived.Test.YthpndhdpohmoaaaBlk
namespace Go.Cor
/-- the error of a reading of N numbers, of n bytes, that stands at k behind it or has thrown err -/
def rerr (N : Int) (n k : Nat) (err : Int) : Int := if blk N then (if err ≠ 0 then err else if k < n then 2 else 0) else 7
def rlist (N : Int) (n k : Nat) (err : Int) (l : List Int) : List Int := if rerr N n k err = 0 then l else []
section
variable {N : Int} {n k : Nat} {err : Int} {l : List Int}
theorem rerr_blk (h : blk N = false) : rlist N n k err l = [] ∧ rerr N n k err = 7 := by unfold rlist rerr; simp [h]
theorem rerr_err (h : blk N = true) (he : err ≠ 0) : rlist N n k err l = [] ∧ rerr N n k err = err := by unfold rlist rerr; simp [h, he]
theorem rerr_long (h : blk N = true) (he : err = 0) (hk : k < n) : rlist N n k err l = [] ∧ rerr N n k err = 2 := by unfold rlist rerr; simp [h, he, hk]
theorem rerr_ok (h : blk N = true) (he : err = 0) (hk : ¬ k < n) : rlist N n k err l = l ∧ rerr N n k err = 0 := by unfold rlist rerr; simp [h, he, hk]
end
end Go.Cor
namespace Go.Proofs.Ythpndhdpohmoaaa
open Go.RowKit Go.Cor Go.Free

/-- what a reading by a cursor comes to: the numbers l, and the cursor at k; or the error err -/
def Dec (p : Nat) (A : Option Addr) (n c : Nat) (xs : List Int) (w : World) (l : List Int) (k : Nat) (err : Int) (e : Ending) (w' : World) : Prop :=
  Mod (· = p) w w' ∧ ((err = 0 ∧ (∃ A' m c', e = .returned (.slice A' m c') ∧ Owns w' w.heap.size 2 .i64 A' m c' l) ∧ Cur w' p A n c xs k) ∨ (err ≠ 0 ∧ e = Thr err))

def Read1R (B : Nat) (n : Nat) (l : List Int) (k : Nat) (err : Int) (A' : Option Addr) (m c' : Nat) (w : World) : Prop := Owns w B 2 .i64 A' m c' l ∧ err = 0 ∧ ¬ k < n
def Read1S (n : Nat) (k : Nat) (err : Int) (e : Int) (_w : World) : Prop := (err ≠ 0 ∧ e = err) ∨ (err = 0 ∧ k < n ∧ e = 2)

set_option maxRecDepth 100000 in
set_option maxHeartbeats 2000000 in
theorem read1_any (w3 : World) (b0 b1 : Nat) (A : Option Addr) (n c : Nat) (xs : List Int) (hr : Rd w3 .u8 A n c xs) (hn : n ≤ 100000) (hby : By xs) (g : FuncId) (caps : Array Value) (l : List Int) (k : Nat) (err : Int)
    (eg : ∀ args w, (callFunc g args).run Try.prog w = .ok (.enter g args) w)
    (h0 : Box w3 b0 38 (.slice A n c)) (h1 : Box w3 b1 76 (.func (.func g) #[] caps))
    (hdo : ∀ w4 p A1 c1, Below w3.heap.size w3 w4 → Cur w4 p A1 n c1 xs 0 → w3.heap.size ≤ p → Calls Try.prog g (#[.pointer (some ⟨p, 0, none⟩)] ++ caps) w4 (Dec p A1 n c1 xs w4 l k err)) :
    Calls Try.prog 73 #[.pointer (some ⟨b0, 0, none⟩), .pointer (some ⟨b1, 0, none⟩)] w3 (Gives (fun _ => False) (Read1R w3.heap.size n l k err) (Read1S n k err) w3) := by
  have hc0 := cell_of_one h0
  have H1 := Lib.hid h1
  have HN := Lib.hid (new_any A n c xs w3 hr hn hby)
  have HD := Lib.hid hdo
  have HE := Lib.hid eg
  clear hr hby h0 h1 hdo eg
  go_enter Try.func73, Try.ntmps73
  go_wp2_with fail
  refine HN.out.mono ?_
  rintro e w4 ⟨p, A1, c1, rfl, hcu, hb4, hp, _⟩
  have hc1 := cell_of_one (H1.out.below hb4 (lt_of_block H1.out))
  have HDO := Lib.hid (HD.out w4 p A1 c1 hb4 hcu hp)
  have HB4 := Lib.hid hb4
  have HP := Lib.hid hp
  have eg := HE.out
  clear hcu hb4 hp HN HD HE hc0
  go_wp2_with fail
  refine HDO.out.mono ?_
  rintro e w5 ⟨hm, ⟨herr, ⟨A2, m2, c2, rfl, hown⟩, hcu⟩ | ⟨herr, rfl⟩⟩
  · have hb5 : Below w3.heap.size w3 w5 := HB4.out.trans (hm.below HB4.out.size fun j hj => by subst hj; exact HP.out)
    have HB5 := Lib.hid hb5
    have HO := Lib.hid (owns_weak hown HB4.out.size)
    have HER := Lib.hid herr
    by_cases hk : k < n
    · have HEND := Lib.hid (end_long hcu hk)
      clear hm hown hcu hb5 herr
      go_wp2_with fail
      refine HEND.out.mono ?_
      rintro e w6 ⟨rfl, hb6⟩
      exact ⟨rfl, .inr ⟨2, by decide, rfl, .inr ⟨HER.out, hk, rfl⟩⟩, .of_below (HB5.out.trans (hb6.mono HB5.out.size))⟩
    · have hkn : k = n := by have := hcu.le; omega
      have HEND := Lib.hid (end_ok hcu hkn)
      have HK := Lib.hid hk
      clear hm hown hcu hb5 herr hkn hk
      go_wp2_with fail
      refine HEND.out.mono ?_
      rintro e w6 ⟨rfl, hb6⟩
      have HB6 := Lib.hid hb6
      clear hb6
      go_wp2
      go_ret
      exact ⟨.inl ⟨A2, m2, c2, rfl, Owns.below HO.out HB6.out, HER.out, HK.out⟩, .of_below (HB5.out.trans (HB6.out.mono HB5.out.size))⟩
  · have hb5 : Below w3.heap.size w3 w5 := HB4.out.trans (hm.below HB4.out.size fun j hj => by subst hj; exact HP.out)
    exact ⟨rfl, .inr ⟨err, herr, rfl, .inl ⟨herr, rfl⟩⟩, .of_below hb5⟩

/-- what Read hands out -/
def ReadRow (B : Nat) (w : World) (N : Int) (n k : Nat) (err : Int) (l : List Int) (e : Ending) (w' : World) : Prop :=
  ∃ A' m c', e = .returned (.tuple #[.slice A' m c', .int .i64 (rerr N n k err)]) ∧ Owns w' B 2 .i64 A' m c' (rlist N n k err l) ∧ Below B w w'
set_option maxRecDepth 100000 in
set_option maxHeartbeats 2000000 in
theorem read_any (w : World) (A : Option Addr) (n c : Nat) (xs : List Int) (hr : Rd w .u8 A n c xs) (hn : n ≤ 100000) (hby : By xs) (N : Int) (g : FuncId) (caps : Array Value) (l : List Int) (k : Nat) (err : Int)
    (eg : ∀ args w, (callFunc g args).run Try.prog w = .ok (.enter g args) w)
    (hdo : blk N = true → ∀ w4 p A1 c1, Below w.heap.size w w4 → Cur w4 p A1 n c1 xs 0 → w.heap.size ≤ p → Calls Try.prog g (#[.pointer (some ⟨p, 0, none⟩)] ++ caps) w4 (Dec p A1 n c1 xs w4 l k err)) :
    Calls Try.prog 40 #[.slice A n c, .int .i64 N, .func (.func g) #[] caps] w (ReadRow w.heap.size w N n k err l) := by
  obtain ⟨w2, hw2⟩ : ∃ w2, (w.alloc (.cells #[.slice A n c] 38)).alloc (.cells #[.func (.func g) #[] caps] 76) = w2 := ⟨_, rfl⟩
  have hb2 : Below w.heap.size w w2 := by rw [← hw2]; exact ((Below.refl _ _).alloc (Nat.le_refl _) _).alloc (by simp) _
  have hs2 : w2.heap.size = w.heap.size + 2 := by rw [← hw2]; simp
  have h0 : Box w2 w.heap.size 38 (.slice A n c) := by rw [← hw2]; exact (Box.new _ _ _).alloc _
  have h1 : Box w2 (w.heap.size + 1) 76 (.func (.func g) #[] caps) := by
    rw [← hw2]; have := Box.new (w.alloc (.cells #[.slice A n c] 38)) 76 (.func (.func g) #[] caps); rwa [World.size_alloc] at this
  have hmf : ∀ (fn : Fn) (first cap : Array Value) (w : World), (Instr.makeFunc fn first cap).run Try.prog w = .ok (.func fn first cap) w := fun _ _ _ _ => rfl
  have hbk := block_any N
  obtain ⟨q, hq⟩ : ∃ q, blk N = q := ⟨_, rfl⟩
  rw [hq] at hbk hdo
  have HBK := Lib.hid hbk
  cases q with
  | false =>
    have E0 := Lib.hid (show rerr N n k err = 7 by unfold rerr; rw [hq]; rfl)
    have HB2 := Lib.hid hb2
    clear hbk hdo hr hby eg h0 h1 hs2 hb2 hq
    go_enter Try.func40, Try.ntmps40
    go_wp2_with fail
    refine (HBK.out _).mono ?_
    rintro e w' ⟨rfl, rfl⟩
    go_wp2
    go_ret2
    exact ⟨none, 0, 0, by rw [E0.out]; rfl, by unfold rlist; rw [E0.out]; exact owns_nil _ _ _ _, HB2.out⟩
  | true =>
    have eg1 : ∀ args w, (callFunc 73 args).run Try.prog w = .ok (.enter 73 args) w := enters_f Try.func73 (by kernel_rfl) rfl
    have hget := getI_any 73 #[.pointer (some ⟨w.heap.size, 0, none⟩), .pointer (some ⟨w.heap.size + 1, 0, none⟩)] w2 (fun _ => False) (fun _ h => h.elim) (Read1R (w2.heap.size + 3) n l k err) (Read1S n k err) eg1
      (fun w3 hb3 hs3 => by
        have := read1_any w3 w.heap.size (w.heap.size + 1) A n c xs (hr.below (hb2.trans (hb3.mono (by omega)))) hn hby g caps l k err eg (h0.below hb3 (by omega)) (h1.below hb3 (by omega))
          (fun w4 p A1 c1 hb4 hcu hp => hdo rfl w4 p A1 c1 (hb2.trans ((hb3.mono (by omega)).trans (hb4.mono (by omega)))) hcu (by omega))
        rwa [hs3] at this)
    have HG := Lib.hid hget
    have HB2 := Lib.hid hb2
    have HS2 := Lib.hid hs2
    have e1 : ∀ e : Int, rerr N n k err = e ↔ (if err ≠ 0 then err else if k < n then 2 else 0) = e := by intro e; unfold rerr; rw [hq]; simp
    have HE1 := Lib.hid e1
    clear hbk hdo hr hby eg h0 h1 hs2 hb2 hq eg1 hget e1
    go_enter Try.func40, Try.ntmps40
    go_wp2_with fail
    refine (HBK.out _).mono ?_
    rintro e w' ⟨rfl, rfl⟩
    go_wp2_with fail
    refine HG.out.mono ?_
    rintro e w5 ⟨⟨A', m, c', w4, rfl, ⟨hown, herr, hk⟩, hpast⟩ | ⟨er, w4, her, rfl, hS, hpast⟩, hm⟩
    · have e0 : rerr N n k err = 0 := (HE1.out 0).2 (by rw [if_neg (by omega), if_neg hk])
      have E0 := Lib.hid e0
      have HO := Lib.hid (owns_keep hown hpast fun g hg _ => .inr (hown.lt g hg).1)
      have HB5 := Lib.hid (HB2.out.trans ((Below.of_mod hm).mono HB2.out.size))
      clear hown herr hk hpast hm e0
      go_wp2
      go_ret2
      exact ⟨A', m, c', by rw [E0.out]; rfl, by unfold rlist; rw [E0.out, if_pos rfl]; exact owns_weak HO.out (by have := HS2.out; omega), HB5.out⟩
    · have e0 : rerr N n k err = er := (HE1.out er).2 (by
        rcases hS with ⟨h1, rfl⟩ | ⟨h1, h2, rfl⟩
        · rw [if_pos h1]
        · rw [if_neg (by omega), if_pos h2])
      have E0 := Lib.hid e0
      have HER := Lib.hid her
      have HB5 := Lib.hid (HB2.out.trans ((Below.of_mod hm).mono HB2.out.size))
      clear hS her hpast hm e0
      go_wp2
      go_ret2
      exact ⟨none, 0, 0, by rw [E0.out]; rfl, by unfold rlist; rw [E0.out, if_neg HER.out]; exact owns_nil _ _ _ _, HB5.out⟩
end Go.Proofs.Ythpndhdpohmoaaa
