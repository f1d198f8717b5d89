/-
  Chapter 2: Get: what is answered, or the error that was thrown, at each kind of row.
-/
import Derived.Test.YthpndhdpohmoaaaTrap
namespace Go.Proofs.Ythpndhdpohmoaaa
open Go.RowKit Go.Cor Go.Free

/-- what a reading hands out: a row, or an error that is thrown; what it keeps -/
def Gives (T : Nat → Prop) (R : Option Addr → Nat → Nat → World → Prop) (S : Int → World → Prop) (w : World) (e : Ending) (w' : World) : Prop :=
  ((∃ A n c, e = .returned (.slice A n c) ∧ R A n c w') ∨ (∃ n : Int, n ≠ 0 ∧ e = Thr n ∧ S n w')) ∧ Mod T w w'
/-- all but the three boxes that Get makes -/
abbrev Past (B : Nat) := Keep (fun _ k => k < B ∨ B + 3 ≤ k)
/-- what Get hands out -/
def Gets (T : Nat → Prop) (R : Option Addr → Nat → Nat → World → Prop) (S : Int → World → Prop) (w : World) (e : Ending) (w' : World) : Prop :=
  ((∃ A n c w4, e = .returned (.tuple #[.slice A n c, .int .i64 0]) ∧ R A n c w4 ∧ Past w.heap.size w4 w') ∨ (∃ (n : Int) (w4 : World), n ≠ 0 ∧ e = .returned (.tuple #[.slice none 0 0, .int .i64 n]) ∧ S n w4 ∧ Past w.heap.size w4 w')) ∧ Mod T w w'

/-- the middle of it -/
def MidB (T : Nat → Prop) (R : Option Addr → Nat → Nat → World → Prop) (S : Int → World → Prop) (B : Nat) (w3 : World) (n : Int) (w1 : World) : Prop :=
  ∃ w4, Mod T w3 w4 ∧ Box w1 (B + 2) 53 (.int .i64 0) ∧ ((n = 0 ∧ ∃ A m c, R A m c w4 ∧ w1 = w4.setCell ⟨B + 1, 0, none⟩ (.slice A m c) ∧ Box w1 (B + 1) 38 (.slice A m c)) ∨ (n ≠ 0 ∧ S n w4 ∧ w1 = w4))
set_option maxRecDepth 100000 in
set_option maxHeartbeats 1000000 in
theorem get1B (g : FuncId) (caps : Array Value) (w3 : World) (B : Nat) (T : Nat → Prop) (hT : ∀ k, T k → k < B) (R : Option Addr → Nat → Nat → World → Prop) (S : Int → World → Prop) (eg : ∀ args w, (callFunc g args).run Try.prog w = .ok (.enter g args) w)
    (hdo : Calls Try.prog g caps w3 (Gives T R S w3)) (h0 : Box w3 B 70 (.func (.func g) #[] caps)) (h1 : Box w3 (B + 1) 38 (.slice none 0 0)) (h2 : Box w3 (B + 2) 53 (.int .i64 0)) :
    Calls Try.prog 79 #[.pointer (some ⟨B, 0, none⟩), .pointer (some ⟨B + 1, 0, none⟩)] w3 (Tried (MidB T R S B w3)) := by
  have HD := Lib.hid hdo
  have hc := cell_of_one h0
  have H1 := Lib.hid h1
  have H2 := Lib.hid h2
  have HT := Lib.hid hT
  clear hdo h0 h1 h2 hT
  go_enter Try.func79, Try.ntmps79
  go_wp2_with fail
  refine HD.out.mono ?_
  rintro e w4 ⟨⟨A, n, c, rfl, hR⟩ | ⟨n, hn, rfl, hS⟩, hm⟩
  · have h1' := H1.out.keep hm (fun h => by have := HT.out _ h; omega)
    have h2' := H2.out.keep hm (fun h => by have := HT.out _ h; omega)
    have hc1 := cell_of_one h1'
    have hz1 := free_of_one h1'
    have G1 := Lib.hid h1'
    have G2 := Lib.hid h2'
    have HR := Lib.hid hR
    have HM := Lib.hid hm
    clear h1' h2' hR hm
    go_wp2
    go_end0
    exact ⟨0, ⟨w4, HM.out, G2.out.far (by simp) _, .inl ⟨rfl, A, n, c, HR.out, rfl, one_setCell G1.out⟩⟩, .inl ⟨rfl, rfl⟩⟩
  · have h2' := H2.out.keep hm (fun h => by have := HT.out _ h; omega)
    exact ⟨rfl, n, ⟨w4, hm, h2', .inr ⟨hn, hS, rfl⟩⟩, .inr ⟨hn, rfl⟩⟩
set_option maxRecDepth 100000 in
set_option maxHeartbeats 1000000 in
theorem getB_any (g : FuncId) (caps : Array Value) (w : World) (T : Nat → Prop) (hT : ∀ k, T k → k < w.heap.size) (R : Option Addr → Nat → Nat → World → Prop) (S : Int → World → Prop) (eg : ∀ args w, (callFunc g args).run Try.prog w = .ok (.enter g args) w)
    (hdo : ∀ w3, Below w.heap.size w w3 → w3.heap.size = w.heap.size + 3 → Calls Try.prog g caps w3 (Gives T R S w3)) :
    Calls Try.prog 68 #[.func (.func g) #[] caps] w (Gets T R S w) := by
  have hmf : ∀ (fn : Fn) (first cap : Array Value) (w : World), (Instr.makeFunc fn first cap).run Try.prog w = .ok (.func fn first cap) w := fun _ _ _ _ => rfl
  obtain ⟨w3, hw3⟩ : ∃ w3, ((w.alloc (.cells #[.func (.func g) #[] caps] 70)).alloc (.cells #[.slice none 0 0] 38)).alloc (.cells #[.int .i64 0] 53) = w3 := ⟨_, rfl⟩
  have hb3 : Below w.heap.size w w3 := by rw [← hw3]; exact (((Below.refl _ _).alloc (Nat.le_refl _) _).alloc (by simp) _).alloc (by simp; omega) _
  have hs3 : w3.heap.size = w.heap.size + 3 := by rw [← hw3]; simp
  have b0 : Box w3 w.heap.size 70 (.func (.func g) #[] caps) := by rw [← hw3]; exact ((Box.new _ _ _).alloc _).alloc _
  have b1 : Box w3 (w.heap.size + 1) 38 (.slice none 0 0) := by rw [← hw3]; have := (Box.new (w.alloc (.cells #[.func (.func g) #[] caps] 70)) 38 (.slice none 0 0)).alloc (.cells #[.int .i64 0] 53); rwa [World.size_alloc] at this
  have b2 : Box w3 (w.heap.size + 2) 53 (.int .i64 0) := by rw [← hw3]; have := Box.new ((w.alloc (.cells #[.func (.func g) #[] caps] 70)).alloc (.cells #[.slice none 0 0] 38)) 53 (.int .i64 0); rwa [World.size_alloc, World.size_alloc] at this
  have HG := Lib.hid (get1B g caps w3 w.heap.size T hT R S eg (hdo w3 hb3 hs3) b0 b1 b2)
  have HB3 := Lib.hid hb3
  have HT := Lib.hid hT
  have eg1 : ∀ args w, (callFunc 79 args).run Try.prog w = .ok (.enter 79 args) w := enters_f Try.func79 (by kernel_rfl) rfl
  have HE := Lib.hid eg1
  clear eg hdo b0 b1 b2 hb3 hs3 hT eg1
  go_enter Try.func68, Try.ntmps68
  go_wp2_with fail
  refine (try_any _ _ _ (MidB T R S w.heap.size w3) HE.out ?_ ?_).mono ?_
  · rw [hw3]; exact HG.out
  · rintro n w1 ⟨w4, _, h, _⟩
    simpa using h
  rintro e w5 ⟨n, w1, ⟨w4, hm, hb2, hor⟩, rfl, hk⟩
  have hk' : Past w.heap.size w1 w5 := hk.weak fun k _ h e => by simp at e; omega
  have hM : Mod T w w4 := (Keep.of_below HB3.out).trans hm fun k _ h => h
  have hsz : w.heap.size ≤ w4.heap.size := hM.size
  rcases hor with ⟨rfl, A, m, c, hR, rfl, hbx⟩ | ⟨hn, hS, rfl⟩
  · have hbx' := hbx.keep hk (by simp)
    have hc5 := cell_of_one hbx'
    have HK := Lib.hid (show Past w.heap.size w4 w5 from (Keep.setCell (S := fun _ k => k < w.heap.size ∨ w.heap.size + 3 ≤ k) w4 (by simp <;> omega) _).trans hk' fun _ _ h => h)
    have HM := Lib.hid hM
    have HR := Lib.hid hR
    have hk5 : Mod T w w5 := ⟨HK.out.os.trans hM.os, HK.out.tape.trans hM.tape, HK.out.output.trans hM.output, Nat.le_trans hM.size HK.out.size, fun k hlt h => (HK.out.block k (by omega) (.inl hlt)).trans (hM.block k hlt h)⟩
    have HM5 := Lib.hid hk5
    clear hbx hbx' hk hk' hb2 hm hM hR hk5
    go_wp2
    go_ret2
    exact ⟨.inl ⟨A, m, c, w4, rfl, HR.out, HK.out⟩, HM5.out⟩
  · have HK := Lib.hid hk'
    have HS := Lib.hid hS
    have hk5 : Mod T w w5 := ⟨hk'.os.trans hM.os, hk'.tape.trans hM.tape, hk'.output.trans hM.output, Nat.le_trans hM.size hk'.size, fun k hlt h => (hk'.block k (by omega) (.inl hlt)).trans (hM.block k hlt h)⟩
    have HM5 := Lib.hid hk5
    have hne : (n != 0) = true := by simp [hn]
    have HN := Lib.hid hn
    clear hk hk' hb2 hm hM hS hk5 hn
    go_wp2
    go_ret2
    exact ⟨.inr ⟨n, w1, HN.out, rfl, HS.out, HK.out⟩, HM5.out⟩
/-- the middle of it -/
def MidI (T : Nat → Prop) (R : Option Addr → Nat → Nat → World → Prop) (S : Int → World → Prop) (B : Nat) (w3 : World) (n : Int) (w1 : World) : Prop :=
  ∃ w4, Mod T w3 w4 ∧ Box w1 (B + 2) 53 (.int .i64 0) ∧ ((n = 0 ∧ ∃ A m c, R A m c w4 ∧ w1 = w4.setCell ⟨B + 1, 0, none⟩ (.slice A m c) ∧ Box w1 (B + 1) 22 (.slice A m c)) ∨ (n ≠ 0 ∧ S n w4 ∧ w1 = w4))
set_option maxRecDepth 100000 in
set_option maxHeartbeats 1000000 in
theorem get1I (g : FuncId) (caps : Array Value) (w3 : World) (B : Nat) (T : Nat → Prop) (hT : ∀ k, T k → k < B) (R : Option Addr → Nat → Nat → World → Prop) (S : Int → World → Prop) (eg : ∀ args w, (callFunc g args).run Try.prog w = .ok (.enter g args) w)
    (hdo : Calls Try.prog g caps w3 (Gives T R S w3)) (h0 : Box w3 B 116 (.func (.func g) #[] caps)) (h1 : Box w3 (B + 1) 22 (.slice none 0 0)) (h2 : Box w3 (B + 2) 53 (.int .i64 0)) :
    Calls Try.prog 81 #[.pointer (some ⟨B, 0, none⟩), .pointer (some ⟨B + 1, 0, none⟩)] w3 (Tried (MidI T R S B w3)) := by
  have HD := Lib.hid hdo
  have hc := cell_of_one h0
  have H1 := Lib.hid h1
  have H2 := Lib.hid h2
  have HT := Lib.hid hT
  clear hdo h0 h1 h2 hT
  go_enter Try.func81, Try.ntmps81
  go_wp2_with fail
  refine HD.out.mono ?_
  rintro e w4 ⟨⟨A, n, c, rfl, hR⟩ | ⟨n, hn, rfl, hS⟩, hm⟩
  · have h1' := H1.out.keep hm (fun h => by have := HT.out _ h; omega)
    have h2' := H2.out.keep hm (fun h => by have := HT.out _ h; omega)
    have hc1 := cell_of_one h1'
    have hz1 := free_of_one h1'
    have G1 := Lib.hid h1'
    have G2 := Lib.hid h2'
    have HR := Lib.hid hR
    have HM := Lib.hid hm
    clear h1' h2' hR hm
    go_wp2
    go_end0
    exact ⟨0, ⟨w4, HM.out, G2.out.far (by simp) _, .inl ⟨rfl, A, n, c, HR.out, rfl, one_setCell G1.out⟩⟩, .inl ⟨rfl, rfl⟩⟩
  · have h2' := H2.out.keep hm (fun h => by have := HT.out _ h; omega)
    exact ⟨rfl, n, ⟨w4, hm, h2', .inr ⟨hn, hS, rfl⟩⟩, .inr ⟨hn, rfl⟩⟩
set_option maxRecDepth 100000 in
set_option maxHeartbeats 1000000 in
theorem getI_any (g : FuncId) (caps : Array Value) (w : World) (T : Nat → Prop) (hT : ∀ k, T k → k < w.heap.size) (R : Option Addr → Nat → Nat → World → Prop) (S : Int → World → Prop) (eg : ∀ args w, (callFunc g args).run Try.prog w = .ok (.enter g args) w)
    (hdo : ∀ w3, Below w.heap.size w w3 → w3.heap.size = w.heap.size + 3 → Calls Try.prog g caps w3 (Gives T R S w3)) :
    Calls Try.prog 72 #[.func (.func g) #[] caps] w (Gets T R S w) := by
  have hmf : ∀ (fn : Fn) (first cap : Array Value) (w : World), (Instr.makeFunc fn first cap).run Try.prog w = .ok (.func fn first cap) w := fun _ _ _ _ => rfl
  obtain ⟨w3, hw3⟩ : ∃ w3, ((w.alloc (.cells #[.func (.func g) #[] caps] 116)).alloc (.cells #[.slice none 0 0] 22)).alloc (.cells #[.int .i64 0] 53) = w3 := ⟨_, rfl⟩
  have hb3 : Below w.heap.size w w3 := by rw [← hw3]; exact (((Below.refl _ _).alloc (Nat.le_refl _) _).alloc (by simp) _).alloc (by simp; omega) _
  have hs3 : w3.heap.size = w.heap.size + 3 := by rw [← hw3]; simp
  have b0 : Box w3 w.heap.size 116 (.func (.func g) #[] caps) := by rw [← hw3]; exact ((Box.new _ _ _).alloc _).alloc _
  have b1 : Box w3 (w.heap.size + 1) 22 (.slice none 0 0) := by rw [← hw3]; have := (Box.new (w.alloc (.cells #[.func (.func g) #[] caps] 116)) 22 (.slice none 0 0)).alloc (.cells #[.int .i64 0] 53); rwa [World.size_alloc] at this
  have b2 : Box w3 (w.heap.size + 2) 53 (.int .i64 0) := by rw [← hw3]; have := Box.new ((w.alloc (.cells #[.func (.func g) #[] caps] 116)).alloc (.cells #[.slice none 0 0] 22)) 53 (.int .i64 0); rwa [World.size_alloc, World.size_alloc] at this
  have HG := Lib.hid (get1I g caps w3 w.heap.size T hT R S eg (hdo w3 hb3 hs3) b0 b1 b2)
  have HB3 := Lib.hid hb3
  have HT := Lib.hid hT
  have eg1 : ∀ args w, (callFunc 81 args).run Try.prog w = .ok (.enter 81 args) w := enters_f Try.func81 (by kernel_rfl) rfl
  have HE := Lib.hid eg1
  clear eg hdo b0 b1 b2 hb3 hs3 hT eg1
  go_enter Try.func72, Try.ntmps72
  go_wp2_with fail
  refine (try_any _ _ _ (MidI T R S w.heap.size w3) HE.out ?_ ?_).mono ?_
  · rw [hw3]; exact HG.out
  · rintro n w1 ⟨w4, _, h, _⟩
    simpa using h
  rintro e w5 ⟨n, w1, ⟨w4, hm, hb2, hor⟩, rfl, hk⟩
  have hk' : Past w.heap.size w1 w5 := hk.weak fun k _ h e => by simp at e; omega
  have hM : Mod T w w4 := (Keep.of_below HB3.out).trans hm fun k _ h => h
  have hsz : w.heap.size ≤ w4.heap.size := hM.size
  rcases hor with ⟨rfl, A, m, c, hR, rfl, hbx⟩ | ⟨hn, hS, rfl⟩
  · have hbx' := hbx.keep hk (by simp)
    have hc5 := cell_of_one hbx'
    have HK := Lib.hid (show Past w.heap.size w4 w5 from (Keep.setCell (S := fun _ k => k < w.heap.size ∨ w.heap.size + 3 ≤ k) w4 (by simp <;> omega) _).trans hk' fun _ _ h => h)
    have HM := Lib.hid hM
    have HR := Lib.hid hR
    have hk5 : Mod T w w5 := ⟨HK.out.os.trans hM.os, HK.out.tape.trans hM.tape, HK.out.output.trans hM.output, Nat.le_trans hM.size HK.out.size, fun k hlt h => (HK.out.block k (by omega) (.inl hlt)).trans (hM.block k hlt h)⟩
    have HM5 := Lib.hid hk5
    clear hbx hbx' hk hk' hb2 hm hM hR hk5
    go_wp2
    go_ret2
    exact ⟨.inl ⟨A, m, c, w4, rfl, HR.out, HK.out⟩, HM5.out⟩
  · have HK := Lib.hid hk'
    have HS := Lib.hid hS
    have hk5 : Mod T w w5 := ⟨hk'.os.trans hM.os, hk'.tape.trans hM.tape, hk'.output.trans hM.output, Nat.le_trans hM.size hk'.size, fun k hlt h => (hk'.block k (by omega) (.inl hlt)).trans (hM.block k hlt h)⟩
    have HM5 := Lib.hid hk5
    have hne : (n != 0) = true := by simp [hn]
    have HN := Lib.hid hn
    clear hk hk' hb2 hm hM hS hk5 hn
    go_wp2
    go_ret2
    exact ⟨.inr ⟨n, w1, HN.out, rfl, HS.out, HK.out⟩, HM5.out⟩
/-- the middle of it -/
def MidZ (T : Nat → Prop) (R : Option Addr → Nat → Nat → World → Prop) (S : Int → World → Prop) (B : Nat) (w3 : World) (n : Int) (w1 : World) : Prop :=
  ∃ w4, Mod T w3 w4 ∧ Box w1 (B + 2) 53 (.int .i64 0) ∧ ((n = 0 ∧ ∃ A m c, R A m c w4 ∧ w1 = w4.setCell ⟨B + 1, 0, none⟩ (.slice A m c) ∧ Box w1 (B + 1) 27 (.slice A m c)) ∨ (n ≠ 0 ∧ S n w4 ∧ w1 = w4))
set_option maxRecDepth 100000 in
set_option maxHeartbeats 1000000 in
theorem get1Z (g : FuncId) (caps : Array Value) (w3 : World) (B : Nat) (T : Nat → Prop) (hT : ∀ k, T k → k < B) (R : Option Addr → Nat → Nat → World → Prop) (S : Int → World → Prop) (eg : ∀ args w, (callFunc g args).run Try.prog w = .ok (.enter g args) w)
    (hdo : Calls Try.prog g caps w3 (Gives T R S w3)) (h0 : Box w3 B 119 (.func (.func g) #[] caps)) (h1 : Box w3 (B + 1) 27 (.slice none 0 0)) (h2 : Box w3 (B + 2) 53 (.int .i64 0)) :
    Calls Try.prog 82 #[.pointer (some ⟨B, 0, none⟩), .pointer (some ⟨B + 1, 0, none⟩)] w3 (Tried (MidZ T R S B w3)) := by
  have HD := Lib.hid hdo
  have hc := cell_of_one h0
  have H1 := Lib.hid h1
  have H2 := Lib.hid h2
  have HT := Lib.hid hT
  clear hdo h0 h1 h2 hT
  go_enter Try.func82, Try.ntmps82
  go_wp2_with fail
  refine HD.out.mono ?_
  rintro e w4 ⟨⟨A, n, c, rfl, hR⟩ | ⟨n, hn, rfl, hS⟩, hm⟩
  · have h1' := H1.out.keep hm (fun h => by have := HT.out _ h; omega)
    have h2' := H2.out.keep hm (fun h => by have := HT.out _ h; omega)
    have hc1 := cell_of_one h1'
    have hz1 := free_of_one h1'
    have G1 := Lib.hid h1'
    have G2 := Lib.hid h2'
    have HR := Lib.hid hR
    have HM := Lib.hid hm
    clear h1' h2' hR hm
    go_wp2
    go_end0
    exact ⟨0, ⟨w4, HM.out, G2.out.far (by simp) _, .inl ⟨rfl, A, n, c, HR.out, rfl, one_setCell G1.out⟩⟩, .inl ⟨rfl, rfl⟩⟩
  · have h2' := H2.out.keep hm (fun h => by have := HT.out _ h; omega)
    exact ⟨rfl, n, ⟨w4, hm, h2', .inr ⟨hn, hS, rfl⟩⟩, .inr ⟨hn, rfl⟩⟩
set_option maxRecDepth 100000 in
set_option maxHeartbeats 1000000 in
theorem getZ_any (g : FuncId) (caps : Array Value) (w : World) (T : Nat → Prop) (hT : ∀ k, T k → k < w.heap.size) (R : Option Addr → Nat → Nat → World → Prop) (S : Int → World → Prop) (eg : ∀ args w, (callFunc g args).run Try.prog w = .ok (.enter g args) w)
    (hdo : ∀ w3, Below w.heap.size w w3 → w3.heap.size = w.heap.size + 3 → Calls Try.prog g caps w3 (Gives T R S w3)) :
    Calls Try.prog 77 #[.func (.func g) #[] caps] w (Gets T R S w) := by
  have hmf : ∀ (fn : Fn) (first cap : Array Value) (w : World), (Instr.makeFunc fn first cap).run Try.prog w = .ok (.func fn first cap) w := fun _ _ _ _ => rfl
  obtain ⟨w3, hw3⟩ : ∃ w3, ((w.alloc (.cells #[.func (.func g) #[] caps] 119)).alloc (.cells #[.slice none 0 0] 27)).alloc (.cells #[.int .i64 0] 53) = w3 := ⟨_, rfl⟩
  have hb3 : Below w.heap.size w w3 := by rw [← hw3]; exact (((Below.refl _ _).alloc (Nat.le_refl _) _).alloc (by simp) _).alloc (by simp; omega) _
  have hs3 : w3.heap.size = w.heap.size + 3 := by rw [← hw3]; simp
  have b0 : Box w3 w.heap.size 119 (.func (.func g) #[] caps) := by rw [← hw3]; exact ((Box.new _ _ _).alloc _).alloc _
  have b1 : Box w3 (w.heap.size + 1) 27 (.slice none 0 0) := by rw [← hw3]; have := (Box.new (w.alloc (.cells #[.func (.func g) #[] caps] 119)) 27 (.slice none 0 0)).alloc (.cells #[.int .i64 0] 53); rwa [World.size_alloc] at this
  have b2 : Box w3 (w.heap.size + 2) 53 (.int .i64 0) := by rw [← hw3]; have := Box.new ((w.alloc (.cells #[.func (.func g) #[] caps] 119)).alloc (.cells #[.slice none 0 0] 27)) 53 (.int .i64 0); rwa [World.size_alloc, World.size_alloc] at this
  have HG := Lib.hid (get1Z g caps w3 w.heap.size T hT R S eg (hdo w3 hb3 hs3) b0 b1 b2)
  have HB3 := Lib.hid hb3
  have HT := Lib.hid hT
  have eg1 : ∀ args w, (callFunc 82 args).run Try.prog w = .ok (.enter 82 args) w := enters_f Try.func82 (by kernel_rfl) rfl
  have HE := Lib.hid eg1
  clear eg hdo b0 b1 b2 hb3 hs3 hT eg1
  go_enter Try.func77, Try.ntmps77
  go_wp2_with fail
  refine (try_any _ _ _ (MidZ T R S w.heap.size w3) HE.out ?_ ?_).mono ?_
  · rw [hw3]; exact HG.out
  · rintro n w1 ⟨w4, _, h, _⟩
    simpa using h
  rintro e w5 ⟨n, w1, ⟨w4, hm, hb2, hor⟩, rfl, hk⟩
  have hk' : Past w.heap.size w1 w5 := hk.weak fun k _ h e => by simp at e; omega
  have hM : Mod T w w4 := (Keep.of_below HB3.out).trans hm fun k _ h => h
  have hsz : w.heap.size ≤ w4.heap.size := hM.size
  rcases hor with ⟨rfl, A, m, c, hR, rfl, hbx⟩ | ⟨hn, hS, rfl⟩
  · have hbx' := hbx.keep hk (by simp)
    have hc5 := cell_of_one hbx'
    have HK := Lib.hid (show Past w.heap.size w4 w5 from (Keep.setCell (S := fun _ k => k < w.heap.size ∨ w.heap.size + 3 ≤ k) w4 (by simp <;> omega) _).trans hk' fun _ _ h => h)
    have HM := Lib.hid hM
    have HR := Lib.hid hR
    have hk5 : Mod T w w5 := ⟨HK.out.os.trans hM.os, HK.out.tape.trans hM.tape, HK.out.output.trans hM.output, Nat.le_trans hM.size HK.out.size, fun k hlt h => (HK.out.block k (by omega) (.inl hlt)).trans (hM.block k hlt h)⟩
    have HM5 := Lib.hid hk5
    clear hbx hbx' hk hk' hb2 hm hM hR hk5
    go_wp2
    go_ret2
    exact ⟨.inl ⟨A, m, c, w4, rfl, HR.out, HK.out⟩, HM5.out⟩
  · have HK := Lib.hid hk'
    have HS := Lib.hid hS
    have hk5 : Mod T w w5 := ⟨hk'.os.trans hM.os, hk'.tape.trans hM.tape, hk'.output.trans hM.output, Nat.le_trans hM.size hk'.size, fun k hlt h => (hk'.block k (by omega) (.inl hlt)).trans (hM.block k hlt h)⟩
    have HM5 := Lib.hid hk5
    have hne : (n != 0) = true := by simp [hn]
    have HN := Lib.hid hn
    clear hk hk' hb2 hm hM hS hk5 hn
    go_wp2
    go_ret2
    exact ⟨.inr ⟨n, w1, HN.out, rfl, HS.out, HK.out⟩, HM5.out⟩
end Go.Proofs.Ythpndhdpohmoaaa
