/-
  No cell of these rows narrows 'for every input' (looked for: loops, veiled, ifaces, maps, wideKeys, modest, calm, conditions, laid).
  DERIVED. THE GIVEN ROWS OF THIS SEAT. 10 by the template 'for every input the law returns true; each argument reads behind the call as it read before'; 0 by the template 'total and deterministic' (their statements: YtkbcmblgieoleaaTotals.lean).
  GIVEN WITH THE SEED: the statements are not yours to turn. If you find one false, say at which input.
  Laid BY PROGRAM, IN A SANDBOX (cutbox-rows.mjs): the forced cells as the released guide's own fill.sh prints them over the translation 5fb48699d409264d… (all of the seat's roots in one cut). By AI agents, Wed Nov 11 2026. No macro, syntax, notation, axiom, sorry.
-/
import Derived.Test.YtkbcmblgieoleaaChecked
import GoSem.Claim
import GoSem.ClaimJoined
import GoSem.ClaimMapViews
import Derived.JoinedTies
import Derived.KernelRfl
namespace Go.Proofs.Ytkbcmblgieoleaa
/- THE CELL 'sum', in the pinned program and in every row, IS THE sha256 OF THE DUMP (.gsa) THAT YtkbcmblgieoleaaProg.lean LOADS. Nothing in Lean hashes anything: it is a label: what it is worth is what the hold of that sum in a sandbox is worth. -/
noncomputable def Try.pinned : Pinned := { name := "ytkbcmblgieoleaa", sum := "5fb48699d409264dc059e147eb660348b7b93a2d12f297a4eb8769eaa4662cde", checked := Try.checked }
namespace Rows
def none {H : Type} : Left H := { results := [], args := [] }

/-- 'corduroylaw11.PforShift': WHATEVER THE INPUT: true; the input reads as it did. -/
def pforShiftSpec : ChangeSpec := { name := "pforShift", fn := fun _ => fun
  | [d1, d2] => { results := [.lit (.bool true)], args := [d1, d2] }
  | _ => none }
def pforShiftRow : OpenClaim := { program := "ytkbcmblgieoleaa", sum := "5fb48699d409264dc059e147eb660348b7b93a2d12f297a4eb8769eaa4662cde", func := "corduroy/corduroylaw11.PforShift", spec := "pforShift", unfollowed := true, recurses := true, apart := false }
def PforShiftSaid : Prop := pforShiftRow.holds Try.pinned (OpenSpec.ofChange pforShiftSpec)

/-- ITS FALSE NEIGHBOUR: 'it returns false'. Refute it at one input. -/
def pforShiftWrong : ChangeSpec := { name := "pforShift", fn := fun _ => fun
  | [d1, d2] => { results := [.lit (.bool false)], args := [d1, d2] }
  | _ => none }
def PforShiftWrongFalsely : Prop := pforShiftRow.holds Try.pinned (OpenSpec.ofChange pforShiftWrong)

/-- 'corduroylaw12.DeltaLine': WHATEVER THE INPUT: true; the input reads as it did. -/
def deltaLineSpec : ChangeSpec := { name := "deltaLine", fn := fun _ => fun
  | [d1, d2, d3] => { results := [.lit (.bool true)], args := [d1, d2, d3] }
  | _ => none }
def deltaLineRow : OpenClaim := { program := "ytkbcmblgieoleaa", sum := "5fb48699d409264dc059e147eb660348b7b93a2d12f297a4eb8769eaa4662cde", func := "corduroy/corduroylaw12.DeltaLine", spec := "deltaLine", unfollowed := true, recurses := true, apart := false }
def DeltaLineSaid : Prop := deltaLineRow.holds Try.pinned (OpenSpec.ofChange deltaLineSpec)

/-- ITS FALSE NEIGHBOUR: 'it returns false'. Refute it at one input. -/
def deltaLineWrong : ChangeSpec := { name := "deltaLine", fn := fun _ => fun
  | [d1, d2, d3] => { results := [.lit (.bool false)], args := [d1, d2, d3] }
  | _ => none }
def DeltaLineWrongFalsely : Prop := deltaLineRow.holds Try.pinned (OpenSpec.ofChange deltaLineWrong)

/-- 'corduroylaw12.DeltaDecodes': WHATEVER THE INPUT: true; the input reads as it did. -/
def deltaDecodesSpec : ChangeSpec := { name := "deltaDecodes", fn := fun _ => fun
  | [d1, d2] => { results := [.lit (.bool true)], args := [d1, d2] }
  | _ => none }
def deltaDecodesRow : OpenClaim := { program := "ytkbcmblgieoleaa", sum := "5fb48699d409264dc059e147eb660348b7b93a2d12f297a4eb8769eaa4662cde", func := "corduroy/corduroylaw12.DeltaDecodes", spec := "deltaDecodes", unfollowed := true, recurses := true, apart := false }
def DeltaDecodesSaid : Prop := deltaDecodesRow.holds Try.pinned (OpenSpec.ofChange deltaDecodesSpec)

/-- ITS FALSE NEIGHBOUR: 'it returns false'. Refute it at one input. -/
def deltaDecodesWrong : ChangeSpec := { name := "deltaDecodes", fn := fun _ => fun
  | [d1, d2] => { results := [.lit (.bool false)], args := [d1, d2] }
  | _ => none }
def DeltaDecodesWrongFalsely : Prop := deltaDecodesRow.holds Try.pinned (OpenSpec.ofChange deltaDecodesWrong)

/-- 'corduroylaw12.DeltaApart': WHATEVER THE INPUT: true; the input reads as it did. -/
def deltaApartSpec : ChangeSpec := { name := "deltaApart", fn := fun _ => fun
  | [d1, d2, d3] => { results := [.lit (.bool true)], args := [d1, d2, d3] }
  | _ => none }
def deltaApartRow : OpenClaim := { program := "ytkbcmblgieoleaa", sum := "5fb48699d409264dc059e147eb660348b7b93a2d12f297a4eb8769eaa4662cde", func := "corduroy/corduroylaw12.DeltaApart", spec := "deltaApart", unfollowed := true, recurses := true, apart := false }
def DeltaApartSaid : Prop := deltaApartRow.holds Try.pinned (OpenSpec.ofChange deltaApartSpec)

/-- ITS FALSE NEIGHBOUR: 'it returns false'. Refute it at one input. -/
def deltaApartWrong : ChangeSpec := { name := "deltaApart", fn := fun _ => fun
  | [d1, d2, d3] => { results := [.lit (.bool false)], args := [d1, d2, d3] }
  | _ => none }
def DeltaApartWrongFalsely : Prop := deltaApartRow.holds Try.pinned (OpenSpec.ofChange deltaApartWrong)

/-- 'corduroylaw11.PforDecodes': WHATEVER THE INPUT: true; the input reads as it did. -/
def pforDecodesSpec : ChangeSpec := { name := "pforDecodes", fn := fun _ => fun
  | [d1, d2] => { results := [.lit (.bool true)], args := [d1, d2] }
  | _ => none }
def pforDecodesRow : OpenClaim := { program := "ytkbcmblgieoleaa", sum := "5fb48699d409264dc059e147eb660348b7b93a2d12f297a4eb8769eaa4662cde", func := "corduroy/corduroylaw11.PforDecodes", spec := "pforDecodes", unfollowed := true, recurses := true, apart := false }
def PforDecodesSaid : Prop := pforDecodesRow.holds Try.pinned (OpenSpec.ofChange pforDecodesSpec)

/-- ITS FALSE NEIGHBOUR: 'it returns false'. Refute it at one input. -/
def pforDecodesWrong : ChangeSpec := { name := "pforDecodes", fn := fun _ => fun
  | [d1, d2] => { results := [.lit (.bool false)], args := [d1, d2] }
  | _ => none }
def PforDecodesWrongFalsely : Prop := pforDecodesRow.holds Try.pinned (OpenSpec.ofChange pforDecodesWrong)

/-- 'corduroylaw11.PforApart': WHATEVER THE INPUT: true; the input reads as it did. -/
def pforApartSpec : ChangeSpec := { name := "pforApart", fn := fun _ => fun
  | [d1, d2, d3] => { results := [.lit (.bool true)], args := [d1, d2, d3] }
  | _ => none }
def pforApartRow : OpenClaim := { program := "ytkbcmblgieoleaa", sum := "5fb48699d409264dc059e147eb660348b7b93a2d12f297a4eb8769eaa4662cde", func := "corduroy/corduroylaw11.PforApart", spec := "pforApart", unfollowed := true, recurses := true, apart := false }
def PforApartSaid : Prop := pforApartRow.holds Try.pinned (OpenSpec.ofChange pforApartSpec)

/-- ITS FALSE NEIGHBOUR: 'it returns false'. Refute it at one input. -/
def pforApartWrong : ChangeSpec := { name := "pforApart", fn := fun _ => fun
  | [d1, d2, d3] => { results := [.lit (.bool false)], args := [d1, d2, d3] }
  | _ => none }
def PforApartWrongFalsely : Prop := pforApartRow.holds Try.pinned (OpenSpec.ofChange pforApartWrong)

/-- 'corduroylaw11.PforEncodes': WHATEVER THE INPUT: true; the input reads as it did. -/
def pforEncodesSpec : ChangeSpec := { name := "pforEncodes", fn := fun _ => fun
  | [d] => { results := [.lit (.bool true)], args := [d] }
  | _ => none }
def pforEncodesRow : OpenClaim := { program := "ytkbcmblgieoleaa", sum := "5fb48699d409264dc059e147eb660348b7b93a2d12f297a4eb8769eaa4662cde", func := "corduroy/corduroylaw11.PforEncodes", spec := "pforEncodes", unfollowed := true, recurses := true, apart := false }
def PforEncodesSaid : Prop := pforEncodesRow.holds Try.pinned (OpenSpec.ofChange pforEncodesSpec)

/-- ITS FALSE NEIGHBOUR: 'it returns false'. Refute it at one input. -/
def pforEncodesWrong : ChangeSpec := { name := "pforEncodes", fn := fun _ => fun
  | [d] => { results := [.lit (.bool false)], args := [d] }
  | _ => none }
def PforEncodesWrongFalsely : Prop := pforEncodesRow.holds Try.pinned (OpenSpec.ofChange pforEncodesWrong)

/-- 'corduroylaw12.DeltaEncodes': WHATEVER THE INPUT: true; the input reads as it did. -/
def deltaEncodesSpec : ChangeSpec := { name := "deltaEncodes", fn := fun _ => fun
  | [d] => { results := [.lit (.bool true)], args := [d] }
  | _ => none }
def deltaEncodesRow : OpenClaim := { program := "ytkbcmblgieoleaa", sum := "5fb48699d409264dc059e147eb660348b7b93a2d12f297a4eb8769eaa4662cde", func := "corduroy/corduroylaw12.DeltaEncodes", spec := "deltaEncodes", unfollowed := true, recurses := true, apart := false }
def DeltaEncodesSaid : Prop := deltaEncodesRow.holds Try.pinned (OpenSpec.ofChange deltaEncodesSpec)

/-- ITS FALSE NEIGHBOUR: 'it returns false'. Refute it at one input. -/
def deltaEncodesWrong : ChangeSpec := { name := "deltaEncodes", fn := fun _ => fun
  | [d] => { results := [.lit (.bool false)], args := [d] }
  | _ => none }
def DeltaEncodesWrongFalsely : Prop := deltaEncodesRow.holds Try.pinned (OpenSpec.ofChange deltaEncodesWrong)

/-- 'corduroylaw11.PforBack': WHATEVER THE INPUT: true; the input reads as it did. -/
def pforBackSpec : ChangeSpec := { name := "pforBack", fn := fun _ => fun
  | [d] => { results := [.lit (.bool true)], args := [d] }
  | _ => none }
def pforBackRow : OpenClaim := { program := "ytkbcmblgieoleaa", sum := "5fb48699d409264dc059e147eb660348b7b93a2d12f297a4eb8769eaa4662cde", func := "corduroy/corduroylaw11.PforBack", spec := "pforBack", unfollowed := true, recurses := true, apart := false }
def PforBackSaid : Prop := pforBackRow.holds Try.pinned (OpenSpec.ofChange pforBackSpec)

/-- ITS FALSE NEIGHBOUR: 'it returns false'. Refute it at one input. -/
def pforBackWrong : ChangeSpec := { name := "pforBack", fn := fun _ => fun
  | [d] => { results := [.lit (.bool false)], args := [d] }
  | _ => none }
def PforBackWrongFalsely : Prop := pforBackRow.holds Try.pinned (OpenSpec.ofChange pforBackWrong)

/-- 'corduroylaw12.DeltaBack': WHATEVER THE INPUT: true; the input reads as it did. -/
def deltaBackSpec : ChangeSpec := { name := "deltaBack", fn := fun _ => fun
  | [d] => { results := [.lit (.bool true)], args := [d] }
  | _ => none }
def deltaBackRow : OpenClaim := { program := "ytkbcmblgieoleaa", sum := "5fb48699d409264dc059e147eb660348b7b93a2d12f297a4eb8769eaa4662cde", func := "corduroy/corduroylaw12.DeltaBack", spec := "deltaBack", unfollowed := true, recurses := true, apart := false }
def DeltaBackSaid : Prop := deltaBackRow.holds Try.pinned (OpenSpec.ofChange deltaBackSpec)

/-- ITS FALSE NEIGHBOUR: 'it returns false'. Refute it at one input. -/
def deltaBackWrong : ChangeSpec := { name := "deltaBack", fn := fun _ => fun
  | [d] => { results := [.lit (.bool false)], args := [d] }
  | _ => none }
def DeltaBackWrongFalsely : Prop := deltaBackRow.holds Try.pinned (OpenSpec.ofChange deltaBackWrong)

/- THE SECOND FORM. 'bulk': how many values and letters a reading holds, each counted each time it is reached (what is shared counts as often as it is met; a slice's spare places count too). A statement '..UptoSaid' is the law's where the arguments, and the package variables that the reading takes, are together of bulk at most 1048576: NARROWER than '..Said'. Prove '..Said' where nothing that the law and all that it calls make is longer than what came in: it says more and counts as full. Else prove '..UptoSaid'. A law counts once. -/
mutual
def uptoBulk {H : Type} : DataW H → Nat
  | .lit (.string bytes) => bytes.length + 1
  | .lit _ => 1
  | .nil => 1
  | .ptr d => uptoBulk d + 1
  | .slice elems spare => uptoBulkAll elems + uptoBulkAll spare + 1
  | .agg parts => uptoBulkAll parts + 1
  | .iface _ d => uptoBulk d + 1
  | .map entries => uptoBulkEntries entries + 1
  | .held _ => 1
def uptoBulkAll {H : Type} : List (DataW H) → Nat
  | [] => 0
  | d :: r => uptoBulk d + uptoBulkAll r
def uptoBulkEntries {H : Type} : List (Lit × DataW H) → Nat
  | [] => 0
  | x :: r => uptoBulkEntry x + uptoBulkEntries r
def uptoBulkEntry {H : Type} : Lit × DataW H → Nat
  | (.string bytes, d) => bytes.length + uptoBulk d + 1
  | (_, d) => uptoBulk d + 1
 end
def uptoSmall : (H : Type) → List (DataW H) → Bool := fun _ ds => decide (uptoBulkAll ds ≤ 1048576)
def OpenSpec.upto (s : _root_.Go.ChangeSpec) : _root_.Go.OpenSpec := { _root_.Go.OpenSpec.ofChange s with cond := some uptoSmall }

/-- 'corduroylaw11.PforShift', WHERE WHAT IT READS IS OF BULK AT MOST 1048576: true; the input reads as it did. -/
def pforShiftUptoRow : OpenClaim := { program := "ytkbcmblgieoleaa", sum := "5fb48699d409264dc059e147eb660348b7b93a2d12f297a4eb8769eaa4662cde", func := "corduroy/corduroylaw11.PforShift", spec := "pforShift", unfollowed := true, recurses := true, apart := false, narrowed := true }
def PforShiftUptoSaid : Prop := pforShiftUptoRow.holds Try.pinned (OpenSpec.upto pforShiftSpec)

/-- 'corduroylaw12.DeltaLine', WHERE WHAT IT READS IS OF BULK AT MOST 1048576: true; the input reads as it did. -/
def deltaLineUptoRow : OpenClaim := { program := "ytkbcmblgieoleaa", sum := "5fb48699d409264dc059e147eb660348b7b93a2d12f297a4eb8769eaa4662cde", func := "corduroy/corduroylaw12.DeltaLine", spec := "deltaLine", unfollowed := true, recurses := true, apart := false, narrowed := true }
def DeltaLineUptoSaid : Prop := deltaLineUptoRow.holds Try.pinned (OpenSpec.upto deltaLineSpec)

/-- 'corduroylaw12.DeltaDecodes', WHERE WHAT IT READS IS OF BULK AT MOST 1048576: true; the input reads as it did. -/
def deltaDecodesUptoRow : OpenClaim := { program := "ytkbcmblgieoleaa", sum := "5fb48699d409264dc059e147eb660348b7b93a2d12f297a4eb8769eaa4662cde", func := "corduroy/corduroylaw12.DeltaDecodes", spec := "deltaDecodes", unfollowed := true, recurses := true, apart := false, narrowed := true }
def DeltaDecodesUptoSaid : Prop := deltaDecodesUptoRow.holds Try.pinned (OpenSpec.upto deltaDecodesSpec)

/-- 'corduroylaw12.DeltaApart', WHERE WHAT IT READS IS OF BULK AT MOST 1048576: true; the input reads as it did. -/
def deltaApartUptoRow : OpenClaim := { program := "ytkbcmblgieoleaa", sum := "5fb48699d409264dc059e147eb660348b7b93a2d12f297a4eb8769eaa4662cde", func := "corduroy/corduroylaw12.DeltaApart", spec := "deltaApart", unfollowed := true, recurses := true, apart := false, narrowed := true }
def DeltaApartUptoSaid : Prop := deltaApartUptoRow.holds Try.pinned (OpenSpec.upto deltaApartSpec)

/-- 'corduroylaw11.PforDecodes', WHERE WHAT IT READS IS OF BULK AT MOST 1048576: true; the input reads as it did. -/
def pforDecodesUptoRow : OpenClaim := { program := "ytkbcmblgieoleaa", sum := "5fb48699d409264dc059e147eb660348b7b93a2d12f297a4eb8769eaa4662cde", func := "corduroy/corduroylaw11.PforDecodes", spec := "pforDecodes", unfollowed := true, recurses := true, apart := false, narrowed := true }
def PforDecodesUptoSaid : Prop := pforDecodesUptoRow.holds Try.pinned (OpenSpec.upto pforDecodesSpec)

/-- 'corduroylaw11.PforApart', WHERE WHAT IT READS IS OF BULK AT MOST 1048576: true; the input reads as it did. -/
def pforApartUptoRow : OpenClaim := { program := "ytkbcmblgieoleaa", sum := "5fb48699d409264dc059e147eb660348b7b93a2d12f297a4eb8769eaa4662cde", func := "corduroy/corduroylaw11.PforApart", spec := "pforApart", unfollowed := true, recurses := true, apart := false, narrowed := true }
def PforApartUptoSaid : Prop := pforApartUptoRow.holds Try.pinned (OpenSpec.upto pforApartSpec)

/-- 'corduroylaw11.PforEncodes', WHERE WHAT IT READS IS OF BULK AT MOST 1048576: true; the input reads as it did. -/
def pforEncodesUptoRow : OpenClaim := { program := "ytkbcmblgieoleaa", sum := "5fb48699d409264dc059e147eb660348b7b93a2d12f297a4eb8769eaa4662cde", func := "corduroy/corduroylaw11.PforEncodes", spec := "pforEncodes", unfollowed := true, recurses := true, apart := false, narrowed := true }
def PforEncodesUptoSaid : Prop := pforEncodesUptoRow.holds Try.pinned (OpenSpec.upto pforEncodesSpec)

/-- 'corduroylaw12.DeltaEncodes', WHERE WHAT IT READS IS OF BULK AT MOST 1048576: true; the input reads as it did. -/
def deltaEncodesUptoRow : OpenClaim := { program := "ytkbcmblgieoleaa", sum := "5fb48699d409264dc059e147eb660348b7b93a2d12f297a4eb8769eaa4662cde", func := "corduroy/corduroylaw12.DeltaEncodes", spec := "deltaEncodes", unfollowed := true, recurses := true, apart := false, narrowed := true }
def DeltaEncodesUptoSaid : Prop := deltaEncodesUptoRow.holds Try.pinned (OpenSpec.upto deltaEncodesSpec)

/-- 'corduroylaw11.PforBack', WHERE WHAT IT READS IS OF BULK AT MOST 1048576: true; the input reads as it did. -/
def pforBackUptoRow : OpenClaim := { program := "ytkbcmblgieoleaa", sum := "5fb48699d409264dc059e147eb660348b7b93a2d12f297a4eb8769eaa4662cde", func := "corduroy/corduroylaw11.PforBack", spec := "pforBack", unfollowed := true, recurses := true, apart := false, narrowed := true }
def PforBackUptoSaid : Prop := pforBackUptoRow.holds Try.pinned (OpenSpec.upto pforBackSpec)

/-- 'corduroylaw12.DeltaBack', WHERE WHAT IT READS IS OF BULK AT MOST 1048576: true; the input reads as it did. -/
def deltaBackUptoRow : OpenClaim := { program := "ytkbcmblgieoleaa", sum := "5fb48699d409264dc059e147eb660348b7b93a2d12f297a4eb8769eaa4662cde", func := "corduroy/corduroylaw12.DeltaBack", spec := "deltaBack", unfollowed := true, recurses := true, apart := false, narrowed := true }
def DeltaBackUptoSaid : Prop := deltaBackUptoRow.holds Try.pinned (OpenSpec.upto deltaBackSpec)

end Rows
end Go.Proofs.Ytkbcmblgieoleaa
