/-
  No cell of these rows narrows 'for every input' (looked for: loops, veiled, ifaces, maps, wideKeys, modest, calm, conditions, laid).
  DERIVED. THE GIVEN ROWS OF THIS SEAT. 10 by the template 'for every input the law returns true; each argument reads behind the call as it read before'; 0 by the template 'total and deterministic' (their statements: YtbfnaigefmdcdaaTotals.lean).
  GIVEN WITH THE SEED: the statements are not yours to turn. If you find one false, say at which input.
  Laid BY PROGRAM, IN A SANDBOX (cutbox-rows.mjs): the forced cells as the released guide's own fill.sh prints them over the translation b603f95696f89ccd… (all of the seat's roots in one cut). By AI agents, Wed Nov 11 2026. No macro, syntax, notation, axiom, sorry.
-/
import Derived.Test.YtbfnaigefmdcdaaChecked
import GoSem.Claim
import GoSem.ClaimJoined
import GoSem.ClaimMapViews
import Derived.JoinedTies
import Derived.KernelRfl
namespace Go.Proofs.Ytbfnaigefmdcdaa
/- THE CELL 'sum', in the pinned program and in every row, IS THE sha256 OF THE DUMP (.gsa) THAT YtbfnaigefmdcdaaProg.lean LOADS. Nothing in Lean hashes anything: it is a label: what it is worth is what the hold of that sum in a sandbox is worth. -/
noncomputable def Try.pinned : Pinned := { name := "ytbfnaigefmdcdaa", sum := "b603f95696f89ccdcfb7a16c7fd1c103a423b4f052be67c0b0abd6abfe21e64b", checked := Try.checked }
namespace Rows
def none {H : Type} : Left H := { results := [], args := [] }

/-- 'corduroylaw08.ZvarSmall': WHATEVER THE INPUT: true; the input reads as it did. -/
def zvarSmallSpec : ChangeSpec := { name := "zvarSmall", fn := fun _ => fun
  | [d] => { results := [.lit (.bool true)], args := [d] }
  | _ => none }
def zvarSmallRow : OpenClaim := { program := "ytbfnaigefmdcdaa", sum := "b603f95696f89ccdcfb7a16c7fd1c103a423b4f052be67c0b0abd6abfe21e64b", func := "corduroy/corduroylaw08.ZvarSmall", spec := "zvarSmall", unfollowed := true, recurses := true, apart := false }
def ZvarSmallSaid : Prop := zvarSmallRow.holds Try.pinned (OpenSpec.ofChange zvarSmallSpec)

/-- ITS FALSE NEIGHBOUR: 'it returns false'. Refute it at one input. -/
def zvarSmallWrong : ChangeSpec := { name := "zvarSmall", fn := fun _ => fun
  | [d] => { results := [.lit (.bool false)], args := [d] }
  | _ => none }
def ZvarSmallWrongFalsely : Prop := zvarSmallRow.holds Try.pinned (OpenSpec.ofChange zvarSmallWrong)

/-- 'corduroylaw08.ZvarEncodes': WHATEVER THE INPUT: true; the input reads as it did. -/
def zvarEncodesSpec : ChangeSpec := { name := "zvarEncodes", fn := fun _ => fun
  | [d] => { results := [.lit (.bool true)], args := [d] }
  | _ => none }
def zvarEncodesRow : OpenClaim := { program := "ytbfnaigefmdcdaa", sum := "b603f95696f89ccdcfb7a16c7fd1c103a423b4f052be67c0b0abd6abfe21e64b", func := "corduroy/corduroylaw08.ZvarEncodes", spec := "zvarEncodes", unfollowed := true, recurses := true, apart := false }
def ZvarEncodesSaid : Prop := zvarEncodesRow.holds Try.pinned (OpenSpec.ofChange zvarEncodesSpec)

/-- ITS FALSE NEIGHBOUR: 'it returns false'. Refute it at one input. -/
def zvarEncodesWrong : ChangeSpec := { name := "zvarEncodes", fn := fun _ => fun
  | [d] => { results := [.lit (.bool false)], args := [d] }
  | _ => none }
def ZvarEncodesWrongFalsely : Prop := zvarEncodesRow.holds Try.pinned (OpenSpec.ofChange zvarEncodesWrong)

/-- 'corduroylaw08.ZvarDecodes': WHATEVER THE INPUT: true; the input reads as it did. -/
def zvarDecodesSpec : ChangeSpec := { name := "zvarDecodes", fn := fun _ => fun
  | [d1, d2] => { results := [.lit (.bool true)], args := [d1, d2] }
  | _ => none }
def zvarDecodesRow : OpenClaim := { program := "ytbfnaigefmdcdaa", sum := "b603f95696f89ccdcfb7a16c7fd1c103a423b4f052be67c0b0abd6abfe21e64b", func := "corduroy/corduroylaw08.ZvarDecodes", spec := "zvarDecodes", unfollowed := true, recurses := true, apart := false }
def ZvarDecodesSaid : Prop := zvarDecodesRow.holds Try.pinned (OpenSpec.ofChange zvarDecodesSpec)

/-- ITS FALSE NEIGHBOUR: 'it returns false'. Refute it at one input. -/
def zvarDecodesWrong : ChangeSpec := { name := "zvarDecodes", fn := fun _ => fun
  | [d1, d2] => { results := [.lit (.bool false)], args := [d1, d2] }
  | _ => none }
def ZvarDecodesWrongFalsely : Prop := zvarDecodesRow.holds Try.pinned (OpenSpec.ofChange zvarDecodesWrong)

/-- 'corduroylaw08.ZvarApart': WHATEVER THE INPUT: true; the input reads as it did. -/
def zvarApartSpec : ChangeSpec := { name := "zvarApart", fn := fun _ => fun
  | [d1, d2, d3] => { results := [.lit (.bool true)], args := [d1, d2, d3] }
  | _ => none }
def zvarApartRow : OpenClaim := { program := "ytbfnaigefmdcdaa", sum := "b603f95696f89ccdcfb7a16c7fd1c103a423b4f052be67c0b0abd6abfe21e64b", func := "corduroy/corduroylaw08.ZvarApart", spec := "zvarApart", unfollowed := true, recurses := true, apart := false }
def ZvarApartSaid : Prop := zvarApartRow.holds Try.pinned (OpenSpec.ofChange zvarApartSpec)

/-- ITS FALSE NEIGHBOUR: 'it returns false'. Refute it at one input. -/
def zvarApartWrong : ChangeSpec := { name := "zvarApart", fn := fun _ => fun
  | [d1, d2, d3] => { results := [.lit (.bool false)], args := [d1, d2, d3] }
  | _ => none }
def ZvarApartWrongFalsely : Prop := zvarApartRow.holds Try.pinned (OpenSpec.ofChange zvarApartWrong)

/-- 'corduroylaw08.ZvarBack': WHATEVER THE INPUT: true; the input reads as it did. -/
def zvarBackSpec : ChangeSpec := { name := "zvarBack", fn := fun _ => fun
  | [d] => { results := [.lit (.bool true)], args := [d] }
  | _ => none }
def zvarBackRow : OpenClaim := { program := "ytbfnaigefmdcdaa", sum := "b603f95696f89ccdcfb7a16c7fd1c103a423b4f052be67c0b0abd6abfe21e64b", func := "corduroy/corduroylaw08.ZvarBack", spec := "zvarBack", unfollowed := true, recurses := true, apart := false }
def ZvarBackSaid : Prop := zvarBackRow.holds Try.pinned (OpenSpec.ofChange zvarBackSpec)

/-- ITS FALSE NEIGHBOUR: 'it returns false'. Refute it at one input. -/
def zvarBackWrong : ChangeSpec := { name := "zvarBack", fn := fun _ => fun
  | [d] => { results := [.lit (.bool false)], args := [d] }
  | _ => none }
def ZvarBackWrongFalsely : Prop := zvarBackRow.holds Try.pinned (OpenSpec.ofChange zvarBackWrong)

/-- 'corduroylaw10.HybridConstant': WHATEVER THE INPUT: true; the input reads as it did. -/
def hybridConstantSpec : ChangeSpec := { name := "hybridConstant", fn := fun _ => fun
  | [d1, d2] => { results := [.lit (.bool true)], args := [d1, d2] }
  | _ => none }
def hybridConstantRow : OpenClaim := { program := "ytbfnaigefmdcdaa", sum := "b603f95696f89ccdcfb7a16c7fd1c103a423b4f052be67c0b0abd6abfe21e64b", func := "corduroy/corduroylaw10.HybridConstant", spec := "hybridConstant", unfollowed := true, recurses := true, apart := false }
def HybridConstantSaid : Prop := hybridConstantRow.holds Try.pinned (OpenSpec.ofChange hybridConstantSpec)

/-- ITS FALSE NEIGHBOUR: 'it returns false'. Refute it at one input. -/
def hybridConstantWrong : ChangeSpec := { name := "hybridConstant", fn := fun _ => fun
  | [d1, d2] => { results := [.lit (.bool false)], args := [d1, d2] }
  | _ => none }
def HybridConstantWrongFalsely : Prop := hybridConstantRow.holds Try.pinned (OpenSpec.ofChange hybridConstantWrong)

/-- 'corduroylaw10.HybridEncodes': WHATEVER THE INPUT: true; the input reads as it did. -/
def hybridEncodesSpec : ChangeSpec := { name := "hybridEncodes", fn := fun _ => fun
  | [d] => { results := [.lit (.bool true)], args := [d] }
  | _ => none }
def hybridEncodesRow : OpenClaim := { program := "ytbfnaigefmdcdaa", sum := "b603f95696f89ccdcfb7a16c7fd1c103a423b4f052be67c0b0abd6abfe21e64b", func := "corduroy/corduroylaw10.HybridEncodes", spec := "hybridEncodes", unfollowed := true, recurses := true, apart := false }
def HybridEncodesSaid : Prop := hybridEncodesRow.holds Try.pinned (OpenSpec.ofChange hybridEncodesSpec)

/-- ITS FALSE NEIGHBOUR: 'it returns false'. Refute it at one input. -/
def hybridEncodesWrong : ChangeSpec := { name := "hybridEncodes", fn := fun _ => fun
  | [d] => { results := [.lit (.bool false)], args := [d] }
  | _ => none }
def HybridEncodesWrongFalsely : Prop := hybridEncodesRow.holds Try.pinned (OpenSpec.ofChange hybridEncodesWrong)

/-- 'corduroylaw10.HybridDecodes': WHATEVER THE INPUT: true; the input reads as it did. -/
def hybridDecodesSpec : ChangeSpec := { name := "hybridDecodes", fn := fun _ => fun
  | [d1, d2] => { results := [.lit (.bool true)], args := [d1, d2] }
  | _ => none }
def hybridDecodesRow : OpenClaim := { program := "ytbfnaigefmdcdaa", sum := "b603f95696f89ccdcfb7a16c7fd1c103a423b4f052be67c0b0abd6abfe21e64b", func := "corduroy/corduroylaw10.HybridDecodes", spec := "hybridDecodes", unfollowed := true, recurses := true, apart := false }
def HybridDecodesSaid : Prop := hybridDecodesRow.holds Try.pinned (OpenSpec.ofChange hybridDecodesSpec)

/-- ITS FALSE NEIGHBOUR: 'it returns false'. Refute it at one input. -/
def hybridDecodesWrong : ChangeSpec := { name := "hybridDecodes", fn := fun _ => fun
  | [d1, d2] => { results := [.lit (.bool false)], args := [d1, d2] }
  | _ => none }
def HybridDecodesWrongFalsely : Prop := hybridDecodesRow.holds Try.pinned (OpenSpec.ofChange hybridDecodesWrong)

/-- 'corduroylaw10.HybridApart': WHATEVER THE INPUT: true; the input reads as it did. -/
def hybridApartSpec : ChangeSpec := { name := "hybridApart", fn := fun _ => fun
  | [d1, d2, d3] => { results := [.lit (.bool true)], args := [d1, d2, d3] }
  | _ => none }
def hybridApartRow : OpenClaim := { program := "ytbfnaigefmdcdaa", sum := "b603f95696f89ccdcfb7a16c7fd1c103a423b4f052be67c0b0abd6abfe21e64b", func := "corduroy/corduroylaw10.HybridApart", spec := "hybridApart", unfollowed := true, recurses := true, apart := false }
def HybridApartSaid : Prop := hybridApartRow.holds Try.pinned (OpenSpec.ofChange hybridApartSpec)

/-- ITS FALSE NEIGHBOUR: 'it returns false'. Refute it at one input. -/
def hybridApartWrong : ChangeSpec := { name := "hybridApart", fn := fun _ => fun
  | [d1, d2, d3] => { results := [.lit (.bool false)], args := [d1, d2, d3] }
  | _ => none }
def HybridApartWrongFalsely : Prop := hybridApartRow.holds Try.pinned (OpenSpec.ofChange hybridApartWrong)

/-- 'corduroylaw10.HybridBack': WHATEVER THE INPUT: true; the input reads as it did. -/
def hybridBackSpec : ChangeSpec := { name := "hybridBack", fn := fun _ => fun
  | [d] => { results := [.lit (.bool true)], args := [d] }
  | _ => none }
def hybridBackRow : OpenClaim := { program := "ytbfnaigefmdcdaa", sum := "b603f95696f89ccdcfb7a16c7fd1c103a423b4f052be67c0b0abd6abfe21e64b", func := "corduroy/corduroylaw10.HybridBack", spec := "hybridBack", unfollowed := true, recurses := true, apart := false }
def HybridBackSaid : Prop := hybridBackRow.holds Try.pinned (OpenSpec.ofChange hybridBackSpec)

/-- ITS FALSE NEIGHBOUR: 'it returns false'. Refute it at one input. -/
def hybridBackWrong : ChangeSpec := { name := "hybridBack", fn := fun _ => fun
  | [d] => { results := [.lit (.bool false)], args := [d] }
  | _ => none }
def HybridBackWrongFalsely : Prop := hybridBackRow.holds Try.pinned (OpenSpec.ofChange hybridBackWrong)

/- THE SECOND FORM. 'bulk': how many values and letters a reading holds, each counted each time it is reached (what is shared counts as often as it is met; a slice's spare places count too). A statement '..UptoSaid' is the law's where the arguments, and the package variables that the reading takes, are together of bulk at most 1048576: NARROWER than '..Said'. Prove '..Said' where nothing that the law and all that it calls make is longer than what came in: it says more and counts as full. Else prove '..UptoSaid'. A law counts once. -/
mutual
def uptoBulk {H : Type} : DataW H → Nat
  | .lit (.string bytes) => bytes.length + 1
  | .lit _ => 1
  | .nil => 1
  | .ptr d => uptoBulk d + 1
  | .slice elems spare => uptoBulkAll elems + uptoBulkAll spare + 1
  | .agg parts => uptoBulkAll parts + 1
  | .iface _ d => uptoBulk d + 1
  | .map entries => uptoBulkEntries entries + 1
  | .held _ => 1
def uptoBulkAll {H : Type} : List (DataW H) → Nat
  | [] => 0
  | d :: r => uptoBulk d + uptoBulkAll r
def uptoBulkEntries {H : Type} : List (Lit × DataW H) → Nat
  | [] => 0
  | x :: r => uptoBulkEntry x + uptoBulkEntries r
def uptoBulkEntry {H : Type} : Lit × DataW H → Nat
  | (.string bytes, d) => bytes.length + uptoBulk d + 1
  | (_, d) => uptoBulk d + 1
 end
def uptoSmall : (H : Type) → List (DataW H) → Bool := fun _ ds => decide (uptoBulkAll ds ≤ 1048576)
def OpenSpec.upto (s : _root_.Go.ChangeSpec) : _root_.Go.OpenSpec := { _root_.Go.OpenSpec.ofChange s with cond := some uptoSmall }

/-- 'corduroylaw08.ZvarSmall', WHERE WHAT IT READS IS OF BULK AT MOST 1048576: true; the input reads as it did. -/
def zvarSmallUptoRow : OpenClaim := { program := "ytbfnaigefmdcdaa", sum := "b603f95696f89ccdcfb7a16c7fd1c103a423b4f052be67c0b0abd6abfe21e64b", func := "corduroy/corduroylaw08.ZvarSmall", spec := "zvarSmall", unfollowed := true, recurses := true, apart := false, narrowed := true }
def ZvarSmallUptoSaid : Prop := zvarSmallUptoRow.holds Try.pinned (OpenSpec.upto zvarSmallSpec)

/-- 'corduroylaw08.ZvarEncodes', WHERE WHAT IT READS IS OF BULK AT MOST 1048576: true; the input reads as it did. -/
def zvarEncodesUptoRow : OpenClaim := { program := "ytbfnaigefmdcdaa", sum := "b603f95696f89ccdcfb7a16c7fd1c103a423b4f052be67c0b0abd6abfe21e64b", func := "corduroy/corduroylaw08.ZvarEncodes", spec := "zvarEncodes", unfollowed := true, recurses := true, apart := false, narrowed := true }
def ZvarEncodesUptoSaid : Prop := zvarEncodesUptoRow.holds Try.pinned (OpenSpec.upto zvarEncodesSpec)

/-- 'corduroylaw08.ZvarDecodes', WHERE WHAT IT READS IS OF BULK AT MOST 1048576: true; the input reads as it did. -/
def zvarDecodesUptoRow : OpenClaim := { program := "ytbfnaigefmdcdaa", sum := "b603f95696f89ccdcfb7a16c7fd1c103a423b4f052be67c0b0abd6abfe21e64b", func := "corduroy/corduroylaw08.ZvarDecodes", spec := "zvarDecodes", unfollowed := true, recurses := true, apart := false, narrowed := true }
def ZvarDecodesUptoSaid : Prop := zvarDecodesUptoRow.holds Try.pinned (OpenSpec.upto zvarDecodesSpec)

/-- 'corduroylaw08.ZvarApart', WHERE WHAT IT READS IS OF BULK AT MOST 1048576: true; the input reads as it did. -/
def zvarApartUptoRow : OpenClaim := { program := "ytbfnaigefmdcdaa", sum := "b603f95696f89ccdcfb7a16c7fd1c103a423b4f052be67c0b0abd6abfe21e64b", func := "corduroy/corduroylaw08.ZvarApart", spec := "zvarApart", unfollowed := true, recurses := true, apart := false, narrowed := true }
def ZvarApartUptoSaid : Prop := zvarApartUptoRow.holds Try.pinned (OpenSpec.upto zvarApartSpec)

/-- 'corduroylaw08.ZvarBack', WHERE WHAT IT READS IS OF BULK AT MOST 1048576: true; the input reads as it did. -/
def zvarBackUptoRow : OpenClaim := { program := "ytbfnaigefmdcdaa", sum := "b603f95696f89ccdcfb7a16c7fd1c103a423b4f052be67c0b0abd6abfe21e64b", func := "corduroy/corduroylaw08.ZvarBack", spec := "zvarBack", unfollowed := true, recurses := true, apart := false, narrowed := true }
def ZvarBackUptoSaid : Prop := zvarBackUptoRow.holds Try.pinned (OpenSpec.upto zvarBackSpec)

/-- 'corduroylaw10.HybridConstant', WHERE WHAT IT READS IS OF BULK AT MOST 1048576: true; the input reads as it did. -/
def hybridConstantUptoRow : OpenClaim := { program := "ytbfnaigefmdcdaa", sum := "b603f95696f89ccdcfb7a16c7fd1c103a423b4f052be67c0b0abd6abfe21e64b", func := "corduroy/corduroylaw10.HybridConstant", spec := "hybridConstant", unfollowed := true, recurses := true, apart := false, narrowed := true }
def HybridConstantUptoSaid : Prop := hybridConstantUptoRow.holds Try.pinned (OpenSpec.upto hybridConstantSpec)

/-- 'corduroylaw10.HybridEncodes', WHERE WHAT IT READS IS OF BULK AT MOST 1048576: true; the input reads as it did. -/
def hybridEncodesUptoRow : OpenClaim := { program := "ytbfnaigefmdcdaa", sum := "b603f95696f89ccdcfb7a16c7fd1c103a423b4f052be67c0b0abd6abfe21e64b", func := "corduroy/corduroylaw10.HybridEncodes", spec := "hybridEncodes", unfollowed := true, recurses := true, apart := false, narrowed := true }
def HybridEncodesUptoSaid : Prop := hybridEncodesUptoRow.holds Try.pinned (OpenSpec.upto hybridEncodesSpec)

/-- 'corduroylaw10.HybridDecodes', WHERE WHAT IT READS IS OF BULK AT MOST 1048576: true; the input reads as it did. -/
def hybridDecodesUptoRow : OpenClaim := { program := "ytbfnaigefmdcdaa", sum := "b603f95696f89ccdcfb7a16c7fd1c103a423b4f052be67c0b0abd6abfe21e64b", func := "corduroy/corduroylaw10.HybridDecodes", spec := "hybridDecodes", unfollowed := true, recurses := true, apart := false, narrowed := true }
def HybridDecodesUptoSaid : Prop := hybridDecodesUptoRow.holds Try.pinned (OpenSpec.upto hybridDecodesSpec)

/-- 'corduroylaw10.HybridApart', WHERE WHAT IT READS IS OF BULK AT MOST 1048576: true; the input reads as it did. -/
def hybridApartUptoRow : OpenClaim := { program := "ytbfnaigefmdcdaa", sum := "b603f95696f89ccdcfb7a16c7fd1c103a423b4f052be67c0b0abd6abfe21e64b", func := "corduroy/corduroylaw10.HybridApart", spec := "hybridApart", unfollowed := true, recurses := true, apart := false, narrowed := true }
def HybridApartUptoSaid : Prop := hybridApartUptoRow.holds Try.pinned (OpenSpec.upto hybridApartSpec)

/-- 'corduroylaw10.HybridBack', WHERE WHAT IT READS IS OF BULK AT MOST 1048576: true; the input reads as it did. -/
def hybridBackUptoRow : OpenClaim := { program := "ytbfnaigefmdcdaa", sum := "b603f95696f89ccdcfb7a16c7fd1c103a423b4f052be67c0b0abd6abfe21e64b", func := "corduroy/corduroylaw10.HybridBack", spec := "hybridBack", unfollowed := true, recurses := true, apart := false, narrowed := true }
def HybridBackUptoSaid : Prop := hybridBackUptoRow.holds Try.pinned (OpenSpec.upto hybridBackSpec)

end Rows
end Go.Proofs.Ytbfnaigefmdcdaa
