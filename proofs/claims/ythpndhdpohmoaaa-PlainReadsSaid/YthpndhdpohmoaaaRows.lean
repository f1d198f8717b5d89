/-
  No cell of these rows narrows 'for every input' (looked for: loops, veiled, ifaces, maps, wideKeys, modest, calm, conditions, laid).
  DERIVED. THE GIVEN ROWS OF THIS SEAT. 10 by the template 'for every input the law returns true; each argument reads behind the call as it read before'; 0 by the template 'total and deterministic' (their statements: YthpndhdpohmoaaaTotals.lean).
  GIVEN WITH THE SEED: the statements are not yours to turn. If you find one false, say at which input.
  Laid BY PROGRAM, IN A SANDBOX (cutbox-rows.mjs): the forced cells as the released guide's own fill.sh prints them over the translation 207d3742804e20c9… (all of the seat's roots in one cut). By AI agents, Wed Nov 11 2026. No macro, syntax, notation, axiom, sorry.
-/
import Derived.Test.YthpndhdpohmoaaaChecked
import GoSem.Claim
import GoSem.ClaimJoined
import GoSem.ClaimMapViews
import Derived.JoinedTies
import Derived.KernelRfl
namespace Go.Proofs.Ythpndhdpohmoaaa
/- THE CELL 'sum', in the pinned program and in every row, IS THE sha256 OF THE DUMP (.gsa) THAT YthpndhdpohmoaaaProg.lean LOADS. Nothing in Lean hashes anything: it is a label: what it is worth is what the hold of that sum in a sandbox is worth. -/
noncomputable def Try.pinned : Pinned := { name := "ythpndhdpohmoaaa", sum := "207d3742804e20c90b1364c6f42327cc699219fddeaac8bfbca8fbe16da3e2f1", checked := Try.checked }
namespace Rows
def none {H : Type} : Left H := { results := [], args := [] }

/-- 'corduroylaw25.ZoneTells': WHATEVER THE INPUT: true; the input reads as it did. -/
def zoneTellsSpec : ChangeSpec := { name := "zoneTells", fn := fun _ => fun
  | [d1, d2] => { results := [.lit (.bool true)], args := [d1, d2] }
  | _ => none }
def zoneTellsRow : OpenClaim := { program := "ythpndhdpohmoaaa", sum := "207d3742804e20c90b1364c6f42327cc699219fddeaac8bfbca8fbe16da3e2f1", func := "corduroy/corduroylaw25.ZoneTells", spec := "zoneTells", apart := false }
def ZoneTellsSaid : Prop := zoneTellsRow.holds Try.pinned (OpenSpec.ofChange zoneTellsSpec)

/-- ITS FALSE NEIGHBOUR: 'it returns false'. Refute it at one input. -/
def zoneTellsWrong : ChangeSpec := { name := "zoneTells", fn := fun _ => fun
  | [d1, d2] => { results := [.lit (.bool false)], args := [d1, d2] }
  | _ => none }
def ZoneTellsWrongFalsely : Prop := zoneTellsRow.holds Try.pinned (OpenSpec.ofChange zoneTellsWrong)

/-- 'corduroylaw07.PlainEncodes': WHATEVER THE INPUT: true; the input reads as it did. -/
def plainEncodesSpec : ChangeSpec := { name := "plainEncodes", fn := fun _ => fun
  | [d] => { results := [.lit (.bool true)], args := [d] }
  | _ => none }
def plainEncodesRow : OpenClaim := { program := "ythpndhdpohmoaaa", sum := "207d3742804e20c90b1364c6f42327cc699219fddeaac8bfbca8fbe16da3e2f1", func := "corduroy/corduroylaw07.PlainEncodes", spec := "plainEncodes", unfollowed := true, recurses := true, apart := false }
def PlainEncodesSaid : Prop := plainEncodesRow.holds Try.pinned (OpenSpec.ofChange plainEncodesSpec)

/-- ITS FALSE NEIGHBOUR: 'it returns false'. Refute it at one input. -/
def plainEncodesWrong : ChangeSpec := { name := "plainEncodes", fn := fun _ => fun
  | [d] => { results := [.lit (.bool false)], args := [d] }
  | _ => none }
def PlainEncodesWrongFalsely : Prop := plainEncodesRow.holds Try.pinned (OpenSpec.ofChange plainEncodesWrong)

/-- 'corduroylaw03.CursorPuts': WHATEVER THE INPUT: true; the input reads as it did. -/
def cursorPutsSpec : ChangeSpec := { name := "cursorPuts", fn := fun _ => fun
  | [d1, d2] => { results := [.lit (.bool true)], args := [d1, d2] }
  | _ => none }
def cursorPutsRow : OpenClaim := { program := "ythpndhdpohmoaaa", sum := "207d3742804e20c90b1364c6f42327cc699219fddeaac8bfbca8fbe16da3e2f1", func := "corduroy/corduroylaw03.CursorPuts", spec := "cursorPuts", unfollowed := true, recurses := true, apart := false }
def CursorPutsSaid : Prop := cursorPutsRow.holds Try.pinned (OpenSpec.ofChange cursorPutsSpec)

/-- ITS FALSE NEIGHBOUR: 'it returns false'. Refute it at one input. -/
def cursorPutsWrong : ChangeSpec := { name := "cursorPuts", fn := fun _ => fun
  | [d1, d2] => { results := [.lit (.bool false)], args := [d1, d2] }
  | _ => none }
def CursorPutsWrongFalsely : Prop := cursorPutsRow.holds Try.pinned (OpenSpec.ofChange cursorPutsWrong)

/-- 'corduroylaw03.CursorBack': WHATEVER THE INPUT: true; the input reads as it did. -/
def cursorBackSpec : ChangeSpec := { name := "cursorBack", fn := fun _ => fun
  | [d1, d2] => { results := [.lit (.bool true)], args := [d1, d2] }
  | _ => none }
def cursorBackRow : OpenClaim := { program := "ythpndhdpohmoaaa", sum := "207d3742804e20c90b1364c6f42327cc699219fddeaac8bfbca8fbe16da3e2f1", func := "corduroy/corduroylaw03.CursorBack", spec := "cursorBack", unfollowed := true, recurses := true, apart := false }
def CursorBackSaid : Prop := cursorBackRow.holds Try.pinned (OpenSpec.ofChange cursorBackSpec)

/-- ITS FALSE NEIGHBOUR: 'it returns false'. Refute it at one input. -/
def cursorBackWrong : ChangeSpec := { name := "cursorBack", fn := fun _ => fun
  | [d1, d2] => { results := [.lit (.bool false)], args := [d1, d2] }
  | _ => none }
def CursorBackWrongFalsely : Prop := cursorBackRow.holds Try.pinned (OpenSpec.ofChange cursorBackWrong)

/-- 'corduroylaw03.CursorReads': WHATEVER THE INPUT: true; the input reads as it did. -/
def cursorReadsSpec : ChangeSpec := { name := "cursorReads", fn := fun _ => fun
  | [d1, d2] => { results := [.lit (.bool true)], args := [d1, d2] }
  | _ => none }
def cursorReadsRow : OpenClaim := { program := "ythpndhdpohmoaaa", sum := "207d3742804e20c90b1364c6f42327cc699219fddeaac8bfbca8fbe16da3e2f1", func := "corduroy/corduroylaw03.CursorReads", spec := "cursorReads", unfollowed := true, recurses := true, apart := false }
def CursorReadsSaid : Prop := cursorReadsRow.holds Try.pinned (OpenSpec.ofChange cursorReadsSpec)

/-- ITS FALSE NEIGHBOUR: 'it returns false'. Refute it at one input. -/
def cursorReadsWrong : ChangeSpec := { name := "cursorReads", fn := fun _ => fun
  | [d1, d2] => { results := [.lit (.bool false)], args := [d1, d2] }
  | _ => none }
def CursorReadsWrongFalsely : Prop := cursorReadsRow.holds Try.pinned (OpenSpec.ofChange cursorReadsWrong)

/-- 'corduroylaw07.PlainReads': WHATEVER THE INPUT: true; the input reads as it did. -/
def plainReadsSpec : ChangeSpec := { name := "plainReads", fn := fun _ => fun
  | [d1, d2, d3] => { results := [.lit (.bool true)], args := [d1, d2, d3] }
  | _ => none }
def plainReadsRow : OpenClaim := { program := "ythpndhdpohmoaaa", sum := "207d3742804e20c90b1364c6f42327cc699219fddeaac8bfbca8fbe16da3e2f1", func := "corduroy/corduroylaw07.PlainReads", spec := "plainReads", unfollowed := true, recurses := true, apart := false }
def PlainReadsSaid : Prop := plainReadsRow.holds Try.pinned (OpenSpec.ofChange plainReadsSpec)

/-- ITS FALSE NEIGHBOUR: 'it returns false'. Refute it at one input. -/
def plainReadsWrong : ChangeSpec := { name := "plainReads", fn := fun _ => fun
  | [d1, d2, d3] => { results := [.lit (.bool false)], args := [d1, d2, d3] }
  | _ => none }
def PlainReadsWrongFalsely : Prop := plainReadsRow.holds Try.pinned (OpenSpec.ofChange plainReadsWrong)

/-- 'corduroylaw07.PlainDecodes': WHATEVER THE INPUT: true; the input reads as it did. -/
def plainDecodesSpec : ChangeSpec := { name := "plainDecodes", fn := fun _ => fun
  | [d1, d2] => { results := [.lit (.bool true)], args := [d1, d2] }
  | _ => none }
def plainDecodesRow : OpenClaim := { program := "ythpndhdpohmoaaa", sum := "207d3742804e20c90b1364c6f42327cc699219fddeaac8bfbca8fbe16da3e2f1", func := "corduroy/corduroylaw07.PlainDecodes", spec := "plainDecodes", unfollowed := true, recurses := true, apart := false }
def PlainDecodesSaid : Prop := plainDecodesRow.holds Try.pinned (OpenSpec.ofChange plainDecodesSpec)

/-- ITS FALSE NEIGHBOUR: 'it returns false'. Refute it at one input. -/
def plainDecodesWrong : ChangeSpec := { name := "plainDecodes", fn := fun _ => fun
  | [d1, d2] => { results := [.lit (.bool false)], args := [d1, d2] }
  | _ => none }
def PlainDecodesWrongFalsely : Prop := plainDecodesRow.holds Try.pinned (OpenSpec.ofChange plainDecodesWrong)

/-- 'corduroylaw25.ZoneStores': WHATEVER THE INPUT: true; the input reads as it did. -/
def zoneStoresSpec : ChangeSpec := { name := "zoneStores", fn := fun _ => fun
  | [d1, d2] => { results := [.lit (.bool true)], args := [d1, d2] }
  | _ => none }
def zoneStoresRow : OpenClaim := { program := "ythpndhdpohmoaaa", sum := "207d3742804e20c90b1364c6f42327cc699219fddeaac8bfbca8fbe16da3e2f1", func := "corduroy/corduroylaw25.ZoneStores", spec := "zoneStores", unfollowed := true, recurses := true, apart := false }
def ZoneStoresSaid : Prop := zoneStoresRow.holds Try.pinned (OpenSpec.ofChange zoneStoresSpec)

/-- ITS FALSE NEIGHBOUR: 'it returns false'. Refute it at one input. -/
def zoneStoresWrong : ChangeSpec := { name := "zoneStores", fn := fun _ => fun
  | [d1, d2] => { results := [.lit (.bool false)], args := [d1, d2] }
  | _ => none }
def ZoneStoresWrongFalsely : Prop := zoneStoresRow.holds Try.pinned (OpenSpec.ofChange zoneStoresWrong)

/-- 'corduroylaw25.ZoneBack': WHATEVER THE INPUT: true; the input reads as it did. -/
def zoneBackSpec : ChangeSpec := { name := "zoneBack", fn := fun _ => fun
  | [d1, d2] => { results := [.lit (.bool true)], args := [d1, d2] }
  | _ => none }
def zoneBackRow : OpenClaim := { program := "ythpndhdpohmoaaa", sum := "207d3742804e20c90b1364c6f42327cc699219fddeaac8bfbca8fbe16da3e2f1", func := "corduroy/corduroylaw25.ZoneBack", spec := "zoneBack", unfollowed := true, recurses := true, apart := false }
def ZoneBackSaid : Prop := zoneBackRow.holds Try.pinned (OpenSpec.ofChange zoneBackSpec)

/-- ITS FALSE NEIGHBOUR: 'it returns false'. Refute it at one input. -/
def zoneBackWrong : ChangeSpec := { name := "zoneBack", fn := fun _ => fun
  | [d1, d2] => { results := [.lit (.bool false)], args := [d1, d2] }
  | _ => none }
def ZoneBackWrongFalsely : Prop := zoneBackRow.holds Try.pinned (OpenSpec.ofChange zoneBackWrong)

/-- 'corduroylaw07.PlainBack': WHATEVER THE INPUT: true; the input reads as it did. -/
def plainBackSpec : ChangeSpec := { name := "plainBack", fn := fun _ => fun
  | [d1, d2] => { results := [.lit (.bool true)], args := [d1, d2] }
  | _ => none }
def plainBackRow : OpenClaim := { program := "ythpndhdpohmoaaa", sum := "207d3742804e20c90b1364c6f42327cc699219fddeaac8bfbca8fbe16da3e2f1", func := "corduroy/corduroylaw07.PlainBack", spec := "plainBack", unfollowed := true, recurses := true, apart := false }
def PlainBackSaid : Prop := plainBackRow.holds Try.pinned (OpenSpec.ofChange plainBackSpec)

/-- ITS FALSE NEIGHBOUR: 'it returns false'. Refute it at one input. -/
def plainBackWrong : ChangeSpec := { name := "plainBack", fn := fun _ => fun
  | [d1, d2] => { results := [.lit (.bool false)], args := [d1, d2] }
  | _ => none }
def PlainBackWrongFalsely : Prop := plainBackRow.holds Try.pinned (OpenSpec.ofChange plainBackWrong)

/- THE SECOND FORM. 'bulk': how many values and letters a reading holds, each counted each time it is reached (what is shared counts as often as it is met; a slice's spare places count too). A statement '..UptoSaid' is the law's where the arguments, and the package variables that the reading takes, are together of bulk at most 1048576: NARROWER than '..Said'. Prove '..Said' where nothing that the law and all that it calls make is longer than what came in: it says more and counts as full. Else prove '..UptoSaid'. A law counts once. -/
mutual
def uptoBulk {H : Type} : DataW H → Nat
  | .lit (.string bytes) => bytes.length + 1
  | .lit _ => 1
  | .nil => 1
  | .ptr d => uptoBulk d + 1
  | .slice elems spare => uptoBulkAll elems + uptoBulkAll spare + 1
  | .agg parts => uptoBulkAll parts + 1
  | .iface _ d => uptoBulk d + 1
  | .map entries => uptoBulkEntries entries + 1
  | .held _ => 1
def uptoBulkAll {H : Type} : List (DataW H) → Nat
  | [] => 0
  | d :: r => uptoBulk d + uptoBulkAll r
def uptoBulkEntries {H : Type} : List (Lit × DataW H) → Nat
  | [] => 0
  | x :: r => uptoBulkEntry x + uptoBulkEntries r
def uptoBulkEntry {H : Type} : Lit × DataW H → Nat
  | (.string bytes, d) => bytes.length + uptoBulk d + 1
  | (_, d) => uptoBulk d + 1
 end
def uptoSmall : (H : Type) → List (DataW H) → Bool := fun _ ds => decide (uptoBulkAll ds ≤ 1048576)
def OpenSpec.upto (s : _root_.Go.ChangeSpec) : _root_.Go.OpenSpec := { _root_.Go.OpenSpec.ofChange s with cond := some uptoSmall }

/-- 'corduroylaw25.ZoneTells', WHERE WHAT IT READS IS OF BULK AT MOST 1048576: true; the input reads as it did. -/
def zoneTellsUptoRow : OpenClaim := { program := "ythpndhdpohmoaaa", sum := "207d3742804e20c90b1364c6f42327cc699219fddeaac8bfbca8fbe16da3e2f1", func := "corduroy/corduroylaw25.ZoneTells", spec := "zoneTells", apart := false, narrowed := true }
def ZoneTellsUptoSaid : Prop := zoneTellsUptoRow.holds Try.pinned (OpenSpec.upto zoneTellsSpec)

/-- 'corduroylaw07.PlainEncodes', WHERE WHAT IT READS IS OF BULK AT MOST 1048576: true; the input reads as it did. -/
def plainEncodesUptoRow : OpenClaim := { program := "ythpndhdpohmoaaa", sum := "207d3742804e20c90b1364c6f42327cc699219fddeaac8bfbca8fbe16da3e2f1", func := "corduroy/corduroylaw07.PlainEncodes", spec := "plainEncodes", unfollowed := true, recurses := true, apart := false, narrowed := true }
def PlainEncodesUptoSaid : Prop := plainEncodesUptoRow.holds Try.pinned (OpenSpec.upto plainEncodesSpec)

/-- 'corduroylaw03.CursorPuts', WHERE WHAT IT READS IS OF BULK AT MOST 1048576: true; the input reads as it did. -/
def cursorPutsUptoRow : OpenClaim := { program := "ythpndhdpohmoaaa", sum := "207d3742804e20c90b1364c6f42327cc699219fddeaac8bfbca8fbe16da3e2f1", func := "corduroy/corduroylaw03.CursorPuts", spec := "cursorPuts", unfollowed := true, recurses := true, apart := false, narrowed := true }
def CursorPutsUptoSaid : Prop := cursorPutsUptoRow.holds Try.pinned (OpenSpec.upto cursorPutsSpec)

/-- 'corduroylaw03.CursorBack', WHERE WHAT IT READS IS OF BULK AT MOST 1048576: true; the input reads as it did. -/
def cursorBackUptoRow : OpenClaim := { program := "ythpndhdpohmoaaa", sum := "207d3742804e20c90b1364c6f42327cc699219fddeaac8bfbca8fbe16da3e2f1", func := "corduroy/corduroylaw03.CursorBack", spec := "cursorBack", unfollowed := true, recurses := true, apart := false, narrowed := true }
def CursorBackUptoSaid : Prop := cursorBackUptoRow.holds Try.pinned (OpenSpec.upto cursorBackSpec)

/-- 'corduroylaw03.CursorReads', WHERE WHAT IT READS IS OF BULK AT MOST 1048576: true; the input reads as it did. -/
def cursorReadsUptoRow : OpenClaim := { program := "ythpndhdpohmoaaa", sum := "207d3742804e20c90b1364c6f42327cc699219fddeaac8bfbca8fbe16da3e2f1", func := "corduroy/corduroylaw03.CursorReads", spec := "cursorReads", unfollowed := true, recurses := true, apart := false, narrowed := true }
def CursorReadsUptoSaid : Prop := cursorReadsUptoRow.holds Try.pinned (OpenSpec.upto cursorReadsSpec)

/-- 'corduroylaw07.PlainReads', WHERE WHAT IT READS IS OF BULK AT MOST 1048576: true; the input reads as it did. -/
def plainReadsUptoRow : OpenClaim := { program := "ythpndhdpohmoaaa", sum := "207d3742804e20c90b1364c6f42327cc699219fddeaac8bfbca8fbe16da3e2f1", func := "corduroy/corduroylaw07.PlainReads", spec := "plainReads", unfollowed := true, recurses := true, apart := false, narrowed := true }
def PlainReadsUptoSaid : Prop := plainReadsUptoRow.holds Try.pinned (OpenSpec.upto plainReadsSpec)

/-- 'corduroylaw07.PlainDecodes', WHERE WHAT IT READS IS OF BULK AT MOST 1048576: true; the input reads as it did. -/
def plainDecodesUptoRow : OpenClaim := { program := "ythpndhdpohmoaaa", sum := "207d3742804e20c90b1364c6f42327cc699219fddeaac8bfbca8fbe16da3e2f1", func := "corduroy/corduroylaw07.PlainDecodes", spec := "plainDecodes", unfollowed := true, recurses := true, apart := false, narrowed := true }
def PlainDecodesUptoSaid : Prop := plainDecodesUptoRow.holds Try.pinned (OpenSpec.upto plainDecodesSpec)

/-- 'corduroylaw25.ZoneStores', WHERE WHAT IT READS IS OF BULK AT MOST 1048576: true; the input reads as it did. -/
def zoneStoresUptoRow : OpenClaim := { program := "ythpndhdpohmoaaa", sum := "207d3742804e20c90b1364c6f42327cc699219fddeaac8bfbca8fbe16da3e2f1", func := "corduroy/corduroylaw25.ZoneStores", spec := "zoneStores", unfollowed := true, recurses := true, apart := false, narrowed := true }
def ZoneStoresUptoSaid : Prop := zoneStoresUptoRow.holds Try.pinned (OpenSpec.upto zoneStoresSpec)

/-- 'corduroylaw25.ZoneBack', WHERE WHAT IT READS IS OF BULK AT MOST 1048576: true; the input reads as it did. -/
def zoneBackUptoRow : OpenClaim := { program := "ythpndhdpohmoaaa", sum := "207d3742804e20c90b1364c6f42327cc699219fddeaac8bfbca8fbe16da3e2f1", func := "corduroy/corduroylaw25.ZoneBack", spec := "zoneBack", unfollowed := true, recurses := true, apart := false, narrowed := true }
def ZoneBackUptoSaid : Prop := zoneBackUptoRow.holds Try.pinned (OpenSpec.upto zoneBackSpec)

/-- 'corduroylaw07.PlainBack', WHERE WHAT IT READS IS OF BULK AT MOST 1048576: true; the input reads as it did. -/
def plainBackUptoRow : OpenClaim := { program := "ythpndhdpohmoaaa", sum := "207d3742804e20c90b1364c6f42327cc699219fddeaac8bfbca8fbe16da3e2f1", func := "corduroy/corduroylaw07.PlainBack", spec := "plainBack", unfollowed := true, recurses := true, apart := false, narrowed := true }
def PlainBackUptoSaid : Prop := plainBackUptoRow.holds Try.pinned (OpenSpec.upto plainBackSpec)

end Rows
end Go.Proofs.Ythpndhdpohmoaaa
