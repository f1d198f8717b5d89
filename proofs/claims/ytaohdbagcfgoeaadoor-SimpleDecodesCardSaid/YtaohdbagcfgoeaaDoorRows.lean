/-
  NARROWER THAN 'FOR EVERY INPUT', by the rows' own cells (each row's printed sentence says how): SimpleBound: laid · SimpleEncodes: laid · SimpleDecodes: laid · SimpleApart: laid · SimpleBack: laid.
  DERIVED. THE GIVEN ROWS OF THIS SEAT. 5 by the template 'for every input the law returns true; each argument reads behind the call as it read before'; 0 by the template 'total and deterministic' (their statements: YtaohdbagcfgoeaaDoorTotals.lean).
  GIVEN WITH THE SEED: the statements are not yours to turn. If you find one false, say at which input.
  Laid BY PROGRAM, IN A SANDBOX (cutbox-rows.mjs): the forced cells as the released guide's own fill.sh prints them over the translation 97e821100de8588e… (all of the seat's roots in one cut). By AI agents, Wed Nov 11 2026. No macro, syntax, notation, axiom, sorry.
-/
import Derived.Test.YtaohdbagcfgoeaaDoorChecked
import GoSem.Claim
import GoSem.ClaimJoined
import GoSem.ClaimMapViews
import Derived.JoinedTies
import Derived.KernelRfl
namespace Go.Proofs.YtaohdbagcfgoeaaDoor
/- THE CELL 'sum', in the pinned program and in every row, IS THE sha256 OF THE DUMP (.gsa) THAT YtaohdbagcfgoeaaDoorProg.lean LOADS. Nothing in Lean hashes anything: it is a label: what it is worth is what the hold of that sum in a sandbox is worth. -/
noncomputable def Tryd.pinned : Pinned := { name := "ytaohdbagcfgoeaadoor", sum := "97e821100de8588e3c7c81709f1611c2ad788e0255e307b60250af1a05cb3af8", checked := Tryd.checked }
namespace Rows
def none {H : Type} : Left H := { results := [], args := [] }

/- WHAT THE LISTED PACKAGE-LEVEL VARIABLES READ AS WHEN THE CALL BEGINS. Each datum BY PROGRAM (the guide's laid-datum.mjs) off the statement by which the dump's own 'gosem.cut.vars' lays the variable. In a bare row this is a premise. The card (YtaohdbagcfgoeaaDoorCards.lean) ties it to the program's text. -/
def laid_corduroy_simple_shapes {H : Type} : DataW H := .agg [.agg [.lit (.int .i64 240), .lit (.int .i64 0)], .agg [.lit (.int .i64 120), .lit (.int .i64 0)], .agg [.lit (.int .i64 60), .lit (.int .i64 1)], .agg [.lit (.int .i64 30), .lit (.int .i64 2)], .agg [.lit (.int .i64 20), .lit (.int .i64 3)], .agg [.lit (.int .i64 15), .lit (.int .i64 4)], .agg [.lit (.int .i64 12), .lit (.int .i64 5)], .agg [.lit (.int .i64 10), .lit (.int .i64 6)], .agg [.lit (.int .i64 8), .lit (.int .i64 7)], .agg [.lit (.int .i64 7), .lit (.int .i64 8)], .agg [.lit (.int .i64 6), .lit (.int .i64 10)], .agg [.lit (.int .i64 5), .lit (.int .i64 12)], .agg [.lit (.int .i64 4), .lit (.int .i64 15)], .agg [.lit (.int .i64 3), .lit (.int .i64 20)], .agg [.lit (.int .i64 2), .lit (.int .i64 30)], .agg [.lit (.int .i64 1), .lit (.int .i64 60)]]

/-- 'corduroylaw09.SimpleBound': WHATEVER THE INPUT: true; the input reads as it did. -/
def simpleBoundSpec : ChangeSpec := { name := "simpleBound", fn := fun _ => fun
  | [d1, d2] => { results := [.lit (.bool true)], args := [d1, d2] }
  | _ => none }
def simpleBoundRow : OpenClaim := { program := "ytaohdbagcfgoeaadoor", sum := "97e821100de8588e3c7c81709f1611c2ad788e0255e307b60250af1a05cb3af8", func := "corduroy/corduroylaw09.SimpleBound", spec := "simpleBound", unfollowed := true, recurses := true, named := ["corduroy/simple.shapes"], apart := false, laid := [("corduroy/simple.shapes", laid_corduroy_simple_shapes)] }
def SimpleBoundSaid : Prop := simpleBoundRow.holds Tryd.pinned (OpenSpec.ofChange simpleBoundSpec)

/-- ITS FALSE NEIGHBOUR: 'it returns false'. Refute it at one input. -/
def simpleBoundWrong : ChangeSpec := { name := "simpleBound", fn := fun _ => fun
  | [d1, d2] => { results := [.lit (.bool false)], args := [d1, d2] }
  | _ => none }
def SimpleBoundWrongFalsely : Prop := simpleBoundRow.holds Tryd.pinned (OpenSpec.ofChange simpleBoundWrong)

/-- 'corduroylaw09.SimpleEncodes': WHATEVER THE INPUT: true; the input reads as it did. -/
def simpleEncodesSpec : ChangeSpec := { name := "simpleEncodes", fn := fun _ => fun
  | [d] => { results := [.lit (.bool true)], args := [d] }
  | _ => none }
def simpleEncodesRow : OpenClaim := { program := "ytaohdbagcfgoeaadoor", sum := "97e821100de8588e3c7c81709f1611c2ad788e0255e307b60250af1a05cb3af8", func := "corduroy/corduroylaw09.SimpleEncodes", spec := "simpleEncodes", unfollowed := true, recurses := true, named := ["corduroy/simple.shapes"], apart := false, laid := [("corduroy/simple.shapes", laid_corduroy_simple_shapes)] }
def SimpleEncodesSaid : Prop := simpleEncodesRow.holds Tryd.pinned (OpenSpec.ofChange simpleEncodesSpec)

/-- ITS FALSE NEIGHBOUR: 'it returns false'. Refute it at one input. -/
def simpleEncodesWrong : ChangeSpec := { name := "simpleEncodes", fn := fun _ => fun
  | [d] => { results := [.lit (.bool false)], args := [d] }
  | _ => none }
def SimpleEncodesWrongFalsely : Prop := simpleEncodesRow.holds Tryd.pinned (OpenSpec.ofChange simpleEncodesWrong)

/-- 'corduroylaw09.SimpleDecodes': WHATEVER THE INPUT: true; the input reads as it did. -/
def simpleDecodesSpec : ChangeSpec := { name := "simpleDecodes", fn := fun _ => fun
  | [d1, d2] => { results := [.lit (.bool true)], args := [d1, d2] }
  | _ => none }
def simpleDecodesRow : OpenClaim := { program := "ytaohdbagcfgoeaadoor", sum := "97e821100de8588e3c7c81709f1611c2ad788e0255e307b60250af1a05cb3af8", func := "corduroy/corduroylaw09.SimpleDecodes", spec := "simpleDecodes", unfollowed := true, recurses := true, named := ["corduroy/simple.shapes"], apart := false, laid := [("corduroy/simple.shapes", laid_corduroy_simple_shapes)] }
def SimpleDecodesSaid : Prop := simpleDecodesRow.holds Tryd.pinned (OpenSpec.ofChange simpleDecodesSpec)

/-- ITS FALSE NEIGHBOUR: 'it returns false'. Refute it at one input. -/
def simpleDecodesWrong : ChangeSpec := { name := "simpleDecodes", fn := fun _ => fun
  | [d1, d2] => { results := [.lit (.bool false)], args := [d1, d2] }
  | _ => none }
def SimpleDecodesWrongFalsely : Prop := simpleDecodesRow.holds Tryd.pinned (OpenSpec.ofChange simpleDecodesWrong)

/-- 'corduroylaw09.SimpleApart': WHATEVER THE INPUT: true; the input reads as it did. -/
def simpleApartSpec : ChangeSpec := { name := "simpleApart", fn := fun _ => fun
  | [d1, d2, d3] => { results := [.lit (.bool true)], args := [d1, d2, d3] }
  | _ => none }
def simpleApartRow : OpenClaim := { program := "ytaohdbagcfgoeaadoor", sum := "97e821100de8588e3c7c81709f1611c2ad788e0255e307b60250af1a05cb3af8", func := "corduroy/corduroylaw09.SimpleApart", spec := "simpleApart", unfollowed := true, recurses := true, named := ["corduroy/simple.shapes"], apart := false, laid := [("corduroy/simple.shapes", laid_corduroy_simple_shapes)] }
def SimpleApartSaid : Prop := simpleApartRow.holds Tryd.pinned (OpenSpec.ofChange simpleApartSpec)

/-- ITS FALSE NEIGHBOUR: 'it returns false'. Refute it at one input. -/
def simpleApartWrong : ChangeSpec := { name := "simpleApart", fn := fun _ => fun
  | [d1, d2, d3] => { results := [.lit (.bool false)], args := [d1, d2, d3] }
  | _ => none }
def SimpleApartWrongFalsely : Prop := simpleApartRow.holds Tryd.pinned (OpenSpec.ofChange simpleApartWrong)

/-- 'corduroylaw09.SimpleBack': WHATEVER THE INPUT: true; the input reads as it did. -/
def simpleBackSpec : ChangeSpec := { name := "simpleBack", fn := fun _ => fun
  | [d] => { results := [.lit (.bool true)], args := [d] }
  | _ => none }
def simpleBackRow : OpenClaim := { program := "ytaohdbagcfgoeaadoor", sum := "97e821100de8588e3c7c81709f1611c2ad788e0255e307b60250af1a05cb3af8", func := "corduroy/corduroylaw09.SimpleBack", spec := "simpleBack", unfollowed := true, recurses := true, named := ["corduroy/simple.shapes"], apart := false, laid := [("corduroy/simple.shapes", laid_corduroy_simple_shapes)] }
def SimpleBackSaid : Prop := simpleBackRow.holds Tryd.pinned (OpenSpec.ofChange simpleBackSpec)

/-- ITS FALSE NEIGHBOUR: 'it returns false'. Refute it at one input. -/
def simpleBackWrong : ChangeSpec := { name := "simpleBack", fn := fun _ => fun
  | [d] => { results := [.lit (.bool false)], args := [d] }
  | _ => none }
def SimpleBackWrongFalsely : Prop := simpleBackRow.holds Tryd.pinned (OpenSpec.ofChange simpleBackWrong)

/- THE SECOND FORM. 'bulk': how many values and letters a reading holds, each counted each time it is reached (what is shared counts as often as it is met; a slice's spare places count too). A statement '..UptoSaid' is the law's where the arguments, and the package variables that the reading takes, are together of bulk at most 1048576: NARROWER than '..Said'. Prove '..Said' where nothing that the law and all that it calls make is longer than what came in: it says more and counts as full. Else prove '..UptoSaid'. A law counts once. -/
mutual
def uptoBulk {H : Type} : DataW H → Nat
  | .lit (.string bytes) => bytes.length + 1
  | .lit _ => 1
  | .nil => 1
  | .ptr d => uptoBulk d + 1
  | .slice elems spare => uptoBulkAll elems + uptoBulkAll spare + 1
  | .agg parts => uptoBulkAll parts + 1
  | .iface _ d => uptoBulk d + 1
  | .map entries => uptoBulkEntries entries + 1
  | .held _ => 1
def uptoBulkAll {H : Type} : List (DataW H) → Nat
  | [] => 0
  | d :: r => uptoBulk d + uptoBulkAll r
def uptoBulkEntries {H : Type} : List (Lit × DataW H) → Nat
  | [] => 0
  | x :: r => uptoBulkEntry x + uptoBulkEntries r
def uptoBulkEntry {H : Type} : Lit × DataW H → Nat
  | (.string bytes, d) => bytes.length + uptoBulk d + 1
  | (_, d) => uptoBulk d + 1
 end
def uptoSmall : (H : Type) → List (DataW H) → Bool := fun _ ds => decide (uptoBulkAll ds ≤ 1048576)
def OpenSpec.upto (s : _root_.Go.ChangeSpec) : _root_.Go.OpenSpec := { _root_.Go.OpenSpec.ofChange s with cond := some uptoSmall }

/-- 'corduroylaw09.SimpleBound', WHERE WHAT IT READS IS OF BULK AT MOST 1048576: true; the input reads as it did. -/
def simpleBoundUptoRow : OpenClaim := { program := "ytaohdbagcfgoeaadoor", sum := "97e821100de8588e3c7c81709f1611c2ad788e0255e307b60250af1a05cb3af8", func := "corduroy/corduroylaw09.SimpleBound", spec := "simpleBound", unfollowed := true, recurses := true, named := ["corduroy/simple.shapes"], apart := false, laid := [("corduroy/simple.shapes", laid_corduroy_simple_shapes)], narrowed := true }
def SimpleBoundUptoSaid : Prop := simpleBoundUptoRow.holds Tryd.pinned (OpenSpec.upto simpleBoundSpec)

/-- 'corduroylaw09.SimpleEncodes', WHERE WHAT IT READS IS OF BULK AT MOST 1048576: true; the input reads as it did. -/
def simpleEncodesUptoRow : OpenClaim := { program := "ytaohdbagcfgoeaadoor", sum := "97e821100de8588e3c7c81709f1611c2ad788e0255e307b60250af1a05cb3af8", func := "corduroy/corduroylaw09.SimpleEncodes", spec := "simpleEncodes", unfollowed := true, recurses := true, named := ["corduroy/simple.shapes"], apart := false, laid := [("corduroy/simple.shapes", laid_corduroy_simple_shapes)], narrowed := true }
def SimpleEncodesUptoSaid : Prop := simpleEncodesUptoRow.holds Tryd.pinned (OpenSpec.upto simpleEncodesSpec)

/-- 'corduroylaw09.SimpleDecodes', WHERE WHAT IT READS IS OF BULK AT MOST 1048576: true; the input reads as it did. -/
def simpleDecodesUptoRow : OpenClaim := { program := "ytaohdbagcfgoeaadoor", sum := "97e821100de8588e3c7c81709f1611c2ad788e0255e307b60250af1a05cb3af8", func := "corduroy/corduroylaw09.SimpleDecodes", spec := "simpleDecodes", unfollowed := true, recurses := true, named := ["corduroy/simple.shapes"], apart := false, laid := [("corduroy/simple.shapes", laid_corduroy_simple_shapes)], narrowed := true }
def SimpleDecodesUptoSaid : Prop := simpleDecodesUptoRow.holds Tryd.pinned (OpenSpec.upto simpleDecodesSpec)

/-- 'corduroylaw09.SimpleApart', WHERE WHAT IT READS IS OF BULK AT MOST 1048576: true; the input reads as it did. -/
def simpleApartUptoRow : OpenClaim := { program := "ytaohdbagcfgoeaadoor", sum := "97e821100de8588e3c7c81709f1611c2ad788e0255e307b60250af1a05cb3af8", func := "corduroy/corduroylaw09.SimpleApart", spec := "simpleApart", unfollowed := true, recurses := true, named := ["corduroy/simple.shapes"], apart := false, laid := [("corduroy/simple.shapes", laid_corduroy_simple_shapes)], narrowed := true }
def SimpleApartUptoSaid : Prop := simpleApartUptoRow.holds Tryd.pinned (OpenSpec.upto simpleApartSpec)

/-- 'corduroylaw09.SimpleBack', WHERE WHAT IT READS IS OF BULK AT MOST 1048576: true; the input reads as it did. -/
def simpleBackUptoRow : OpenClaim := { program := "ytaohdbagcfgoeaadoor", sum := "97e821100de8588e3c7c81709f1611c2ad788e0255e307b60250af1a05cb3af8", func := "corduroy/corduroylaw09.SimpleBack", spec := "simpleBack", unfollowed := true, recurses := true, named := ["corduroy/simple.shapes"], apart := false, laid := [("corduroy/simple.shapes", laid_corduroy_simple_shapes)], narrowed := true }
def SimpleBackUptoSaid : Prop := simpleBackUptoRow.holds Tryd.pinned (OpenSpec.upto simpleBackSpec)

end Rows
end Go.Proofs.YtaohdbagcfgoeaaDoor
