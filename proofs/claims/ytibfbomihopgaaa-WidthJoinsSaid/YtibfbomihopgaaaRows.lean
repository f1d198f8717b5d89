/-
  No cell of these rows narrows 'for every input' (looked for: loops, veiled, ifaces, maps, wideKeys, modest, calm, conditions, laid).
  DERIVED. THE GIVEN ROWS OF THIS SEAT. 12 by the template 'for every input the law returns true; each argument reads behind the call as it read before'; 0 by the template 'total and deterministic' (their statements: YtibfbomihopgaaaTotals.lean).
  GIVEN WITH THE SEED: the statements are not yours to turn. If you find one false, say at which input.
  Laid BY PROGRAM, IN A SANDBOX (cutbox-rows.mjs): the forced cells as the released guide's own fill.sh prints them over the translation 1b518b527b9df8b6… (all of the seat's roots in one cut). By AI agents, Wed Nov 11 2026. No macro, syntax, notation, axiom, sorry.
-/
import Derived.Test.YtibfbomihopgaaaChecked
import GoSem.Claim
import GoSem.ClaimJoined
import GoSem.ClaimMapViews
import Derived.JoinedTies
import Derived.KernelRfl
namespace Go.Proofs.Ytibfbomihopgaaa
/- THE CELL 'sum', in the pinned program and in every row, IS THE sha256 OF THE DUMP (.gsa) THAT YtibfbomihopgaaaProg.lean LOADS. Nothing in Lean hashes anything: it is a label: what it is worth is what the hold of that sum in a sandbox is worth. -/
noncomputable def Try.pinned : Pinned := { name := "ytibfbomihopgaaa", sum := "1b518b527b9df8b6ae13b183b8aa26f90314e1c7536c3bc7039ede5227191126", checked := Try.checked }
namespace Rows
def none {H : Type} : Left H := { results := [], args := [] }

/-- 'corduroylaw04.VarintGets': WHATEVER THE INPUT: true; the input reads as it did. -/
def varintGetsSpec : ChangeSpec := { name := "varintGets", fn := fun _ => fun
  | [d] => { results := [.lit (.bool true)], args := [d] }
  | _ => none }
def varintGetsRow : OpenClaim := { program := "ytibfbomihopgaaa", sum := "1b518b527b9df8b6ae13b183b8aa26f90314e1c7536c3bc7039ede5227191126", func := "corduroy/corduroylaw04.VarintGets", spec := "varintGets", unfollowed := true, recurses := true, apart := false }
def VarintGetsSaid : Prop := varintGetsRow.holds Try.pinned (OpenSpec.ofChange varintGetsSpec)

/-- ITS FALSE NEIGHBOUR: 'it returns false'. Refute it at one input. -/
def varintGetsWrong : ChangeSpec := { name := "varintGets", fn := fun _ => fun
  | [d] => { results := [.lit (.bool false)], args := [d] }
  | _ => none }
def VarintGetsWrongFalsely : Prop := varintGetsRow.holds Try.pinned (OpenSpec.ofChange varintGetsWrong)

/-- 'corduroylaw04.VarintCut': WHATEVER THE INPUT: true; the input reads as it did. -/
def varintCutSpec : ChangeSpec := { name := "varintCut", fn := fun _ => fun
  | [d1, d2] => { results := [.lit (.bool true)], args := [d1, d2] }
  | _ => none }
def varintCutRow : OpenClaim := { program := "ytibfbomihopgaaa", sum := "1b518b527b9df8b6ae13b183b8aa26f90314e1c7536c3bc7039ede5227191126", func := "corduroy/corduroylaw04.VarintCut", spec := "varintCut", unfollowed := true, recurses := true, apart := false }
def VarintCutSaid : Prop := varintCutRow.holds Try.pinned (OpenSpec.ofChange varintCutSpec)

/-- ITS FALSE NEIGHBOUR: 'it returns false'. Refute it at one input. -/
def varintCutWrong : ChangeSpec := { name := "varintCut", fn := fun _ => fun
  | [d1, d2] => { results := [.lit (.bool false)], args := [d1, d2] }
  | _ => none }
def VarintCutWrongFalsely : Prop := varintCutRow.holds Try.pinned (OpenSpec.ofChange varintCutWrong)

/-- 'corduroylaw04.VarintZigs': WHATEVER THE INPUT: true; the input reads as it did. -/
def varintZigsSpec : ChangeSpec := { name := "varintZigs", fn := fun _ => fun
  | [d1, d2] => { results := [.lit (.bool true)], args := [d1, d2] }
  | _ => none }
def varintZigsRow : OpenClaim := { program := "ytibfbomihopgaaa", sum := "1b518b527b9df8b6ae13b183b8aa26f90314e1c7536c3bc7039ede5227191126", func := "corduroy/corduroylaw04.VarintZigs", spec := "varintZigs", unfollowed := true, recurses := true, apart := false }
def VarintZigsSaid : Prop := varintZigsRow.holds Try.pinned (OpenSpec.ofChange varintZigsSpec)

/-- ITS FALSE NEIGHBOUR: 'it returns false'. Refute it at one input. -/
def varintZigsWrong : ChangeSpec := { name := "varintZigs", fn := fun _ => fun
  | [d1, d2] => { results := [.lit (.bool false)], args := [d1, d2] }
  | _ => none }
def VarintZigsWrongFalsely : Prop := varintZigsRow.holds Try.pinned (OpenSpec.ofChange varintZigsWrong)

/-- 'corduroylaw04.VarintZigzag': WHATEVER THE INPUT: true; the input reads as it did. -/
def varintZigzagSpec : ChangeSpec := { name := "varintZigzag", fn := fun _ => fun
  | [d1, d2, d3] => { results := [.lit (.bool true)], args := [d1, d2, d3] }
  | _ => none }
def varintZigzagRow : OpenClaim := { program := "ytibfbomihopgaaa", sum := "1b518b527b9df8b6ae13b183b8aa26f90314e1c7536c3bc7039ede5227191126", func := "corduroy/corduroylaw04.VarintZigzag", spec := "varintZigzag", unfollowed := true, recurses := true, apart := false }
def VarintZigzagSaid : Prop := varintZigzagRow.holds Try.pinned (OpenSpec.ofChange varintZigzagSpec)

/-- ITS FALSE NEIGHBOUR: 'it returns false'. Refute it at one input. -/
def varintZigzagWrong : ChangeSpec := { name := "varintZigzag", fn := fun _ => fun
  | [d1, d2, d3] => { results := [.lit (.bool false)], args := [d1, d2, d3] }
  | _ => none }
def VarintZigzagWrongFalsely : Prop := varintZigzagRow.holds Try.pinned (OpenSpec.ofChange varintZigzagWrong)

/-- 'corduroylaw06.WidthBack': WHATEVER THE INPUT: true; the input reads as it did. -/
def widthBackSpec : ChangeSpec := { name := "widthBack", fn := fun _ => fun
  | [d1, d2] => { results := [.lit (.bool true)], args := [d1, d2] }
  | _ => none }
def widthBackRow : OpenClaim := { program := "ytibfbomihopgaaa", sum := "1b518b527b9df8b6ae13b183b8aa26f90314e1c7536c3bc7039ede5227191126", func := "corduroy/corduroylaw06.WidthBack", spec := "widthBack", unfollowed := true, recurses := true, apart := false }
def WidthBackSaid : Prop := widthBackRow.holds Try.pinned (OpenSpec.ofChange widthBackSpec)

/-- ITS FALSE NEIGHBOUR: 'it returns false'. Refute it at one input. -/
def widthBackWrong : ChangeSpec := { name := "widthBack", fn := fun _ => fun
  | [d1, d2] => { results := [.lit (.bool false)], args := [d1, d2] }
  | _ => none }
def WidthBackWrongFalsely : Prop := widthBackRow.holds Try.pinned (OpenSpec.ofChange widthBackWrong)

/-- 'corduroylaw06.WidthApart': WHATEVER THE INPUT: true; the input reads as it did. -/
def widthApartSpec : ChangeSpec := { name := "widthApart", fn := fun _ => fun
  | [d1, d2] => { results := [.lit (.bool true)], args := [d1, d2] }
  | _ => none }
def widthApartRow : OpenClaim := { program := "ytibfbomihopgaaa", sum := "1b518b527b9df8b6ae13b183b8aa26f90314e1c7536c3bc7039ede5227191126", func := "corduroy/corduroylaw06.WidthApart", spec := "widthApart", unfollowed := true, recurses := true, apart := false }
def WidthApartSaid : Prop := widthApartRow.holds Try.pinned (OpenSpec.ofChange widthApartSpec)

/-- ITS FALSE NEIGHBOUR: 'it returns false'. Refute it at one input. -/
def widthApartWrong : ChangeSpec := { name := "widthApart", fn := fun _ => fun
  | [d1, d2] => { results := [.lit (.bool false)], args := [d1, d2] }
  | _ => none }
def WidthApartWrongFalsely : Prop := widthApartRow.holds Try.pinned (OpenSpec.ofChange widthApartWrong)

/-- 'corduroylaw06.WidthOrder': WHATEVER THE INPUT: true; the input reads as it did. -/
def widthOrderSpec : ChangeSpec := { name := "widthOrder", fn := fun _ => fun
  | [d] => { results := [.lit (.bool true)], args := [d] }
  | _ => none }
def widthOrderRow : OpenClaim := { program := "ytibfbomihopgaaa", sum := "1b518b527b9df8b6ae13b183b8aa26f90314e1c7536c3bc7039ede5227191126", func := "corduroy/corduroylaw06.WidthOrder", spec := "widthOrder", unfollowed := true, recurses := true, apart := false }
def WidthOrderSaid : Prop := widthOrderRow.holds Try.pinned (OpenSpec.ofChange widthOrderSpec)

/-- ITS FALSE NEIGHBOUR: 'it returns false'. Refute it at one input. -/
def widthOrderWrong : ChangeSpec := { name := "widthOrder", fn := fun _ => fun
  | [d] => { results := [.lit (.bool false)], args := [d] }
  | _ => none }
def WidthOrderWrongFalsely : Prop := widthOrderRow.holds Try.pinned (OpenSpec.ofChange widthOrderWrong)

/-- 'corduroylaw06.WidthTells': WHATEVER THE INPUT: true; the input reads as it did. -/
def widthTellsSpec : ChangeSpec := { name := "widthTells", fn := fun _ => fun
  | [d] => { results := [.lit (.bool true)], args := [d] }
  | _ => none }
def widthTellsRow : OpenClaim := { program := "ytibfbomihopgaaa", sum := "1b518b527b9df8b6ae13b183b8aa26f90314e1c7536c3bc7039ede5227191126", func := "corduroy/corduroylaw06.WidthTells", spec := "widthTells", unfollowed := true, recurses := true, apart := false }
def WidthTellsSaid : Prop := widthTellsRow.holds Try.pinned (OpenSpec.ofChange widthTellsSpec)

/-- ITS FALSE NEIGHBOUR: 'it returns false'. Refute it at one input. -/
def widthTellsWrong : ChangeSpec := { name := "widthTells", fn := fun _ => fun
  | [d] => { results := [.lit (.bool false)], args := [d] }
  | _ => none }
def WidthTellsWrongFalsely : Prop := widthTellsRow.holds Try.pinned (OpenSpec.ofChange widthTellsWrong)

/-- 'corduroylaw04.VarintPuts': WHATEVER THE INPUT: true; the input reads as it did. -/
def varintPutsSpec : ChangeSpec := { name := "varintPuts", fn := fun _ => fun
  | [d1, d2] => { results := [.lit (.bool true)], args := [d1, d2] }
  | _ => none }
def varintPutsRow : OpenClaim := { program := "ytibfbomihopgaaa", sum := "1b518b527b9df8b6ae13b183b8aa26f90314e1c7536c3bc7039ede5227191126", func := "corduroy/corduroylaw04.VarintPuts", spec := "varintPuts", unfollowed := true, recurses := true, apart := false }
def VarintPutsSaid : Prop := varintPutsRow.holds Try.pinned (OpenSpec.ofChange varintPutsSpec)

/-- ITS FALSE NEIGHBOUR: 'it returns false'. Refute it at one input. -/
def varintPutsWrong : ChangeSpec := { name := "varintPuts", fn := fun _ => fun
  | [d1, d2] => { results := [.lit (.bool false)], args := [d1, d2] }
  | _ => none }
def VarintPutsWrongFalsely : Prop := varintPutsRow.holds Try.pinned (OpenSpec.ofChange varintPutsWrong)

/-- 'corduroylaw04.VarintBack': WHATEVER THE INPUT: true; the input reads as it did. -/
def varintBackSpec : ChangeSpec := { name := "varintBack", fn := fun _ => fun
  | [d1, d2, d3] => { results := [.lit (.bool true)], args := [d1, d2, d3] }
  | _ => none }
def varintBackRow : OpenClaim := { program := "ytibfbomihopgaaa", sum := "1b518b527b9df8b6ae13b183b8aa26f90314e1c7536c3bc7039ede5227191126", func := "corduroy/corduroylaw04.VarintBack", spec := "varintBack", unfollowed := true, recurses := true, apart := false }
def VarintBackSaid : Prop := varintBackRow.holds Try.pinned (OpenSpec.ofChange varintBackSpec)

/-- ITS FALSE NEIGHBOUR: 'it returns false'. Refute it at one input. -/
def varintBackWrong : ChangeSpec := { name := "varintBack", fn := fun _ => fun
  | [d1, d2, d3] => { results := [.lit (.bool false)], args := [d1, d2, d3] }
  | _ => none }
def VarintBackWrongFalsely : Prop := varintBackRow.holds Try.pinned (OpenSpec.ofChange varintBackWrong)

/-- 'corduroylaw04.VarintSizes': WHATEVER THE INPUT: true; the input reads as it did. -/
def varintSizesSpec : ChangeSpec := { name := "varintSizes", fn := fun _ => fun
  | [d1, d2] => { results := [.lit (.bool true)], args := [d1, d2] }
  | _ => none }
def varintSizesRow : OpenClaim := { program := "ytibfbomihopgaaa", sum := "1b518b527b9df8b6ae13b183b8aa26f90314e1c7536c3bc7039ede5227191126", func := "corduroy/corduroylaw04.VarintSizes", spec := "varintSizes", unfollowed := true, recurses := true, apart := false }
def VarintSizesSaid : Prop := varintSizesRow.holds Try.pinned (OpenSpec.ofChange varintSizesSpec)

/-- ITS FALSE NEIGHBOUR: 'it returns false'. Refute it at one input. -/
def varintSizesWrong : ChangeSpec := { name := "varintSizes", fn := fun _ => fun
  | [d1, d2] => { results := [.lit (.bool false)], args := [d1, d2] }
  | _ => none }
def VarintSizesWrongFalsely : Prop := varintSizesRow.holds Try.pinned (OpenSpec.ofChange varintSizesWrong)

/-- 'corduroylaw06.WidthJoins': WHATEVER THE INPUT: true; the input reads as it did. -/
def widthJoinsSpec : ChangeSpec := { name := "widthJoins", fn := fun _ => fun
  | [d1, d2] => { results := [.lit (.bool true)], args := [d1, d2] }
  | _ => none }
def widthJoinsRow : OpenClaim := { program := "ytibfbomihopgaaa", sum := "1b518b527b9df8b6ae13b183b8aa26f90314e1c7536c3bc7039ede5227191126", func := "corduroy/corduroylaw06.WidthJoins", spec := "widthJoins", unfollowed := true, recurses := true, apart := false }
def WidthJoinsSaid : Prop := widthJoinsRow.holds Try.pinned (OpenSpec.ofChange widthJoinsSpec)

/-- ITS FALSE NEIGHBOUR: 'it returns false'. Refute it at one input. -/
def widthJoinsWrong : ChangeSpec := { name := "widthJoins", fn := fun _ => fun
  | [d1, d2] => { results := [.lit (.bool false)], args := [d1, d2] }
  | _ => none }
def WidthJoinsWrongFalsely : Prop := widthJoinsRow.holds Try.pinned (OpenSpec.ofChange widthJoinsWrong)

/- THE SECOND FORM. 'bulk': how many values and letters a reading holds, each counted each time it is reached (what is shared counts as often as it is met; a slice's spare places count too). A statement '..UptoSaid' is the law's where the arguments, and the package variables that the reading takes, are together of bulk at most 1048576: NARROWER than '..Said'. Prove '..Said' where nothing that the law and all that it calls make is longer than what came in: it says more and counts as full. Else prove '..UptoSaid'. A law counts once. -/
mutual
def uptoBulk {H : Type} : DataW H → Nat
  | .lit (.string bytes) => bytes.length + 1
  | .lit _ => 1
  | .nil => 1
  | .ptr d => uptoBulk d + 1
  | .slice elems spare => uptoBulkAll elems + uptoBulkAll spare + 1
  | .agg parts => uptoBulkAll parts + 1
  | .iface _ d => uptoBulk d + 1
  | .map entries => uptoBulkEntries entries + 1
  | .held _ => 1
def uptoBulkAll {H : Type} : List (DataW H) → Nat
  | [] => 0
  | d :: r => uptoBulk d + uptoBulkAll r
def uptoBulkEntries {H : Type} : List (Lit × DataW H) → Nat
  | [] => 0
  | x :: r => uptoBulkEntry x + uptoBulkEntries r
def uptoBulkEntry {H : Type} : Lit × DataW H → Nat
  | (.string bytes, d) => bytes.length + uptoBulk d + 1
  | (_, d) => uptoBulk d + 1
 end
def uptoSmall : (H : Type) → List (DataW H) → Bool := fun _ ds => decide (uptoBulkAll ds ≤ 1048576)
def OpenSpec.upto (s : _root_.Go.ChangeSpec) : _root_.Go.OpenSpec := { _root_.Go.OpenSpec.ofChange s with cond := some uptoSmall }

/-- 'corduroylaw04.VarintGets', WHERE WHAT IT READS IS OF BULK AT MOST 1048576: true; the input reads as it did. -/
def varintGetsUptoRow : OpenClaim := { program := "ytibfbomihopgaaa", sum := "1b518b527b9df8b6ae13b183b8aa26f90314e1c7536c3bc7039ede5227191126", func := "corduroy/corduroylaw04.VarintGets", spec := "varintGets", unfollowed := true, recurses := true, apart := false, narrowed := true }
def VarintGetsUptoSaid : Prop := varintGetsUptoRow.holds Try.pinned (OpenSpec.upto varintGetsSpec)

/-- 'corduroylaw04.VarintCut', WHERE WHAT IT READS IS OF BULK AT MOST 1048576: true; the input reads as it did. -/
def varintCutUptoRow : OpenClaim := { program := "ytibfbomihopgaaa", sum := "1b518b527b9df8b6ae13b183b8aa26f90314e1c7536c3bc7039ede5227191126", func := "corduroy/corduroylaw04.VarintCut", spec := "varintCut", unfollowed := true, recurses := true, apart := false, narrowed := true }
def VarintCutUptoSaid : Prop := varintCutUptoRow.holds Try.pinned (OpenSpec.upto varintCutSpec)

/-- 'corduroylaw04.VarintZigs', WHERE WHAT IT READS IS OF BULK AT MOST 1048576: true; the input reads as it did. -/
def varintZigsUptoRow : OpenClaim := { program := "ytibfbomihopgaaa", sum := "1b518b527b9df8b6ae13b183b8aa26f90314e1c7536c3bc7039ede5227191126", func := "corduroy/corduroylaw04.VarintZigs", spec := "varintZigs", unfollowed := true, recurses := true, apart := false, narrowed := true }
def VarintZigsUptoSaid : Prop := varintZigsUptoRow.holds Try.pinned (OpenSpec.upto varintZigsSpec)

/-- 'corduroylaw04.VarintZigzag', WHERE WHAT IT READS IS OF BULK AT MOST 1048576: true; the input reads as it did. -/
def varintZigzagUptoRow : OpenClaim := { program := "ytibfbomihopgaaa", sum := "1b518b527b9df8b6ae13b183b8aa26f90314e1c7536c3bc7039ede5227191126", func := "corduroy/corduroylaw04.VarintZigzag", spec := "varintZigzag", unfollowed := true, recurses := true, apart := false, narrowed := true }
def VarintZigzagUptoSaid : Prop := varintZigzagUptoRow.holds Try.pinned (OpenSpec.upto varintZigzagSpec)

/-- 'corduroylaw06.WidthBack', WHERE WHAT IT READS IS OF BULK AT MOST 1048576: true; the input reads as it did. -/
def widthBackUptoRow : OpenClaim := { program := "ytibfbomihopgaaa", sum := "1b518b527b9df8b6ae13b183b8aa26f90314e1c7536c3bc7039ede5227191126", func := "corduroy/corduroylaw06.WidthBack", spec := "widthBack", unfollowed := true, recurses := true, apart := false, narrowed := true }
def WidthBackUptoSaid : Prop := widthBackUptoRow.holds Try.pinned (OpenSpec.upto widthBackSpec)

/-- 'corduroylaw06.WidthApart', WHERE WHAT IT READS IS OF BULK AT MOST 1048576: true; the input reads as it did. -/
def widthApartUptoRow : OpenClaim := { program := "ytibfbomihopgaaa", sum := "1b518b527b9df8b6ae13b183b8aa26f90314e1c7536c3bc7039ede5227191126", func := "corduroy/corduroylaw06.WidthApart", spec := "widthApart", unfollowed := true, recurses := true, apart := false, narrowed := true }
def WidthApartUptoSaid : Prop := widthApartUptoRow.holds Try.pinned (OpenSpec.upto widthApartSpec)

/-- 'corduroylaw06.WidthOrder', WHERE WHAT IT READS IS OF BULK AT MOST 1048576: true; the input reads as it did. -/
def widthOrderUptoRow : OpenClaim := { program := "ytibfbomihopgaaa", sum := "1b518b527b9df8b6ae13b183b8aa26f90314e1c7536c3bc7039ede5227191126", func := "corduroy/corduroylaw06.WidthOrder", spec := "widthOrder", unfollowed := true, recurses := true, apart := false, narrowed := true }
def WidthOrderUptoSaid : Prop := widthOrderUptoRow.holds Try.pinned (OpenSpec.upto widthOrderSpec)

/-- 'corduroylaw06.WidthTells', WHERE WHAT IT READS IS OF BULK AT MOST 1048576: true; the input reads as it did. -/
def widthTellsUptoRow : OpenClaim := { program := "ytibfbomihopgaaa", sum := "1b518b527b9df8b6ae13b183b8aa26f90314e1c7536c3bc7039ede5227191126", func := "corduroy/corduroylaw06.WidthTells", spec := "widthTells", unfollowed := true, recurses := true, apart := false, narrowed := true }
def WidthTellsUptoSaid : Prop := widthTellsUptoRow.holds Try.pinned (OpenSpec.upto widthTellsSpec)

/-- 'corduroylaw04.VarintPuts', WHERE WHAT IT READS IS OF BULK AT MOST 1048576: true; the input reads as it did. -/
def varintPutsUptoRow : OpenClaim := { program := "ytibfbomihopgaaa", sum := "1b518b527b9df8b6ae13b183b8aa26f90314e1c7536c3bc7039ede5227191126", func := "corduroy/corduroylaw04.VarintPuts", spec := "varintPuts", unfollowed := true, recurses := true, apart := false, narrowed := true }
def VarintPutsUptoSaid : Prop := varintPutsUptoRow.holds Try.pinned (OpenSpec.upto varintPutsSpec)

/-- 'corduroylaw04.VarintBack', WHERE WHAT IT READS IS OF BULK AT MOST 1048576: true; the input reads as it did. -/
def varintBackUptoRow : OpenClaim := { program := "ytibfbomihopgaaa", sum := "1b518b527b9df8b6ae13b183b8aa26f90314e1c7536c3bc7039ede5227191126", func := "corduroy/corduroylaw04.VarintBack", spec := "varintBack", unfollowed := true, recurses := true, apart := false, narrowed := true }
def VarintBackUptoSaid : Prop := varintBackUptoRow.holds Try.pinned (OpenSpec.upto varintBackSpec)

/-- 'corduroylaw04.VarintSizes', WHERE WHAT IT READS IS OF BULK AT MOST 1048576: true; the input reads as it did. -/
def varintSizesUptoRow : OpenClaim := { program := "ytibfbomihopgaaa", sum := "1b518b527b9df8b6ae13b183b8aa26f90314e1c7536c3bc7039ede5227191126", func := "corduroy/corduroylaw04.VarintSizes", spec := "varintSizes", unfollowed := true, recurses := true, apart := false, narrowed := true }
def VarintSizesUptoSaid : Prop := varintSizesUptoRow.holds Try.pinned (OpenSpec.upto varintSizesSpec)

/-- 'corduroylaw06.WidthJoins', WHERE WHAT IT READS IS OF BULK AT MOST 1048576: true; the input reads as it did. -/
def widthJoinsUptoRow : OpenClaim := { program := "ytibfbomihopgaaa", sum := "1b518b527b9df8b6ae13b183b8aa26f90314e1c7536c3bc7039ede5227191126", func := "corduroy/corduroylaw06.WidthJoins", spec := "widthJoins", unfollowed := true, recurses := true, apart := false, narrowed := true }
def WidthJoinsUptoSaid : Prop := widthJoinsUptoRow.holds Try.pinned (OpenSpec.upto widthJoinsSpec)

end Rows
end Go.Proofs.Ytibfbomihopgaaa
