/-
  DERIVED. GIVEN WITH THE SEED: THE CARDS: each row of YtaohdbagcfgoeaaDoorRows.lean that lists a variable, with what it lists TIED to the program's text (the seventh form; the later family's looks); each row that meets fmt, with fmt's text TOLD by the authors' own Lean function (tested against real Go, not proved from fmt's source: count such statements apart). THE CARD IS WHAT COUNTS. Prove the row's statement (the work); the ties are given (YtaohdbagcfgoeaaDoorTie.lean); close each card by the builder's one call (the guide's Derived/Test/ToyasCard.lean, 'card_holds'). Laid BY PROGRAM, IN A SANDBOX (cutbox-door.mjs). By AI agents, Wed Nov 11 2026. No macro, syntax, notation, axiom, sorry.
-/
import Derived.Test.YtaohdbagcfgoeaaDoorRows
import GoSem.ClaimSeven
namespace Go.Proofs.YtaohdbagcfgoeaaDoor
namespace Rows

/-- THE TIED CARD OF 'corduroylaw09.SimpleBound'. -/
def simpleBoundCard : Claim7 := { stood := { row := simpleBoundRow, standIns := [], harness := (true, "6933165eb7f8d73dc3c6c10d1f49503a8c38ba8ec1b11c202a4084b20d70737c"), looks := true }, kinds := [], alts := [], laidByText := true, laidKinds := [.data], laidTests := true, laidLooks := .later }
def SimpleBoundCardSaid : Prop := Claim7.holds Tryd.pinned (.plain (OpenSpec.ofChange simpleBoundSpec)) simpleBoundCard

/-- THE TIED CARD OF 'corduroylaw09.SimpleEncodes'. -/
def simpleEncodesCard : Claim7 := { stood := { row := simpleEncodesRow, standIns := [], harness := (true, "6933165eb7f8d73dc3c6c10d1f49503a8c38ba8ec1b11c202a4084b20d70737c"), looks := true }, kinds := [], alts := [], laidByText := true, laidKinds := [.data], laidTests := true, laidLooks := .later }
def SimpleEncodesCardSaid : Prop := Claim7.holds Tryd.pinned (.plain (OpenSpec.ofChange simpleEncodesSpec)) simpleEncodesCard

/-- THE TIED CARD OF 'corduroylaw09.SimpleDecodes'. -/
def simpleDecodesCard : Claim7 := { stood := { row := simpleDecodesRow, standIns := [], harness := (true, "6933165eb7f8d73dc3c6c10d1f49503a8c38ba8ec1b11c202a4084b20d70737c"), looks := true }, kinds := [], alts := [], laidByText := true, laidKinds := [.data], laidTests := true, laidLooks := .later }
def SimpleDecodesCardSaid : Prop := Claim7.holds Tryd.pinned (.plain (OpenSpec.ofChange simpleDecodesSpec)) simpleDecodesCard

/-- THE TIED CARD OF 'corduroylaw09.SimpleApart'. -/
def simpleApartCard : Claim7 := { stood := { row := simpleApartRow, standIns := [], harness := (true, "6933165eb7f8d73dc3c6c10d1f49503a8c38ba8ec1b11c202a4084b20d70737c"), looks := true }, kinds := [], alts := [], laidByText := true, laidKinds := [.data], laidTests := true, laidLooks := .later }
def SimpleApartCardSaid : Prop := Claim7.holds Tryd.pinned (.plain (OpenSpec.ofChange simpleApartSpec)) simpleApartCard

/-- THE TIED CARD OF 'corduroylaw09.SimpleBack'. -/
def simpleBackCard : Claim7 := { stood := { row := simpleBackRow, standIns := [], harness := (true, "6933165eb7f8d73dc3c6c10d1f49503a8c38ba8ec1b11c202a4084b20d70737c"), looks := true }, kinds := [], alts := [], laidByText := true, laidKinds := [.data], laidTests := true, laidLooks := .later }
def SimpleBackCardSaid : Prop := Claim7.holds Tryd.pinned (.plain (OpenSpec.ofChange simpleBackSpec)) simpleBackCard

/-- THE SECOND FORM's CARD OF 'corduroylaw09.SimpleBound'. -/
def simpleBoundUptoCard : Claim7 := { stood := { row := simpleBoundUptoRow, standIns := [], harness := (true, "6933165eb7f8d73dc3c6c10d1f49503a8c38ba8ec1b11c202a4084b20d70737c"), looks := true }, kinds := [], alts := [], laidByText := true, laidKinds := [.data], laidTests := true, laidLooks := .later }
def SimpleBoundUptoCardSaid : Prop := Claim7.holds Tryd.pinned (.plain (OpenSpec.upto simpleBoundSpec)) simpleBoundUptoCard

/-- THE SECOND FORM's CARD OF 'corduroylaw09.SimpleEncodes'. -/
def simpleEncodesUptoCard : Claim7 := { stood := { row := simpleEncodesUptoRow, standIns := [], harness := (true, "6933165eb7f8d73dc3c6c10d1f49503a8c38ba8ec1b11c202a4084b20d70737c"), looks := true }, kinds := [], alts := [], laidByText := true, laidKinds := [.data], laidTests := true, laidLooks := .later }
def SimpleEncodesUptoCardSaid : Prop := Claim7.holds Tryd.pinned (.plain (OpenSpec.upto simpleEncodesSpec)) simpleEncodesUptoCard

/-- THE SECOND FORM's CARD OF 'corduroylaw09.SimpleDecodes'. -/
def simpleDecodesUptoCard : Claim7 := { stood := { row := simpleDecodesUptoRow, standIns := [], harness := (true, "6933165eb7f8d73dc3c6c10d1f49503a8c38ba8ec1b11c202a4084b20d70737c"), looks := true }, kinds := [], alts := [], laidByText := true, laidKinds := [.data], laidTests := true, laidLooks := .later }
def SimpleDecodesUptoCardSaid : Prop := Claim7.holds Tryd.pinned (.plain (OpenSpec.upto simpleDecodesSpec)) simpleDecodesUptoCard

/-- THE SECOND FORM's CARD OF 'corduroylaw09.SimpleApart'. -/
def simpleApartUptoCard : Claim7 := { stood := { row := simpleApartUptoRow, standIns := [], harness := (true, "6933165eb7f8d73dc3c6c10d1f49503a8c38ba8ec1b11c202a4084b20d70737c"), looks := true }, kinds := [], alts := [], laidByText := true, laidKinds := [.data], laidTests := true, laidLooks := .later }
def SimpleApartUptoCardSaid : Prop := Claim7.holds Tryd.pinned (.plain (OpenSpec.upto simpleApartSpec)) simpleApartUptoCard

/-- THE SECOND FORM's CARD OF 'corduroylaw09.SimpleBack'. -/
def simpleBackUptoCard : Claim7 := { stood := { row := simpleBackUptoRow, standIns := [], harness := (true, "6933165eb7f8d73dc3c6c10d1f49503a8c38ba8ec1b11c202a4084b20d70737c"), looks := true }, kinds := [], alts := [], laidByText := true, laidKinds := [.data], laidTests := true, laidLooks := .later }
def SimpleBackUptoCardSaid : Prop := Claim7.holds Tryd.pinned (.plain (OpenSpec.upto simpleBackSpec)) simpleBackUptoCard
end Rows
end Go.Proofs.YtaohdbagcfgoeaaDoor
