/-
  DERIVED. GIVEN WITH THE SEED: THE CARDS: each row of YtgaicejcjkpekaaDoorRows.lean that lists a variable, with what it lists TIED to the program's text (the seventh form; the later family's looks); each row that meets fmt, with fmt's text TOLD by the authors' own Lean function (tested against real Go, not proved from fmt's source: count such statements apart). THE CARD IS WHAT COUNTS. Prove the row's statement (the work); the ties are given (YtgaicejcjkpekaaDoorTie.lean); close each card by the builder's one call (the guide's Derived/Test/ToyasCard.lean, 'card_holds'). Laid BY PROGRAM, IN A SANDBOX (cutbox-door.mjs). By AI agents, Wed Nov 11 2026. No macro, syntax, notation, axiom, sorry.
-/
import Derived.Test.YtgaicejcjkpekaaDoorRows
import GoSem.ClaimSeven
namespace Go.Proofs.YtgaicejcjkpekaaDoor
namespace Rows

/-- THE TIED CARD OF 'priceofficelaw01.NaturalTexts'. -/
def naturalTextsCard : Claim7 := { stood := { row := naturalTextsRow, standIns := [], harness := (true, "60c2044a4eed2f416db848e3ba8040391aea326c48f874cdff8a57afe9532c71"), looks := true }, kinds := [], alts := [], laidByText := true, laidKinds := [.data, .data, .data, .data, .sentinel, .sentinel, .pinned], laidTests := true, laidLooks := .later }
def NaturalTextsCardSaid : Prop := Claim7.holds Tryd.pinned (.plain (OpenSpec.ofChange naturalTextsSpec)) naturalTextsCard

/-- THE TIED CARD OF 'priceofficelaw01.NaturalLong'. -/
def naturalLongCard : Claim7 := { stood := { row := naturalLongRow, standIns := [], harness := (true, "60c2044a4eed2f416db848e3ba8040391aea326c48f874cdff8a57afe9532c71"), looks := true }, kinds := [], alts := [], laidByText := true, laidKinds := [.data, .data, .data, .data, .sentinel, .sentinel, .pinned], laidTests := true, laidLooks := .later }
def NaturalLongCardSaid : Prop := Claim7.holds Tryd.pinned (.plain (OpenSpec.ofChange naturalLongSpec)) naturalLongCard

/-- THE TIED CARD OF 'priceofficelaw01.NaturalPrints'. -/
def naturalPrintsCard : Claim7 := { stood := { row := naturalPrintsRow, standIns := [], harness := (true, "60c2044a4eed2f416db848e3ba8040391aea326c48f874cdff8a57afe9532c71"), looks := true }, kinds := [], alts := [], laidByText := true, laidKinds := [.data, .data, .data, .data, .sentinel, .sentinel, .pinned], laidTests := true, laidLooks := .later }
def NaturalPrintsCardSaid : Prop := Claim7.holds Tryd.pinned (.plain (OpenSpec.ofChange naturalPrintsSpec)) naturalPrintsCard

/-- THE SECOND FORM's CARD OF 'priceofficelaw01.NaturalTexts'. -/
def naturalTextsUptoCard : Claim7 := { stood := { row := naturalTextsUptoRow, standIns := [], harness := (true, "60c2044a4eed2f416db848e3ba8040391aea326c48f874cdff8a57afe9532c71"), looks := true }, kinds := [], alts := [], laidByText := true, laidKinds := [.data, .data, .data, .data, .sentinel, .sentinel, .pinned], laidTests := true, laidLooks := .later }
def NaturalTextsUptoCardSaid : Prop := Claim7.holds Tryd.pinned (.plain (OpenSpec.upto naturalTextsSpec)) naturalTextsUptoCard

/-- THE SECOND FORM's CARD OF 'priceofficelaw01.NaturalLong'. -/
def naturalLongUptoCard : Claim7 := { stood := { row := naturalLongUptoRow, standIns := [], harness := (true, "60c2044a4eed2f416db848e3ba8040391aea326c48f874cdff8a57afe9532c71"), looks := true }, kinds := [], alts := [], laidByText := true, laidKinds := [.data, .data, .data, .data, .sentinel, .sentinel, .pinned], laidTests := true, laidLooks := .later }
def NaturalLongUptoCardSaid : Prop := Claim7.holds Tryd.pinned (.plain (OpenSpec.upto naturalLongSpec)) naturalLongUptoCard

/-- THE SECOND FORM's CARD OF 'priceofficelaw01.NaturalPrints'. -/
def naturalPrintsUptoCard : Claim7 := { stood := { row := naturalPrintsUptoRow, standIns := [], harness := (true, "60c2044a4eed2f416db848e3ba8040391aea326c48f874cdff8a57afe9532c71"), looks := true }, kinds := [], alts := [], laidByText := true, laidKinds := [.data, .data, .data, .data, .sentinel, .sentinel, .pinned], laidTests := true, laidLooks := .later }
def NaturalPrintsUptoCardSaid : Prop := Claim7.holds Tryd.pinned (.plain (OpenSpec.upto naturalPrintsSpec)) naturalPrintsUptoCard
end Rows
end Go.Proofs.YtgaicejcjkpekaaDoor
