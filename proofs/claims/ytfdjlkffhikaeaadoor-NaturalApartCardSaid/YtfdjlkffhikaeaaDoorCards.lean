/-
  DERIVED. GIVEN WITH THE SEED: THE CARDS: each row of YtfdjlkffhikaeaaDoorRows.lean that lists a variable, with what it lists TIED to the program's text (the seventh form; the later family's looks); each row that meets fmt, with fmt's text TOLD by the authors' own Lean function (tested against real Go, not proved from fmt's source: count such statements apart). THE CARD IS WHAT COUNTS. Prove the row's statement (the work); the ties are given (YtfdjlkffhikaeaaDoorTie.lean); close each card by the builder's one call (the guide's Derived/Test/ToyasCard.lean, 'card_holds'). Laid BY PROGRAM, IN A SANDBOX (cutbox-door.mjs). By AI agents, Wed Nov 11 2026. No macro, syntax, notation, axiom, sorry.
-/
import Derived.Test.YtfdjlkffhikaeaaDoorRows
import GoSem.ClaimSeven
namespace Go.Proofs.YtfdjlkffhikaeaaDoor
namespace Rows

/-- THE TIED CARD OF 'priceofficelaw01.NaturalDivides'. -/
def naturalDividesCard : Claim7 := { stood := { row := naturalDividesRow, standIns := [], harness := (true, "994426c99ca2ab71289d0485ac10a3a0ddeea4c947436820ec00519690fdbb47"), looks := false }, kinds := [], alts := [], laidByText := true, laidKinds := [.data, .data, .data], laidTests := true, laidLooks := .later }
def NaturalDividesCardSaid : Prop := Claim7.holds Tryd.pinned (.plain (OpenSpec.ofChange naturalDividesSpec)) naturalDividesCard

/-- THE TIED CARD OF 'priceofficelaw01.NaturalExact'. -/
def naturalExactCard : Claim7 := { stood := { row := naturalExactRow, standIns := [], harness := (true, "994426c99ca2ab71289d0485ac10a3a0ddeea4c947436820ec00519690fdbb47"), looks := false }, kinds := [], alts := [], laidByText := true, laidKinds := [.data, .data, .data], laidTests := true, laidLooks := .later }
def NaturalExactCardSaid : Prop := Claim7.holds Tryd.pinned (.plain (OpenSpec.ofChange naturalExactSpec)) naturalExactCard

/-- THE TIED CARD OF 'priceofficelaw01.NaturalOrders'. -/
def naturalOrdersCard : Claim7 := { stood := { row := naturalOrdersRow, standIns := [], harness := (true, "994426c99ca2ab71289d0485ac10a3a0ddeea4c947436820ec00519690fdbb47"), looks := false }, kinds := [], alts := [], laidByText := true, laidKinds := [.data, .data, .data], laidTests := true, laidLooks := .later }
def NaturalOrdersCardSaid : Prop := Claim7.holds Tryd.pinned (.plain (OpenSpec.ofChange naturalOrdersSpec)) naturalOrdersCard

/-- THE TIED CARD OF 'priceofficelaw01.NaturalReads'. -/
def naturalReadsCard : Claim7 := { stood := { row := naturalReadsRow, standIns := [], harness := (true, "994426c99ca2ab71289d0485ac10a3a0ddeea4c947436820ec00519690fdbb47"), looks := false }, kinds := [], alts := [], laidByText := true, laidKinds := [.data, .data, .data], laidTests := true, laidLooks := .later }
def NaturalReadsCardSaid : Prop := Claim7.holds Tryd.pinned (.plain (OpenSpec.ofChange naturalReadsSpec)) naturalReadsCard

/-- THE TIED CARD OF 'priceofficelaw01.NaturalProducts'. -/
def naturalProductsCard : Claim7 := { stood := { row := naturalProductsRow, standIns := [], harness := (true, "994426c99ca2ab71289d0485ac10a3a0ddeea4c947436820ec00519690fdbb47"), looks := false }, kinds := [], alts := [], laidByText := true, laidKinds := [.data, .data, .data], laidTests := true, laidLooks := .later }
def NaturalProductsCardSaid : Prop := Claim7.holds Tryd.pinned (.plain (OpenSpec.ofChange naturalProductsSpec)) naturalProductsCard

/-- THE TIED CARD OF 'priceofficelaw01.NaturalSums'. -/
def naturalSumsCard : Claim7 := { stood := { row := naturalSumsRow, standIns := [], harness := (true, "994426c99ca2ab71289d0485ac10a3a0ddeea4c947436820ec00519690fdbb47"), looks := false }, kinds := [], alts := [], laidByText := true, laidKinds := [.data, .data, .data], laidTests := true, laidLooks := .later }
def NaturalSumsCardSaid : Prop := Claim7.holds Tryd.pinned (.plain (OpenSpec.ofChange naturalSumsSpec)) naturalSumsCard

/-- THE TIED CARD OF 'priceofficelaw01.NaturalRing'. -/
def naturalRingCard : Claim7 := { stood := { row := naturalRingRow, standIns := [], harness := (true, "994426c99ca2ab71289d0485ac10a3a0ddeea4c947436820ec00519690fdbb47"), looks := false }, kinds := [], alts := [], laidByText := true, laidKinds := [.data, .data, .data], laidTests := true, laidLooks := .later }
def NaturalRingCardSaid : Prop := Claim7.holds Tryd.pinned (.plain (OpenSpec.ofChange naturalRingSpec)) naturalRingCard

/-- THE TIED CARD OF 'priceofficelaw01.NaturalPowers'. -/
def naturalPowersCard : Claim7 := { stood := { row := naturalPowersRow, standIns := [], harness := (true, "994426c99ca2ab71289d0485ac10a3a0ddeea4c947436820ec00519690fdbb47"), looks := false }, kinds := [], alts := [], laidByText := true, laidKinds := [.data, .data, .data], laidTests := true, laidLooks := .later }
def NaturalPowersCardSaid : Prop := Claim7.holds Tryd.pinned (.plain (OpenSpec.ofChange naturalPowersSpec)) naturalPowersCard

/-- THE TIED CARD OF 'priceofficelaw01.NaturalExponents'. -/
def naturalExponentsCard : Claim7 := { stood := { row := naturalExponentsRow, standIns := [], harness := (true, "994426c99ca2ab71289d0485ac10a3a0ddeea4c947436820ec00519690fdbb47"), looks := false }, kinds := [], alts := [], laidByText := true, laidKinds := [.data, .data, .data], laidTests := true, laidLooks := .later }
def NaturalExponentsCardSaid : Prop := Claim7.holds Tryd.pinned (.plain (OpenSpec.ofChange naturalExponentsSpec)) naturalExponentsCard

/-- THE TIED CARD OF 'priceofficelaw01.NaturalDivisors'. -/
def naturalDivisorsCard : Claim7 := { stood := { row := naturalDivisorsRow, standIns := [], harness := (true, "994426c99ca2ab71289d0485ac10a3a0ddeea4c947436820ec00519690fdbb47"), looks := false }, kinds := [], alts := [], laidByText := true, laidKinds := [.data, .data, .data], laidTests := true, laidLooks := .later }
def NaturalDivisorsCardSaid : Prop := Claim7.holds Tryd.pinned (.plain (OpenSpec.ofChange naturalDivisorsSpec)) naturalDivisorsCard

/-- THE TIED CARD OF 'priceofficelaw01.NaturalRoots'. -/
def naturalRootsCard : Claim7 := { stood := { row := naturalRootsRow, standIns := [], harness := (true, "994426c99ca2ab71289d0485ac10a3a0ddeea4c947436820ec00519690fdbb47"), looks := false }, kinds := [], alts := [], laidByText := true, laidKinds := [.data, .data, .data], laidTests := true, laidLooks := .later }
def NaturalRootsCardSaid : Prop := Claim7.holds Tryd.pinned (.plain (OpenSpec.ofChange naturalRootsSpec)) naturalRootsCard

/-- THE TIED CARD OF 'priceofficelaw01.NaturalApart'. -/
def naturalApartCard : Claim7 := { stood := { row := naturalApartRow, standIns := [], harness := (true, "994426c99ca2ab71289d0485ac10a3a0ddeea4c947436820ec00519690fdbb47"), looks := false }, kinds := [], alts := [], laidByText := true, laidKinds := [.data, .data, .data], laidTests := true, laidLooks := .later }
def NaturalApartCardSaid : Prop := Claim7.holds Tryd.pinned (.plain (OpenSpec.ofChange naturalApartSpec)) naturalApartCard

/-- THE SECOND FORM's CARD OF 'priceofficelaw01.NaturalDivides'. -/
def naturalDividesUptoCard : Claim7 := { stood := { row := naturalDividesUptoRow, standIns := [], harness := (true, "994426c99ca2ab71289d0485ac10a3a0ddeea4c947436820ec00519690fdbb47"), looks := false }, kinds := [], alts := [], laidByText := true, laidKinds := [.data, .data, .data], laidTests := true, laidLooks := .later }
def NaturalDividesUptoCardSaid : Prop := Claim7.holds Tryd.pinned (.plain (OpenSpec.upto naturalDividesSpec)) naturalDividesUptoCard

/-- THE SECOND FORM's CARD OF 'priceofficelaw01.NaturalExact'. -/
def naturalExactUptoCard : Claim7 := { stood := { row := naturalExactUptoRow, standIns := [], harness := (true, "994426c99ca2ab71289d0485ac10a3a0ddeea4c947436820ec00519690fdbb47"), looks := false }, kinds := [], alts := [], laidByText := true, laidKinds := [.data, .data, .data], laidTests := true, laidLooks := .later }
def NaturalExactUptoCardSaid : Prop := Claim7.holds Tryd.pinned (.plain (OpenSpec.upto naturalExactSpec)) naturalExactUptoCard

/-- THE SECOND FORM's CARD OF 'priceofficelaw01.NaturalOrders'. -/
def naturalOrdersUptoCard : Claim7 := { stood := { row := naturalOrdersUptoRow, standIns := [], harness := (true, "994426c99ca2ab71289d0485ac10a3a0ddeea4c947436820ec00519690fdbb47"), looks := false }, kinds := [], alts := [], laidByText := true, laidKinds := [.data, .data, .data], laidTests := true, laidLooks := .later }
def NaturalOrdersUptoCardSaid : Prop := Claim7.holds Tryd.pinned (.plain (OpenSpec.upto naturalOrdersSpec)) naturalOrdersUptoCard

/-- THE SECOND FORM's CARD OF 'priceofficelaw01.NaturalReads'. -/
def naturalReadsUptoCard : Claim7 := { stood := { row := naturalReadsUptoRow, standIns := [], harness := (true, "994426c99ca2ab71289d0485ac10a3a0ddeea4c947436820ec00519690fdbb47"), looks := false }, kinds := [], alts := [], laidByText := true, laidKinds := [.data, .data, .data], laidTests := true, laidLooks := .later }
def NaturalReadsUptoCardSaid : Prop := Claim7.holds Tryd.pinned (.plain (OpenSpec.upto naturalReadsSpec)) naturalReadsUptoCard

/-- THE SECOND FORM's CARD OF 'priceofficelaw01.NaturalProducts'. -/
def naturalProductsUptoCard : Claim7 := { stood := { row := naturalProductsUptoRow, standIns := [], harness := (true, "994426c99ca2ab71289d0485ac10a3a0ddeea4c947436820ec00519690fdbb47"), looks := false }, kinds := [], alts := [], laidByText := true, laidKinds := [.data, .data, .data], laidTests := true, laidLooks := .later }
def NaturalProductsUptoCardSaid : Prop := Claim7.holds Tryd.pinned (.plain (OpenSpec.upto naturalProductsSpec)) naturalProductsUptoCard

/-- THE SECOND FORM's CARD OF 'priceofficelaw01.NaturalSums'. -/
def naturalSumsUptoCard : Claim7 := { stood := { row := naturalSumsUptoRow, standIns := [], harness := (true, "994426c99ca2ab71289d0485ac10a3a0ddeea4c947436820ec00519690fdbb47"), looks := false }, kinds := [], alts := [], laidByText := true, laidKinds := [.data, .data, .data], laidTests := true, laidLooks := .later }
def NaturalSumsUptoCardSaid : Prop := Claim7.holds Tryd.pinned (.plain (OpenSpec.upto naturalSumsSpec)) naturalSumsUptoCard

/-- THE SECOND FORM's CARD OF 'priceofficelaw01.NaturalRing'. -/
def naturalRingUptoCard : Claim7 := { stood := { row := naturalRingUptoRow, standIns := [], harness := (true, "994426c99ca2ab71289d0485ac10a3a0ddeea4c947436820ec00519690fdbb47"), looks := false }, kinds := [], alts := [], laidByText := true, laidKinds := [.data, .data, .data], laidTests := true, laidLooks := .later }
def NaturalRingUptoCardSaid : Prop := Claim7.holds Tryd.pinned (.plain (OpenSpec.upto naturalRingSpec)) naturalRingUptoCard

/-- THE SECOND FORM's CARD OF 'priceofficelaw01.NaturalPowers'. -/
def naturalPowersUptoCard : Claim7 := { stood := { row := naturalPowersUptoRow, standIns := [], harness := (true, "994426c99ca2ab71289d0485ac10a3a0ddeea4c947436820ec00519690fdbb47"), looks := false }, kinds := [], alts := [], laidByText := true, laidKinds := [.data, .data, .data], laidTests := true, laidLooks := .later }
def NaturalPowersUptoCardSaid : Prop := Claim7.holds Tryd.pinned (.plain (OpenSpec.upto naturalPowersSpec)) naturalPowersUptoCard

/-- THE SECOND FORM's CARD OF 'priceofficelaw01.NaturalExponents'. -/
def naturalExponentsUptoCard : Claim7 := { stood := { row := naturalExponentsUptoRow, standIns := [], harness := (true, "994426c99ca2ab71289d0485ac10a3a0ddeea4c947436820ec00519690fdbb47"), looks := false }, kinds := [], alts := [], laidByText := true, laidKinds := [.data, .data, .data], laidTests := true, laidLooks := .later }
def NaturalExponentsUptoCardSaid : Prop := Claim7.holds Tryd.pinned (.plain (OpenSpec.upto naturalExponentsSpec)) naturalExponentsUptoCard

/-- THE SECOND FORM's CARD OF 'priceofficelaw01.NaturalDivisors'. -/
def naturalDivisorsUptoCard : Claim7 := { stood := { row := naturalDivisorsUptoRow, standIns := [], harness := (true, "994426c99ca2ab71289d0485ac10a3a0ddeea4c947436820ec00519690fdbb47"), looks := false }, kinds := [], alts := [], laidByText := true, laidKinds := [.data, .data, .data], laidTests := true, laidLooks := .later }
def NaturalDivisorsUptoCardSaid : Prop := Claim7.holds Tryd.pinned (.plain (OpenSpec.upto naturalDivisorsSpec)) naturalDivisorsUptoCard

/-- THE SECOND FORM's CARD OF 'priceofficelaw01.NaturalRoots'. -/
def naturalRootsUptoCard : Claim7 := { stood := { row := naturalRootsUptoRow, standIns := [], harness := (true, "994426c99ca2ab71289d0485ac10a3a0ddeea4c947436820ec00519690fdbb47"), looks := false }, kinds := [], alts := [], laidByText := true, laidKinds := [.data, .data, .data], laidTests := true, laidLooks := .later }
def NaturalRootsUptoCardSaid : Prop := Claim7.holds Tryd.pinned (.plain (OpenSpec.upto naturalRootsSpec)) naturalRootsUptoCard

/-- THE SECOND FORM's CARD OF 'priceofficelaw01.NaturalApart'. -/
def naturalApartUptoCard : Claim7 := { stood := { row := naturalApartUptoRow, standIns := [], harness := (true, "994426c99ca2ab71289d0485ac10a3a0ddeea4c947436820ec00519690fdbb47"), looks := false }, kinds := [], alts := [], laidByText := true, laidKinds := [.data, .data, .data], laidTests := true, laidLooks := .later }
def NaturalApartUptoCardSaid : Prop := Claim7.holds Tryd.pinned (.plain (OpenSpec.upto naturalApartSpec)) naturalApartUptoCard
end Rows
end Go.Proofs.YtfdjlkffhikaeaaDoor
