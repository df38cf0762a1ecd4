/-
  DERIVED. GIVEN WITH THE SEED: THE CARDS: each row of YtgnppnokkdghcaaGreatDoorRows.lean that lists a variable, with what it lists TIED to the program's text (the seventh form; the later family's looks); each row that meets fmt, with fmt's text TOLD by the authors' own Lean function (tested against real Go, not proved from fmt's source: count such statements apart). THE CARD IS WHAT COUNTS. Prove the row's statement (the work); the ties are given (YtgnppnokkdghcaaGreatDoorTie.lean); close each card by the builder's one call (the guide's Derived/Test/ToyasCard.lean, 'card_holds'). Laid BY PROGRAM, IN A SANDBOX (cutbox-door.mjs). By AI agents, Wed Nov 11 2026. No macro, syntax, notation, axiom, sorry.
-/
import Derived.Test.YtgnppnokkdghcaaGreatDoorRows
import GoSem.ClaimSeven
namespace Go.Proofs.YtgnppnokkdghcaaGreatDoor
namespace Rows

/-- THE TIED CARD OF 'evergreenlaw41.DeltaApplies'. -/
def deltaAppliesCard : Claim7 := { stood := { row := deltaAppliesRow, standIns := [], harness := (true, "6e50a225e209f2ae990c6073ab2e17c0e24770994b7a6d006b0bd6af646f7499"), looks := true }, kinds := [], alts := [], laidByText := true, laidKinds := [.data], laidTests := true, laidLooks := .later }
def DeltaAppliesCardSaid : Prop := Claim7.holds Tryz.pinned (.plain (OpenSpec.ofChange deltaAppliesSpec)) deltaAppliesCard

/-- THE TIED CARD OF 'evergreenlaw41.DeltaNormal'. -/
def deltaNormalCard : Claim7 := { stood := { row := deltaNormalRow, standIns := [], harness := (true, "6e50a225e209f2ae990c6073ab2e17c0e24770994b7a6d006b0bd6af646f7499"), looks := true }, kinds := [], alts := [], laidByText := true, laidKinds := [.data], laidTests := true, laidLooks := .later }
def DeltaNormalCardSaid : Prop := Claim7.holds Tryz.pinned (.plain (OpenSpec.ofChange deltaNormalSpec)) deltaNormalCard

/-- THE TIED CARD OF 'evergreenlaw41.DeltaComposes'. -/
def deltaComposesCard : Claim7 := { stood := { row := deltaComposesRow, standIns := [], harness := (true, "6e50a225e209f2ae990c6073ab2e17c0e24770994b7a6d006b0bd6af646f7499"), looks := true }, kinds := [], alts := [], laidByText := true, laidKinds := [.data], laidTests := true, laidLooks := .later }
def DeltaComposesCardSaid : Prop := Claim7.holds Tryz.pinned (.plain (OpenSpec.ofChange deltaComposesSpec)) deltaComposesCard

/-- THE TIED CARD OF 'evergreenlaw25.CanonicalOrder'. -/
def canonicalOrderCard : Claim7 := { stood := { row := canonicalOrderRow, standIns := [], harness := (true, "6e50a225e209f2ae990c6073ab2e17c0e24770994b7a6d006b0bd6af646f7499"), looks := true }, kinds := [], alts := [], laidByText := true, laidKinds := [.data], laidTests := true, laidLooks := .later }
def CanonicalOrderCardSaid : Prop := Claim7.holds Tryz.pinned (.plain (OpenSpec.ofChange canonicalOrderSpec)) canonicalOrderCard

/-- THE TIED CARD OF 'evergreenlaw25.CanonicalFull'. -/
def canonicalFullCard : Claim7 := { stood := { row := canonicalFullRow, standIns := [], harness := (true, "6e50a225e209f2ae990c6073ab2e17c0e24770994b7a6d006b0bd6af646f7499"), looks := true }, kinds := [], alts := [], laidByText := true, laidKinds := [.data], laidTests := true, laidLooks := .later }
def CanonicalFullCardSaid : Prop := Claim7.holds Tryz.pinned (.plain (OpenSpec.ofChange canonicalFullSpec)) canonicalFullCard

/-- THE TIED CARD OF 'evergreenlaw25.CanonicalOf'. -/
def canonicalOfCard : Claim7 := { stood := { row := canonicalOfRow, standIns := [], harness := (true, "6e50a225e209f2ae990c6073ab2e17c0e24770994b7a6d006b0bd6af646f7499"), looks := true }, kinds := [], alts := [], laidByText := true, laidKinds := [.data], laidTests := true, laidLooks := .later }
def CanonicalOfCardSaid : Prop := Claim7.holds Tryz.pinned (.plain (OpenSpec.ofChange canonicalOfSpec)) canonicalOfCard

/-- THE TIED CARD OF 'evergreenlaw25.CanonicalShapes'. -/
def canonicalShapesCard : Claim7 := { stood := { row := canonicalShapesRow, standIns := [], harness := (true, "6e50a225e209f2ae990c6073ab2e17c0e24770994b7a6d006b0bd6af646f7499"), looks := true }, kinds := [], alts := [], laidByText := true, laidKinds := [.data], laidTests := true, laidLooks := .later }
def CanonicalShapesCardSaid : Prop := Claim7.holds Tryz.pinned (.plain (OpenSpec.ofChange canonicalShapesSpec)) canonicalShapesCard

/-- THE TIED CARD OF 'evergreenlaw25.CanonicalClasses'. -/
def canonicalClassesCard : Claim7 := { stood := { row := canonicalClassesRow, standIns := [], harness := (true, "6e50a225e209f2ae990c6073ab2e17c0e24770994b7a6d006b0bd6af646f7499"), looks := true }, kinds := [], alts := [], laidByText := true, laidKinds := [.data], laidTests := true, laidLooks := .later }
def CanonicalClassesCardSaid : Prop := Claim7.holds Tryz.pinned (.plain (OpenSpec.ofChange canonicalClassesSpec)) canonicalClassesCard

/-- THE TIED CARD OF 'evergreenlaw41.DeltaWhole'. -/
def deltaWholeCard : Claim7 := { stood := { row := deltaWholeRow, standIns := [], harness := (true, "6e50a225e209f2ae990c6073ab2e17c0e24770994b7a6d006b0bd6af646f7499"), looks := true }, kinds := [], alts := [], laidByText := true, laidKinds := [.data], laidTests := true, laidLooks := .later }
def DeltaWholeCardSaid : Prop := Claim7.holds Tryz.pinned (.plain (OpenSpec.ofChange deltaWholeSpec)) deltaWholeCard

/-- THE TIED CARD OF 'evergreenlaw41.DeltaErrors'. -/
def deltaErrorsCard : Claim7 := { stood := { row := deltaErrorsRow, standIns := [], harness := (true, "6e50a225e209f2ae990c6073ab2e17c0e24770994b7a6d006b0bd6af646f7499"), looks := true }, kinds := [], alts := [], laidByText := true, laidKinds := [.data], laidTests := true, laidLooks := .later }
def DeltaErrorsCardSaid : Prop := Claim7.holds Tryz.pinned (.plain (OpenSpec.ofChange deltaErrorsSpec)) deltaErrorsCard

/-- THE SECOND FORM's CARD OF 'evergreenlaw41.DeltaApplies'. -/
def deltaAppliesUptoCard : Claim7 := { stood := { row := deltaAppliesUptoRow, standIns := [], harness := (true, "6e50a225e209f2ae990c6073ab2e17c0e24770994b7a6d006b0bd6af646f7499"), looks := true }, kinds := [], alts := [], laidByText := true, laidKinds := [.data], laidTests := true, laidLooks := .later }
def DeltaAppliesUptoCardSaid : Prop := Claim7.holds Tryz.pinned (.plain (OpenSpec.upto deltaAppliesSpec)) deltaAppliesUptoCard

/-- THE SECOND FORM's CARD OF 'evergreenlaw41.DeltaNormal'. -/
def deltaNormalUptoCard : Claim7 := { stood := { row := deltaNormalUptoRow, standIns := [], harness := (true, "6e50a225e209f2ae990c6073ab2e17c0e24770994b7a6d006b0bd6af646f7499"), looks := true }, kinds := [], alts := [], laidByText := true, laidKinds := [.data], laidTests := true, laidLooks := .later }
def DeltaNormalUptoCardSaid : Prop := Claim7.holds Tryz.pinned (.plain (OpenSpec.upto deltaNormalSpec)) deltaNormalUptoCard

/-- THE SECOND FORM's CARD OF 'evergreenlaw41.DeltaComposes'. -/
def deltaComposesUptoCard : Claim7 := { stood := { row := deltaComposesUptoRow, standIns := [], harness := (true, "6e50a225e209f2ae990c6073ab2e17c0e24770994b7a6d006b0bd6af646f7499"), looks := true }, kinds := [], alts := [], laidByText := true, laidKinds := [.data], laidTests := true, laidLooks := .later }
def DeltaComposesUptoCardSaid : Prop := Claim7.holds Tryz.pinned (.plain (OpenSpec.upto deltaComposesSpec)) deltaComposesUptoCard

/-- THE SECOND FORM's CARD OF 'evergreenlaw25.CanonicalOrder'. -/
def canonicalOrderUptoCard : Claim7 := { stood := { row := canonicalOrderUptoRow, standIns := [], harness := (true, "6e50a225e209f2ae990c6073ab2e17c0e24770994b7a6d006b0bd6af646f7499"), looks := true }, kinds := [], alts := [], laidByText := true, laidKinds := [.data], laidTests := true, laidLooks := .later }
def CanonicalOrderUptoCardSaid : Prop := Claim7.holds Tryz.pinned (.plain (OpenSpec.upto canonicalOrderSpec)) canonicalOrderUptoCard

/-- THE SECOND FORM's CARD OF 'evergreenlaw25.CanonicalFull'. -/
def canonicalFullUptoCard : Claim7 := { stood := { row := canonicalFullUptoRow, standIns := [], harness := (true, "6e50a225e209f2ae990c6073ab2e17c0e24770994b7a6d006b0bd6af646f7499"), looks := true }, kinds := [], alts := [], laidByText := true, laidKinds := [.data], laidTests := true, laidLooks := .later }
def CanonicalFullUptoCardSaid : Prop := Claim7.holds Tryz.pinned (.plain (OpenSpec.upto canonicalFullSpec)) canonicalFullUptoCard

/-- THE SECOND FORM's CARD OF 'evergreenlaw25.CanonicalOf'. -/
def canonicalOfUptoCard : Claim7 := { stood := { row := canonicalOfUptoRow, standIns := [], harness := (true, "6e50a225e209f2ae990c6073ab2e17c0e24770994b7a6d006b0bd6af646f7499"), looks := true }, kinds := [], alts := [], laidByText := true, laidKinds := [.data], laidTests := true, laidLooks := .later }
def CanonicalOfUptoCardSaid : Prop := Claim7.holds Tryz.pinned (.plain (OpenSpec.upto canonicalOfSpec)) canonicalOfUptoCard

/-- THE SECOND FORM's CARD OF 'evergreenlaw25.CanonicalShapes'. -/
def canonicalShapesUptoCard : Claim7 := { stood := { row := canonicalShapesUptoRow, standIns := [], harness := (true, "6e50a225e209f2ae990c6073ab2e17c0e24770994b7a6d006b0bd6af646f7499"), looks := true }, kinds := [], alts := [], laidByText := true, laidKinds := [.data], laidTests := true, laidLooks := .later }
def CanonicalShapesUptoCardSaid : Prop := Claim7.holds Tryz.pinned (.plain (OpenSpec.upto canonicalShapesSpec)) canonicalShapesUptoCard

/-- THE SECOND FORM's CARD OF 'evergreenlaw25.CanonicalClasses'. -/
def canonicalClassesUptoCard : Claim7 := { stood := { row := canonicalClassesUptoRow, standIns := [], harness := (true, "6e50a225e209f2ae990c6073ab2e17c0e24770994b7a6d006b0bd6af646f7499"), looks := true }, kinds := [], alts := [], laidByText := true, laidKinds := [.data], laidTests := true, laidLooks := .later }
def CanonicalClassesUptoCardSaid : Prop := Claim7.holds Tryz.pinned (.plain (OpenSpec.upto canonicalClassesSpec)) canonicalClassesUptoCard

/-- THE SECOND FORM's CARD OF 'evergreenlaw41.DeltaWhole'. -/
def deltaWholeUptoCard : Claim7 := { stood := { row := deltaWholeUptoRow, standIns := [], harness := (true, "6e50a225e209f2ae990c6073ab2e17c0e24770994b7a6d006b0bd6af646f7499"), looks := true }, kinds := [], alts := [], laidByText := true, laidKinds := [.data], laidTests := true, laidLooks := .later }
def DeltaWholeUptoCardSaid : Prop := Claim7.holds Tryz.pinned (.plain (OpenSpec.upto deltaWholeSpec)) deltaWholeUptoCard

/-- THE SECOND FORM's CARD OF 'evergreenlaw41.DeltaErrors'. -/
def deltaErrorsUptoCard : Claim7 := { stood := { row := deltaErrorsUptoRow, standIns := [], harness := (true, "6e50a225e209f2ae990c6073ab2e17c0e24770994b7a6d006b0bd6af646f7499"), looks := true }, kinds := [], alts := [], laidByText := true, laidKinds := [.data], laidTests := true, laidLooks := .later }
def DeltaErrorsUptoCardSaid : Prop := Claim7.holds Tryz.pinned (.plain (OpenSpec.upto deltaErrorsSpec)) deltaErrorsUptoCard
end Rows
end Go.Proofs.YtgnppnokkdghcaaGreatDoor
