/-
  DERIVED. GIVEN WITH THE SEED: THE CARDS: each row of YtaagfmpolcpimaaDoorRows.lean that lists a variable, with what it lists TIED to the program's text (the seventh form; the later family's looks); each row that meets fmt, with fmt's text TOLD by the authors' own Lean function (tested against real Go, not proved from fmt's source: count such statements apart). THE CARD IS WHAT COUNTS. Prove the row's statement (the work); the ties are given (YtaagfmpolcpimaaDoorTie.lean); close each card by the builder's one call (the guide's Derived/Test/ToyasCard.lean, 'card_holds'). Laid BY PROGRAM, IN A SANDBOX (cutbox-door.mjs). By AI agents, Wed Nov 11 2026. No macro, syntax, notation, axiom, sorry.
-/
import Derived.Test.YtaagfmpolcpimaaDoorRows
import GoSem.ClaimSeven
namespace Go.Proofs.YtaagfmpolcpimaaDoor
namespace Rows

/-- THE TIED CARD OF 'evergreenlaw02.LettersetAtoms'. -/
def lettersetAtomsCard : Claim7 := { stood := { row := lettersetAtomsRow, standIns := [], harness := (true, "8897fa5bb3463a3422ee709a3d3927253ff3218f67797ef6137270fa2fd9e907"), looks := false }, kinds := [], alts := [], laidByText := true, laidKinds := [.data], laidTests := true, laidLooks := .later }
def LettersetAtomsCardSaid : Prop := Claim7.holds Tryd.pinned (.plain (OpenSpec.ofChange lettersetAtomsSpec)) lettersetAtomsCard

/-- THE TIED CARD OF 'evergreenlaw02.LettersetParts'. -/
def lettersetPartsCard : Claim7 := { stood := { row := lettersetPartsRow, standIns := [], harness := (true, "8897fa5bb3463a3422ee709a3d3927253ff3218f67797ef6137270fa2fd9e907"), looks := false }, kinds := [], alts := [], laidByText := true, laidKinds := [.data], laidTests := true, laidLooks := .later }
def LettersetPartsCardSaid : Prop := Claim7.holds Tryd.pinned (.plain (OpenSpec.ofChange lettersetPartsSpec)) lettersetPartsCard

/-- THE SECOND FORM's CARD OF 'evergreenlaw02.LettersetAtoms'. -/
def lettersetAtomsUptoCard : Claim7 := { stood := { row := lettersetAtomsUptoRow, standIns := [], harness := (true, "8897fa5bb3463a3422ee709a3d3927253ff3218f67797ef6137270fa2fd9e907"), looks := false }, kinds := [], alts := [], laidByText := true, laidKinds := [.data], laidTests := true, laidLooks := .later }
def LettersetAtomsUptoCardSaid : Prop := Claim7.holds Tryd.pinned (.plain (OpenSpec.upto lettersetAtomsSpec)) lettersetAtomsUptoCard

/-- THE SECOND FORM's CARD OF 'evergreenlaw02.LettersetParts'. -/
def lettersetPartsUptoCard : Claim7 := { stood := { row := lettersetPartsUptoRow, standIns := [], harness := (true, "8897fa5bb3463a3422ee709a3d3927253ff3218f67797ef6137270fa2fd9e907"), looks := false }, kinds := [], alts := [], laidByText := true, laidKinds := [.data], laidTests := true, laidLooks := .later }
def LettersetPartsUptoCardSaid : Prop := Claim7.holds Tryd.pinned (.plain (OpenSpec.upto lettersetPartsSpec)) lettersetPartsUptoCard
end Rows
end Go.Proofs.YtaagfmpolcpimaaDoor
