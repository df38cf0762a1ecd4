/-
  DERIVED. GIVEN WITH THE SEED: THE CARDS: each row of YtminpdngkjlehaaDoorRows.lean that lists a variable, with what it lists TIED to the program's text (the seventh form; the later family's looks); each row that meets fmt, with fmt's text TOLD by the authors' own Lean function (tested against real Go, not proved from fmt's source: count such statements apart). THE CARD IS WHAT COUNTS. Prove the row's statement (the work); the ties are given (YtminpdngkjlehaaDoorTie.lean); close each card by the builder's one call (the guide's Derived/Test/ToyasCard.lean, 'card_holds'). Laid BY PROGRAM, IN A SANDBOX (cutbox-door.mjs). By AI agents, Wed Nov 11 2026. No macro, syntax, notation, axiom, sorry.
-/
import Derived.Test.YtminpdngkjlehaaDoorRows
import GoSem.ClaimSeven
namespace Go.Proofs.YtminpdngkjlehaaDoor
namespace Rows

/-- THE TIED CARD OF 'evergreenlaw31.CompilePattern'. -/
def compilePatternCard : Claim7 := { stood := { row := compilePatternRow, standIns := [], harness := (true, "8a4c91440e978d8b2581034d835acd49ab2bb084da284671d791dd2841488053"), looks := true }, kinds := [], alts := [], laidByText := true, laidKinds := [.data], laidTests := true, laidLooks := .later }
def CompilePatternCardSaid : Prop := Claim7.holds Tryd.pinned (.plain (OpenSpec.ofChange compilePatternSpec)) compilePatternCard

/-- THE TIED CARD OF 'evergreenlaw31.CompileCanonical'. -/
def compileCanonicalCard : Claim7 := { stood := { row := compileCanonicalRow, standIns := [], harness := (true, "8a4c91440e978d8b2581034d835acd49ab2bb084da284671d791dd2841488053"), looks := true }, kinds := [], alts := [], laidByText := true, laidKinds := [.data], laidTests := true, laidLooks := .later }
def CompileCanonicalCardSaid : Prop := Claim7.holds Tryd.pinned (.plain (OpenSpec.ofChange compileCanonicalSpec)) compileCanonicalCard

/-- THE TIED CARD OF 'evergreenlaw31.CompileAlgebra'. -/
def compileAlgebraCard : Claim7 := { stood := { row := compileAlgebraRow, standIns := [], harness := (true, "8a4c91440e978d8b2581034d835acd49ab2bb084da284671d791dd2841488053"), looks := true }, kinds := [], alts := [], laidByText := true, laidKinds := [.data], laidTests := true, laidLooks := .later }
def CompileAlgebraCardSaid : Prop := Claim7.holds Tryd.pinned (.plain (OpenSpec.ofChange compileAlgebraSpec)) compileAlgebraCard

/-- THE SECOND FORM's CARD OF 'evergreenlaw31.CompilePattern'. -/
def compilePatternUptoCard : Claim7 := { stood := { row := compilePatternUptoRow, standIns := [], harness := (true, "8a4c91440e978d8b2581034d835acd49ab2bb084da284671d791dd2841488053"), looks := true }, kinds := [], alts := [], laidByText := true, laidKinds := [.data], laidTests := true, laidLooks := .later }
def CompilePatternUptoCardSaid : Prop := Claim7.holds Tryd.pinned (.plain (OpenSpec.upto compilePatternSpec)) compilePatternUptoCard

/-- THE SECOND FORM's CARD OF 'evergreenlaw31.CompileCanonical'. -/
def compileCanonicalUptoCard : Claim7 := { stood := { row := compileCanonicalUptoRow, standIns := [], harness := (true, "8a4c91440e978d8b2581034d835acd49ab2bb084da284671d791dd2841488053"), looks := true }, kinds := [], alts := [], laidByText := true, laidKinds := [.data], laidTests := true, laidLooks := .later }
def CompileCanonicalUptoCardSaid : Prop := Claim7.holds Tryd.pinned (.plain (OpenSpec.upto compileCanonicalSpec)) compileCanonicalUptoCard

/-- THE SECOND FORM's CARD OF 'evergreenlaw31.CompileAlgebra'. -/
def compileAlgebraUptoCard : Claim7 := { stood := { row := compileAlgebraUptoRow, standIns := [], harness := (true, "8a4c91440e978d8b2581034d835acd49ab2bb084da284671d791dd2841488053"), looks := true }, kinds := [], alts := [], laidByText := true, laidKinds := [.data], laidTests := true, laidLooks := .later }
def CompileAlgebraUptoCardSaid : Prop := Claim7.holds Tryd.pinned (.plain (OpenSpec.upto compileAlgebraSpec)) compileAlgebraUptoCard
end Rows
end Go.Proofs.YtminpdngkjlehaaDoor
