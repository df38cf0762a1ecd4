/-
  DERIVED. GIVEN WITH THE SEED: THE CARDS: each row of YtnnbeldbccejpaaDoorRows.lean that lists a variable, with what it lists TIED to the program's text (the seventh form; the later family's looks); each row that meets fmt, with fmt's text TOLD by the authors' own Lean function (tested against real Go, not proved from fmt's source: count such statements apart). THE CARD IS WHAT COUNTS. Prove the row's statement (the work); the ties are given (YtnnbeldbccejpaaDoorTie.lean); close each card by the builder's one call (the guide's Derived/Test/ToyasCard.lean, 'card_holds'). Laid BY PROGRAM, IN A SANDBOX (cutbox-door.mjs). By AI agents, Wed Nov 11 2026. No macro, syntax, notation, axiom, sorry.
-/
import Derived.Test.YtnnbeldbccejpaaDoorRows
import GoSem.ClaimSeven
namespace Go.Proofs.YtnnbeldbccejpaaDoor
namespace Rows

/-- THE TIED CARD OF 'evergreenlaw24.ExcerptSplits'. -/
def excerptSplitsCard : Claim7 := { stood := { row := excerptSplitsRow, standIns := [], harness := (true, "a0da9aa754fb159ce19b34f08e5c53152218b970b401c144f24b18a2d51b1ad8"), looks := true }, kinds := [], alts := [], laidByText := true, laidKinds := [.data], laidTests := true, laidLooks := .later }
def ExcerptSplitsCardSaid : Prop := Claim7.holds Tryd.pinned (.plain (OpenSpec.ofChange excerptSplitsSpec)) excerptSplitsCard

/-- THE SECOND FORM's CARD OF 'evergreenlaw24.ExcerptSplits'. -/
def excerptSplitsUptoCard : Claim7 := { stood := { row := excerptSplitsUptoRow, standIns := [], harness := (true, "a0da9aa754fb159ce19b34f08e5c53152218b970b401c144f24b18a2d51b1ad8"), looks := true }, kinds := [], alts := [], laidByText := true, laidKinds := [.data], laidTests := true, laidLooks := .later }
def ExcerptSplitsUptoCardSaid : Prop := Claim7.holds Tryd.pinned (.plain (OpenSpec.upto excerptSplitsSpec)) excerptSplitsUptoCard
end Rows
end Go.Proofs.YtnnbeldbccejpaaDoor
