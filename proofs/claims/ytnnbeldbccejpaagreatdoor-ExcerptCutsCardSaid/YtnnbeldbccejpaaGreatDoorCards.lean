/-
  DERIVED. GIVEN WITH THE SEED: THE CARDS: each row of YtnnbeldbccejpaaGreatDoorRows.lean that lists a variable, with what it lists TIED to the program's text (the seventh form; the later family's looks); each row that meets fmt, with fmt's text TOLD by the authors' own Lean function (tested against real Go, not proved from fmt's source: count such statements apart). THE CARD IS WHAT COUNTS. Prove the row's statement (the work); the ties are given (YtnnbeldbccejpaaGreatDoorTie.lean); close each card by the builder's one call (the guide's Derived/Test/ToyasCard.lean, 'card_holds'). Laid BY PROGRAM, IN A SANDBOX (cutbox-door.mjs). By AI agents, Wed Nov 11 2026. No macro, syntax, notation, axiom, sorry.
-/
import Derived.Test.YtnnbeldbccejpaaGreatDoorRows
import GoSem.ClaimSeven
namespace Go.Proofs.YtnnbeldbccejpaaGreatDoor
namespace Rows

/-- THE TIED CARD OF 'evergreenlaw24.ExcerptSections'. -/
def excerptSectionsCard : Claim7 := { stood := { row := excerptSectionsRow, standIns := [], harness := (true, "8dc37b1e0219d412a8dd9a2919d06126e03b70f6032098edfd9f6ea9ebf7f350"), looks := true }, kinds := [], alts := [], laidByText := true, laidKinds := [.data], laidTests := true, laidLooks := .later }
def ExcerptSectionsCardSaid : Prop := Claim7.holds Tryz.pinned (.plain (OpenSpec.ofChange excerptSectionsSpec)) excerptSectionsCard

/-- THE TIED CARD OF 'evergreenlaw24.ExcerptRemoves'. -/
def excerptRemovesCard : Claim7 := { stood := { row := excerptRemovesRow, standIns := [], harness := (true, "8dc37b1e0219d412a8dd9a2919d06126e03b70f6032098edfd9f6ea9ebf7f350"), looks := true }, kinds := [], alts := [], laidByText := true, laidKinds := [.data], laidTests := true, laidLooks := .later }
def ExcerptRemovesCardSaid : Prop := Claim7.holds Tryz.pinned (.plain (OpenSpec.ofChange excerptRemovesSpec)) excerptRemovesCard

/-- THE TIED CARD OF 'evergreenlaw24.ExcerptInserts'. -/
def excerptInsertsCard : Claim7 := { stood := { row := excerptInsertsRow, standIns := [], harness := (true, "8dc37b1e0219d412a8dd9a2919d06126e03b70f6032098edfd9f6ea9ebf7f350"), looks := true }, kinds := [], alts := [], laidByText := true, laidKinds := [.data], laidTests := true, laidLooks := .later }
def ExcerptInsertsCardSaid : Prop := Claim7.holds Tryz.pinned (.plain (OpenSpec.ofChange excerptInsertsSpec)) excerptInsertsCard

/-- THE TIED CARD OF 'evergreenlaw24.ExcerptCuts'. -/
def excerptCutsCard : Claim7 := { stood := { row := excerptCutsRow, standIns := [], harness := (true, "8dc37b1e0219d412a8dd9a2919d06126e03b70f6032098edfd9f6ea9ebf7f350"), looks := true }, kinds := [], alts := [], laidByText := true, laidKinds := [.data], laidTests := true, laidLooks := .later }
def ExcerptCutsCardSaid : Prop := Claim7.holds Tryz.pinned (.plain (OpenSpec.ofChange excerptCutsSpec)) excerptCutsCard

/-- THE TIED CARD OF 'evergreenlaw24.ExcerptErrors'. -/
def excerptErrorsCard : Claim7 := { stood := { row := excerptErrorsRow, standIns := [], harness := (true, "8dc37b1e0219d412a8dd9a2919d06126e03b70f6032098edfd9f6ea9ebf7f350"), looks := true }, kinds := [], alts := [], laidByText := true, laidKinds := [.data], laidTests := true, laidLooks := .later }
def ExcerptErrorsCardSaid : Prop := Claim7.holds Tryz.pinned (.plain (OpenSpec.ofChange excerptErrorsSpec)) excerptErrorsCard

/-- THE SECOND FORM's CARD OF 'evergreenlaw24.ExcerptSections'. -/
def excerptSectionsUptoCard : Claim7 := { stood := { row := excerptSectionsUptoRow, standIns := [], harness := (true, "8dc37b1e0219d412a8dd9a2919d06126e03b70f6032098edfd9f6ea9ebf7f350"), looks := true }, kinds := [], alts := [], laidByText := true, laidKinds := [.data], laidTests := true, laidLooks := .later }
def ExcerptSectionsUptoCardSaid : Prop := Claim7.holds Tryz.pinned (.plain (OpenSpec.upto excerptSectionsSpec)) excerptSectionsUptoCard

/-- THE SECOND FORM's CARD OF 'evergreenlaw24.ExcerptRemoves'. -/
def excerptRemovesUptoCard : Claim7 := { stood := { row := excerptRemovesUptoRow, standIns := [], harness := (true, "8dc37b1e0219d412a8dd9a2919d06126e03b70f6032098edfd9f6ea9ebf7f350"), looks := true }, kinds := [], alts := [], laidByText := true, laidKinds := [.data], laidTests := true, laidLooks := .later }
def ExcerptRemovesUptoCardSaid : Prop := Claim7.holds Tryz.pinned (.plain (OpenSpec.upto excerptRemovesSpec)) excerptRemovesUptoCard

/-- THE SECOND FORM's CARD OF 'evergreenlaw24.ExcerptInserts'. -/
def excerptInsertsUptoCard : Claim7 := { stood := { row := excerptInsertsUptoRow, standIns := [], harness := (true, "8dc37b1e0219d412a8dd9a2919d06126e03b70f6032098edfd9f6ea9ebf7f350"), looks := true }, kinds := [], alts := [], laidByText := true, laidKinds := [.data], laidTests := true, laidLooks := .later }
def ExcerptInsertsUptoCardSaid : Prop := Claim7.holds Tryz.pinned (.plain (OpenSpec.upto excerptInsertsSpec)) excerptInsertsUptoCard

/-- THE SECOND FORM's CARD OF 'evergreenlaw24.ExcerptCuts'. -/
def excerptCutsUptoCard : Claim7 := { stood := { row := excerptCutsUptoRow, standIns := [], harness := (true, "8dc37b1e0219d412a8dd9a2919d06126e03b70f6032098edfd9f6ea9ebf7f350"), looks := true }, kinds := [], alts := [], laidByText := true, laidKinds := [.data], laidTests := true, laidLooks := .later }
def ExcerptCutsUptoCardSaid : Prop := Claim7.holds Tryz.pinned (.plain (OpenSpec.upto excerptCutsSpec)) excerptCutsUptoCard

/-- THE SECOND FORM's CARD OF 'evergreenlaw24.ExcerptErrors'. -/
def excerptErrorsUptoCard : Claim7 := { stood := { row := excerptErrorsUptoRow, standIns := [], harness := (true, "8dc37b1e0219d412a8dd9a2919d06126e03b70f6032098edfd9f6ea9ebf7f350"), looks := true }, kinds := [], alts := [], laidByText := true, laidKinds := [.data], laidTests := true, laidLooks := .later }
def ExcerptErrorsUptoCardSaid : Prop := Claim7.holds Tryz.pinned (.plain (OpenSpec.upto excerptErrorsSpec)) excerptErrorsUptoCard
end Rows
end Go.Proofs.YtnnbeldbccejpaaGreatDoor
