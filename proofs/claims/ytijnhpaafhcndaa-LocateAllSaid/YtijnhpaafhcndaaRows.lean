/-
  No cell of these rows narrows 'for every input' (looked for: loops, veiled, ifaces, maps, wideKeys, modest, calm, conditions, laid).
  DERIVED. THE GIVEN ROWS OF THIS SEAT. 6 by the template 'for every input the law returns true; each argument reads behind the call as it read before'; 0 by the template 'total and deterministic' (their statements: YtijnhpaafhcndaaTotals.lean).
  GIVEN WITH THE SEED: the statements are not yours to turn. If you find one false, say at which input.
  Laid BY PROGRAM, IN A SANDBOX (cutbox-rows.mjs): the forced cells as the released guide's own fill.sh prints them over the translation a713fd65328b4646… (all of the seat's roots in one cut). By AI agents, Wed Nov 11 2026. No macro, syntax, notation, axiom, sorry.
-/
import Derived.Test.YtijnhpaafhcndaaChecked
import GoSem.Claim
import GoSem.ClaimJoined
import GoSem.ClaimMapViews
import Derived.JoinedTies
import Derived.KernelRfl
namespace Go.Proofs.Ytijnhpaafhcndaa
/- THE CELL 'sum', in the pinned program and in every row, IS THE sha256 OF THE DUMP (.gsa) THAT YtijnhpaafhcndaaProg.lean LOADS. Nothing in Lean hashes anything: it is a label: what it is worth is what the hold of that sum in a sandbox is worth. -/
noncomputable def Try.pinned : Pinned := { name := "ytijnhpaafhcndaa", sum := "a713fd65328b4646473a7f4be59f190dcd0176be2a26730bffee03e092460b8f", checked := Try.checked }
namespace Rows
def none {H : Type} : Left H := { results := [], args := [] }

/-- 'evergreenlaw34.LocateCounts': WHATEVER THE INPUT: true; the input reads as it did. -/
def locateCountsSpec : ChangeSpec := { name := "locateCounts", fn := fun _ => fun
  | [d1, d2, d3] => { results := [.lit (.bool true)], args := [d1, d2, d3] }
  | _ => none }
def locateCountsRow : OpenClaim := { program := "ytijnhpaafhcndaa", sum := "a713fd65328b4646473a7f4be59f190dcd0176be2a26730bffee03e092460b8f", func := "evergreen/evergreenlaw34.LocateCounts", spec := "locateCounts", recurses := true, plainKeys := false, apart := false }
def LocateCountsSaid : Prop := locateCountsRow.holds Try.pinned (OpenSpec.ofChange locateCountsSpec)

/-- ITS FALSE NEIGHBOUR: 'it returns false'. Refute it at one input. -/
def locateCountsWrong : ChangeSpec := { name := "locateCounts", fn := fun _ => fun
  | [d1, d2, d3] => { results := [.lit (.bool false)], args := [d1, d2, d3] }
  | _ => none }
def LocateCountsWrongFalsely : Prop := locateCountsRow.holds Try.pinned (OpenSpec.ofChange locateCountsWrong)

/-- 'evergreenlaw34.LocateAdds': WHATEVER THE INPUT: true; the input reads as it did. -/
def locateAddsSpec : ChangeSpec := { name := "locateAdds", fn := fun _ => fun
  | [d1, d2, d3] => { results := [.lit (.bool true)], args := [d1, d2, d3] }
  | _ => none }
def locateAddsRow : OpenClaim := { program := "ytijnhpaafhcndaa", sum := "a713fd65328b4646473a7f4be59f190dcd0176be2a26730bffee03e092460b8f", func := "evergreen/evergreenlaw34.LocateAdds", spec := "locateAdds", plainKeys := false, apart := false }
def LocateAddsSaid : Prop := locateAddsRow.holds Try.pinned (OpenSpec.ofChange locateAddsSpec)

/-- ITS FALSE NEIGHBOUR: 'it returns false'. Refute it at one input. -/
def locateAddsWrong : ChangeSpec := { name := "locateAdds", fn := fun _ => fun
  | [d1, d2, d3] => { results := [.lit (.bool false)], args := [d1, d2, d3] }
  | _ => none }
def LocateAddsWrongFalsely : Prop := locateAddsRow.holds Try.pinned (OpenSpec.ofChange locateAddsWrong)

/-- 'evergreenlaw34.LocateAll': WHATEVER THE INPUT: true; the input reads as it did. -/
def locateAllSpec : ChangeSpec := { name := "locateAll", fn := fun _ => fun
  | [d1, d2] => { results := [.lit (.bool true)], args := [d1, d2] }
  | _ => none }
def locateAllRow : OpenClaim := { program := "ytijnhpaafhcndaa", sum := "a713fd65328b4646473a7f4be59f190dcd0176be2a26730bffee03e092460b8f", func := "evergreen/evergreenlaw34.LocateAll", spec := "locateAll", unfollowed := true, recurses := true, plainKeys := false, apart := false }
def LocateAllSaid : Prop := locateAllRow.holds Try.pinned (OpenSpec.ofChange locateAllSpec)

/-- ITS FALSE NEIGHBOUR: 'it returns false'. Refute it at one input. -/
def locateAllWrong : ChangeSpec := { name := "locateAll", fn := fun _ => fun
  | [d1, d2] => { results := [.lit (.bool false)], args := [d1, d2] }
  | _ => none }
def LocateAllWrongFalsely : Prop := locateAllRow.holds Try.pinned (OpenSpec.ofChange locateAllWrong)

/-- 'evergreenlaw34.LocateNeighbors': WHATEVER THE INPUT: true; the input reads as it did. -/
def locateNeighborsSpec : ChangeSpec := { name := "locateNeighbors", fn := fun _ => fun
  | [d1, d2] => { results := [.lit (.bool true)], args := [d1, d2] }
  | _ => none }
def locateNeighborsRow : OpenClaim := { program := "ytijnhpaafhcndaa", sum := "a713fd65328b4646473a7f4be59f190dcd0176be2a26730bffee03e092460b8f", func := "evergreen/evergreenlaw34.LocateNeighbors", spec := "locateNeighbors", recurses := true, plainKeys := false, apart := false }
def LocateNeighborsSaid : Prop := locateNeighborsRow.holds Try.pinned (OpenSpec.ofChange locateNeighborsSpec)

/-- ITS FALSE NEIGHBOUR: 'it returns false'. Refute it at one input. -/
def locateNeighborsWrong : ChangeSpec := { name := "locateNeighbors", fn := fun _ => fun
  | [d1, d2] => { results := [.lit (.bool false)], args := [d1, d2] }
  | _ => none }
def LocateNeighborsWrongFalsely : Prop := locateNeighborsRow.holds Try.pinned (OpenSpec.ofChange locateNeighborsWrong)

/-- 'evergreenlaw34.LocateSteps': WHATEVER THE INPUT: true; the input reads as it did. -/
def locateStepsSpec : ChangeSpec := { name := "locateSteps", fn := fun _ => fun
  | [d1, d2] => { results := [.lit (.bool true)], args := [d1, d2] }
  | _ => none }
def locateStepsRow : OpenClaim := { program := "ytijnhpaafhcndaa", sum := "a713fd65328b4646473a7f4be59f190dcd0176be2a26730bffee03e092460b8f", func := "evergreen/evergreenlaw34.LocateSteps", spec := "locateSteps", unfollowed := true, recurses := true, plainKeys := false, apart := false }
def LocateStepsSaid : Prop := locateStepsRow.holds Try.pinned (OpenSpec.ofChange locateStepsSpec)

/-- ITS FALSE NEIGHBOUR: 'it returns false'. Refute it at one input. -/
def locateStepsWrong : ChangeSpec := { name := "locateSteps", fn := fun _ => fun
  | [d1, d2] => { results := [.lit (.bool false)], args := [d1, d2] }
  | _ => none }
def LocateStepsWrongFalsely : Prop := locateStepsRow.holds Try.pinned (OpenSpec.ofChange locateStepsWrong)

/-- 'evergreenlaw34.LocateAgrees': WHATEVER THE INPUT: true; the input reads as it did. -/
def locateAgreesSpec : ChangeSpec := { name := "locateAgrees", fn := fun _ => fun
  | [d1, d2] => { results := [.lit (.bool true)], args := [d1, d2] }
  | _ => none }
def locateAgreesRow : OpenClaim := { program := "ytijnhpaafhcndaa", sum := "a713fd65328b4646473a7f4be59f190dcd0176be2a26730bffee03e092460b8f", func := "evergreen/evergreenlaw34.LocateAgrees", spec := "locateAgrees", inPlace := ["internal/reflectlite.TypeOf"], unfollowed := true, recurses := true, plainKeys := false, apart := false }
def LocateAgreesSaid : Prop := locateAgreesRow.holds Try.pinned (OpenSpec.ofChange locateAgreesSpec)

/-- ITS FALSE NEIGHBOUR: 'it returns false'. Refute it at one input. -/
def locateAgreesWrong : ChangeSpec := { name := "locateAgrees", fn := fun _ => fun
  | [d1, d2] => { results := [.lit (.bool false)], args := [d1, d2] }
  | _ => none }
def LocateAgreesWrongFalsely : Prop := locateAgreesRow.holds Try.pinned (OpenSpec.ofChange locateAgreesWrong)

/- THE SECOND FORM. 'bulk': how many values and letters a reading holds, each counted each time it is reached (what is shared counts as often as it is met; a slice's spare places count too). A statement '..UptoSaid' is the law's where the arguments, and the package variables that the reading takes, are together of bulk at most 1048576: NARROWER than '..Said'. Prove '..Said' where nothing that the law and all that it calls make is longer than what came in: it says more and counts as full. Else prove '..UptoSaid'. A law counts once. -/
mutual
def uptoBulk {H : Type} : DataW H → Nat
  | .lit (.string bytes) => bytes.length + 1
  | .lit _ => 1
  | .nil => 1
  | .ptr d => uptoBulk d + 1
  | .slice elems spare => uptoBulkAll elems + uptoBulkAll spare + 1
  | .agg parts => uptoBulkAll parts + 1
  | .iface _ d => uptoBulk d + 1
  | .map entries => uptoBulkEntries entries + 1
  | .held _ => 1
def uptoBulkAll {H : Type} : List (DataW H) → Nat
  | [] => 0
  | d :: r => uptoBulk d + uptoBulkAll r
def uptoBulkEntries {H : Type} : List (Lit × DataW H) → Nat
  | [] => 0
  | x :: r => uptoBulkEntry x + uptoBulkEntries r
def uptoBulkEntry {H : Type} : Lit × DataW H → Nat
  | (.string bytes, d) => bytes.length + uptoBulk d + 1
  | (_, d) => uptoBulk d + 1
 end
def uptoSmall : (H : Type) → List (DataW H) → Bool := fun _ ds => decide (uptoBulkAll ds ≤ 1048576)
def OpenSpec.upto (s : _root_.Go.ChangeSpec) : _root_.Go.OpenSpec := { _root_.Go.OpenSpec.ofChange s with cond := some uptoSmall }

/-- 'evergreenlaw34.LocateCounts', WHERE WHAT IT READS IS OF BULK AT MOST 1048576: true; the input reads as it did. -/
def locateCountsUptoRow : OpenClaim := { program := "ytijnhpaafhcndaa", sum := "a713fd65328b4646473a7f4be59f190dcd0176be2a26730bffee03e092460b8f", func := "evergreen/evergreenlaw34.LocateCounts", spec := "locateCounts", recurses := true, plainKeys := false, apart := false, narrowed := true }
def LocateCountsUptoSaid : Prop := locateCountsUptoRow.holds Try.pinned (OpenSpec.upto locateCountsSpec)

/-- 'evergreenlaw34.LocateAdds', WHERE WHAT IT READS IS OF BULK AT MOST 1048576: true; the input reads as it did. -/
def locateAddsUptoRow : OpenClaim := { program := "ytijnhpaafhcndaa", sum := "a713fd65328b4646473a7f4be59f190dcd0176be2a26730bffee03e092460b8f", func := "evergreen/evergreenlaw34.LocateAdds", spec := "locateAdds", plainKeys := false, apart := false, narrowed := true }
def LocateAddsUptoSaid : Prop := locateAddsUptoRow.holds Try.pinned (OpenSpec.upto locateAddsSpec)

/-- 'evergreenlaw34.LocateAll', WHERE WHAT IT READS IS OF BULK AT MOST 1048576: true; the input reads as it did. -/
def locateAllUptoRow : OpenClaim := { program := "ytijnhpaafhcndaa", sum := "a713fd65328b4646473a7f4be59f190dcd0176be2a26730bffee03e092460b8f", func := "evergreen/evergreenlaw34.LocateAll", spec := "locateAll", unfollowed := true, recurses := true, plainKeys := false, apart := false, narrowed := true }
def LocateAllUptoSaid : Prop := locateAllUptoRow.holds Try.pinned (OpenSpec.upto locateAllSpec)

/-- 'evergreenlaw34.LocateNeighbors', WHERE WHAT IT READS IS OF BULK AT MOST 1048576: true; the input reads as it did. -/
def locateNeighborsUptoRow : OpenClaim := { program := "ytijnhpaafhcndaa", sum := "a713fd65328b4646473a7f4be59f190dcd0176be2a26730bffee03e092460b8f", func := "evergreen/evergreenlaw34.LocateNeighbors", spec := "locateNeighbors", recurses := true, plainKeys := false, apart := false, narrowed := true }
def LocateNeighborsUptoSaid : Prop := locateNeighborsUptoRow.holds Try.pinned (OpenSpec.upto locateNeighborsSpec)

/-- 'evergreenlaw34.LocateSteps', WHERE WHAT IT READS IS OF BULK AT MOST 1048576: true; the input reads as it did. -/
def locateStepsUptoRow : OpenClaim := { program := "ytijnhpaafhcndaa", sum := "a713fd65328b4646473a7f4be59f190dcd0176be2a26730bffee03e092460b8f", func := "evergreen/evergreenlaw34.LocateSteps", spec := "locateSteps", unfollowed := true, recurses := true, plainKeys := false, apart := false, narrowed := true }
def LocateStepsUptoSaid : Prop := locateStepsUptoRow.holds Try.pinned (OpenSpec.upto locateStepsSpec)

/-- 'evergreenlaw34.LocateAgrees', WHERE WHAT IT READS IS OF BULK AT MOST 1048576: true; the input reads as it did. -/
def locateAgreesUptoRow : OpenClaim := { program := "ytijnhpaafhcndaa", sum := "a713fd65328b4646473a7f4be59f190dcd0176be2a26730bffee03e092460b8f", func := "evergreen/evergreenlaw34.LocateAgrees", spec := "locateAgrees", inPlace := ["internal/reflectlite.TypeOf"], unfollowed := true, recurses := true, plainKeys := false, apart := false, narrowed := true }
def LocateAgreesUptoSaid : Prop := locateAgreesUptoRow.holds Try.pinned (OpenSpec.upto locateAgreesSpec)

end Rows
end Go.Proofs.Ytijnhpaafhcndaa
