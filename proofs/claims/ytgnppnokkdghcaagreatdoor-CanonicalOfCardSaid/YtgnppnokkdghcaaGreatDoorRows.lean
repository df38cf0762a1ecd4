/-
  NARROWER THAN 'FOR EVERY INPUT', by the rows' own cells (each row's printed sentence says how): DeltaApplies: laid · DeltaNormal: laid · DeltaComposes: laid · CanonicalOrder: laid · CanonicalFull: laid · CanonicalOf: laid · CanonicalShapes: laid · CanonicalClasses: laid · DeltaWhole: laid · DeltaErrors: laid.
  DERIVED. THE GIVEN ROWS OF THIS SEAT. 10 by the template 'for every input the law returns true; each argument reads behind the call as it read before'; 0 by the template 'total and deterministic' (their statements: YtgnppnokkdghcaaGreatDoorTotals.lean).
  GIVEN WITH THE SEED: the statements are not yours to turn. If you find one false, say at which input.
  Laid BY PROGRAM, IN A SANDBOX (cutbox-rows.mjs): the forced cells as the released guide's own fill.sh prints them over the translation 3a537f6d8f5bcdd4… (all of the seat's roots in one cut). By AI agents, Wed Nov 11 2026. No macro, syntax, notation, axiom, sorry.
-/
import Derived.Test.YtgnppnokkdghcaaGreatDoorChecked
import GoSem.Claim
import GoSem.ClaimJoined
import GoSem.ClaimMapViews
import Derived.JoinedTies
import Derived.KernelRfl
namespace Go.Proofs.YtgnppnokkdghcaaGreatDoor
/- THE CELL 'sum', in the pinned program and in every row, IS THE sha256 OF THE DUMP (.gsa) THAT YtgnppnokkdghcaaGreatDoorProg.lean LOADS. Nothing in Lean hashes anything: it is a label: what it is worth is what the hold of that sum in a sandbox is worth. -/
noncomputable def Tryz.pinned : Pinned := { name := "ytgnppnokkdghcaagreatdoor", sum := "3a537f6d8f5bcdd4aec895eccd3b4b6764347500d235244c0b19a89c6b39e47c", checked := Tryz.checked }
namespace Rows
def none {H : Type} : Left H := { results := [], args := [] }

/- WHAT THE LISTED PACKAGE-LEVEL VARIABLES READ AS WHEN THE CALL BEGINS. Each datum BY PROGRAM (the guide's laid-datum.mjs) off the statement by which the dump's own 'gosem.cut.vars' lays the variable. In a bare row this is a premise. The card (YtgnppnokkdghcaaGreatDoorCards.lean) ties it to the program's text. -/
def laid_math_bits_deBruijn64tab {H : Type} : DataW H := .agg [.lit (.int .u8 0), .lit (.int .u8 1), .lit (.int .u8 56), .lit (.int .u8 2), .lit (.int .u8 57), .lit (.int .u8 49), .lit (.int .u8 28), .lit (.int .u8 3), .lit (.int .u8 61), .lit (.int .u8 58), .lit (.int .u8 42), .lit (.int .u8 50), .lit (.int .u8 38), .lit (.int .u8 29), .lit (.int .u8 17), .lit (.int .u8 4), .lit (.int .u8 62), .lit (.int .u8 47), .lit (.int .u8 59), .lit (.int .u8 36), .lit (.int .u8 45), .lit (.int .u8 43), .lit (.int .u8 51), .lit (.int .u8 22), .lit (.int .u8 53), .lit (.int .u8 39), .lit (.int .u8 33), .lit (.int .u8 30), .lit (.int .u8 24), .lit (.int .u8 18), .lit (.int .u8 12), .lit (.int .u8 5), .lit (.int .u8 63), .lit (.int .u8 55), .lit (.int .u8 48), .lit (.int .u8 27), .lit (.int .u8 60), .lit (.int .u8 41), .lit (.int .u8 37), .lit (.int .u8 16), .lit (.int .u8 46), .lit (.int .u8 35), .lit (.int .u8 44), .lit (.int .u8 21), .lit (.int .u8 52), .lit (.int .u8 32), .lit (.int .u8 23), .lit (.int .u8 11), .lit (.int .u8 54), .lit (.int .u8 26), .lit (.int .u8 40), .lit (.int .u8 15), .lit (.int .u8 34), .lit (.int .u8 20), .lit (.int .u8 31), .lit (.int .u8 10), .lit (.int .u8 25), .lit (.int .u8 14), .lit (.int .u8 19), .lit (.int .u8 9), .lit (.int .u8 13), .lit (.int .u8 8), .lit (.int .u8 7), .lit (.int .u8 6)]

/-- 'evergreenlaw41.DeltaApplies': WHATEVER THE INPUT: true; the input reads as it did. -/
def deltaAppliesSpec : ChangeSpec := { name := "deltaApplies", fn := fun _ => fun
  | [d1, d2] => { results := [.lit (.bool true)], args := [d1, d2] }
  | _ => none }
def deltaAppliesRow : OpenClaim := { program := "ytgnppnokkdghcaagreatdoor", sum := "3a537f6d8f5bcdd4aec895eccd3b4b6764347500d235244c0b19a89c6b39e47c", func := "evergreen/evergreenlaw41.DeltaApplies", spec := "deltaApplies", inPlace := ["slices.overlaps[evergreen/seam.item]"], named := ["math/bits.deBruijn64tab"], plainKeys := false, apart := false, laid := [("math/bits.deBruijn64tab", laid_math_bits_deBruijn64tab)] }
def DeltaAppliesSaid : Prop := deltaAppliesRow.holds Tryz.pinned (OpenSpec.ofChange deltaAppliesSpec)

/-- ITS FALSE NEIGHBOUR: 'it returns false'. Refute it at one input. -/
def deltaAppliesWrong : ChangeSpec := { name := "deltaApplies", fn := fun _ => fun
  | [d1, d2] => { results := [.lit (.bool false)], args := [d1, d2] }
  | _ => none }
def DeltaAppliesWrongFalsely : Prop := deltaAppliesRow.holds Tryz.pinned (OpenSpec.ofChange deltaAppliesWrong)

/-- 'evergreenlaw41.DeltaNormal': WHATEVER THE INPUT: true; the input reads as it did. -/
def deltaNormalSpec : ChangeSpec := { name := "deltaNormal", fn := fun _ => fun
  | [d1, d2] => { results := [.lit (.bool true)], args := [d1, d2] }
  | _ => none }
def deltaNormalRow : OpenClaim := { program := "ytgnppnokkdghcaagreatdoor", sum := "3a537f6d8f5bcdd4aec895eccd3b4b6764347500d235244c0b19a89c6b39e47c", func := "evergreen/evergreenlaw41.DeltaNormal", spec := "deltaNormal", inPlace := ["slices.overlaps[evergreen/seam.item]"], named := ["math/bits.deBruijn64tab"], plainKeys := false, apart := false, laid := [("math/bits.deBruijn64tab", laid_math_bits_deBruijn64tab)] }
def DeltaNormalSaid : Prop := deltaNormalRow.holds Tryz.pinned (OpenSpec.ofChange deltaNormalSpec)

/-- ITS FALSE NEIGHBOUR: 'it returns false'. Refute it at one input. -/
def deltaNormalWrong : ChangeSpec := { name := "deltaNormal", fn := fun _ => fun
  | [d1, d2] => { results := [.lit (.bool false)], args := [d1, d2] }
  | _ => none }
def DeltaNormalWrongFalsely : Prop := deltaNormalRow.holds Tryz.pinned (OpenSpec.ofChange deltaNormalWrong)

/-- 'evergreenlaw41.DeltaComposes': WHATEVER THE INPUT: true; the input reads as it did. -/
def deltaComposesSpec : ChangeSpec := { name := "deltaComposes", fn := fun _ => fun
  | [d1, d2, d3] => { results := [.lit (.bool true)], args := [d1, d2, d3] }
  | _ => none }
def deltaComposesRow : OpenClaim := { program := "ytgnppnokkdghcaagreatdoor", sum := "3a537f6d8f5bcdd4aec895eccd3b4b6764347500d235244c0b19a89c6b39e47c", func := "evergreen/evergreenlaw41.DeltaComposes", spec := "deltaComposes", inPlace := ["slices.overlaps[evergreen/seam.item]"], unfollowed := true, recurses := true, named := ["math/bits.deBruijn64tab"], plainKeys := false, apart := false, laid := [("math/bits.deBruijn64tab", laid_math_bits_deBruijn64tab)] }
def DeltaComposesSaid : Prop := deltaComposesRow.holds Tryz.pinned (OpenSpec.ofChange deltaComposesSpec)

/-- ITS FALSE NEIGHBOUR: 'it returns false'. Refute it at one input. -/
def deltaComposesWrong : ChangeSpec := { name := "deltaComposes", fn := fun _ => fun
  | [d1, d2, d3] => { results := [.lit (.bool false)], args := [d1, d2, d3] }
  | _ => none }
def DeltaComposesWrongFalsely : Prop := deltaComposesRow.holds Tryz.pinned (OpenSpec.ofChange deltaComposesWrong)

/-- 'evergreenlaw25.CanonicalOrder': WHATEVER THE INPUT: true; the input reads as it did. -/
def canonicalOrderSpec : ChangeSpec := { name := "canonicalOrder", fn := fun _ => fun
  | [d1, d2] => { results := [.lit (.bool true)], args := [d1, d2] }
  | _ => none }
def canonicalOrderRow : OpenClaim := { program := "ytgnppnokkdghcaagreatdoor", sum := "3a537f6d8f5bcdd4aec895eccd3b4b6764347500d235244c0b19a89c6b39e47c", func := "evergreen/evergreenlaw25.CanonicalOrder", spec := "canonicalOrder", inPlace := ["slices.overlaps[evergreen/seam.item]"], unfollowed := true, recurses := true, named := ["math/bits.deBruijn64tab"], plainKeys := false, apart := false, laid := [("math/bits.deBruijn64tab", laid_math_bits_deBruijn64tab)] }
def CanonicalOrderSaid : Prop := canonicalOrderRow.holds Tryz.pinned (OpenSpec.ofChange canonicalOrderSpec)

/-- ITS FALSE NEIGHBOUR: 'it returns false'. Refute it at one input. -/
def canonicalOrderWrong : ChangeSpec := { name := "canonicalOrder", fn := fun _ => fun
  | [d1, d2] => { results := [.lit (.bool false)], args := [d1, d2] }
  | _ => none }
def CanonicalOrderWrongFalsely : Prop := canonicalOrderRow.holds Tryz.pinned (OpenSpec.ofChange canonicalOrderWrong)

/-- 'evergreenlaw25.CanonicalFull': WHATEVER THE INPUT: true; the input reads as it did. -/
def canonicalFullSpec : ChangeSpec := { name := "canonicalFull", fn := fun _ => fun
  | [d1, d2] => { results := [.lit (.bool true)], args := [d1, d2] }
  | _ => none }
def canonicalFullRow : OpenClaim := { program := "ytgnppnokkdghcaagreatdoor", sum := "3a537f6d8f5bcdd4aec895eccd3b4b6764347500d235244c0b19a89c6b39e47c", func := "evergreen/evergreenlaw25.CanonicalFull", spec := "canonicalFull", inPlace := ["slices.overlaps[evergreen/seam.item]"], unfollowed := true, recurses := true, named := ["math/bits.deBruijn64tab"], plainKeys := false, apart := false, laid := [("math/bits.deBruijn64tab", laid_math_bits_deBruijn64tab)] }
def CanonicalFullSaid : Prop := canonicalFullRow.holds Tryz.pinned (OpenSpec.ofChange canonicalFullSpec)

/-- ITS FALSE NEIGHBOUR: 'it returns false'. Refute it at one input. -/
def canonicalFullWrong : ChangeSpec := { name := "canonicalFull", fn := fun _ => fun
  | [d1, d2] => { results := [.lit (.bool false)], args := [d1, d2] }
  | _ => none }
def CanonicalFullWrongFalsely : Prop := canonicalFullRow.holds Tryz.pinned (OpenSpec.ofChange canonicalFullWrong)

/-- 'evergreenlaw25.CanonicalOf': WHATEVER THE INPUT: true; the input reads as it did. -/
def canonicalOfSpec : ChangeSpec := { name := "canonicalOf", fn := fun _ => fun
  | [d] => { results := [.lit (.bool true)], args := [d] }
  | _ => none }
def canonicalOfRow : OpenClaim := { program := "ytgnppnokkdghcaagreatdoor", sum := "3a537f6d8f5bcdd4aec895eccd3b4b6764347500d235244c0b19a89c6b39e47c", func := "evergreen/evergreenlaw25.CanonicalOf", spec := "canonicalOf", inPlace := ["slices.overlaps[evergreen/seam.item]"], unfollowed := true, recurses := true, named := ["math/bits.deBruijn64tab"], plainKeys := false, apart := false, laid := [("math/bits.deBruijn64tab", laid_math_bits_deBruijn64tab)] }
def CanonicalOfSaid : Prop := canonicalOfRow.holds Tryz.pinned (OpenSpec.ofChange canonicalOfSpec)

/-- ITS FALSE NEIGHBOUR: 'it returns false'. Refute it at one input. -/
def canonicalOfWrong : ChangeSpec := { name := "canonicalOf", fn := fun _ => fun
  | [d] => { results := [.lit (.bool false)], args := [d] }
  | _ => none }
def CanonicalOfWrongFalsely : Prop := canonicalOfRow.holds Tryz.pinned (OpenSpec.ofChange canonicalOfWrong)

/-- 'evergreenlaw25.CanonicalShapes': WHATEVER THE INPUT: true; the input reads as it did. -/
def canonicalShapesSpec : ChangeSpec := { name := "canonicalShapes", fn := fun _ => fun
  | [d1, d2] => { results := [.lit (.bool true)], args := [d1, d2] }
  | _ => none }
def canonicalShapesRow : OpenClaim := { program := "ytgnppnokkdghcaagreatdoor", sum := "3a537f6d8f5bcdd4aec895eccd3b4b6764347500d235244c0b19a89c6b39e47c", func := "evergreen/evergreenlaw25.CanonicalShapes", spec := "canonicalShapes", inPlace := ["slices.overlaps[evergreen/seam.item]"], unfollowed := true, recurses := true, named := ["math/bits.deBruijn64tab"], plainKeys := false, apart := false, laid := [("math/bits.deBruijn64tab", laid_math_bits_deBruijn64tab)] }
def CanonicalShapesSaid : Prop := canonicalShapesRow.holds Tryz.pinned (OpenSpec.ofChange canonicalShapesSpec)

/-- ITS FALSE NEIGHBOUR: 'it returns false'. Refute it at one input. -/
def canonicalShapesWrong : ChangeSpec := { name := "canonicalShapes", fn := fun _ => fun
  | [d1, d2] => { results := [.lit (.bool false)], args := [d1, d2] }
  | _ => none }
def CanonicalShapesWrongFalsely : Prop := canonicalShapesRow.holds Tryz.pinned (OpenSpec.ofChange canonicalShapesWrong)

/-- 'evergreenlaw25.CanonicalClasses': WHATEVER THE INPUT: true; the input reads as it did. -/
def canonicalClassesSpec : ChangeSpec := { name := "canonicalClasses", fn := fun _ => fun
  | [d1, d2, d3] => { results := [.lit (.bool true)], args := [d1, d2, d3] }
  | _ => none }
def canonicalClassesRow : OpenClaim := { program := "ytgnppnokkdghcaagreatdoor", sum := "3a537f6d8f5bcdd4aec895eccd3b4b6764347500d235244c0b19a89c6b39e47c", func := "evergreen/evergreenlaw25.CanonicalClasses", spec := "canonicalClasses", inPlace := ["slices.overlaps[evergreen/seam.item]"], unfollowed := true, recurses := true, named := ["math/bits.deBruijn64tab"], plainKeys := false, apart := false, laid := [("math/bits.deBruijn64tab", laid_math_bits_deBruijn64tab)] }
def CanonicalClassesSaid : Prop := canonicalClassesRow.holds Tryz.pinned (OpenSpec.ofChange canonicalClassesSpec)

/-- ITS FALSE NEIGHBOUR: 'it returns false'. Refute it at one input. -/
def canonicalClassesWrong : ChangeSpec := { name := "canonicalClasses", fn := fun _ => fun
  | [d1, d2, d3] => { results := [.lit (.bool false)], args := [d1, d2, d3] }
  | _ => none }
def CanonicalClassesWrongFalsely : Prop := canonicalClassesRow.holds Tryz.pinned (OpenSpec.ofChange canonicalClassesWrong)

/-- 'evergreenlaw41.DeltaWhole': WHATEVER THE INPUT: true; the input reads as it did. -/
def deltaWholeSpec : ChangeSpec := { name := "deltaWhole", fn := fun _ => fun
  | [d1, d2] => { results := [.lit (.bool true)], args := [d1, d2] }
  | _ => none }
def deltaWholeRow : OpenClaim := { program := "ytgnppnokkdghcaagreatdoor", sum := "3a537f6d8f5bcdd4aec895eccd3b4b6764347500d235244c0b19a89c6b39e47c", func := "evergreen/evergreenlaw41.DeltaWhole", spec := "deltaWhole", inPlace := ["slices.overlaps[evergreen/seam.item]"], unfollowed := true, recurses := true, named := ["math/bits.deBruijn64tab"], plainKeys := false, apart := false, laid := [("math/bits.deBruijn64tab", laid_math_bits_deBruijn64tab)] }
def DeltaWholeSaid : Prop := deltaWholeRow.holds Tryz.pinned (OpenSpec.ofChange deltaWholeSpec)

/-- ITS FALSE NEIGHBOUR: 'it returns false'. Refute it at one input. -/
def deltaWholeWrong : ChangeSpec := { name := "deltaWhole", fn := fun _ => fun
  | [d1, d2] => { results := [.lit (.bool false)], args := [d1, d2] }
  | _ => none }
def DeltaWholeWrongFalsely : Prop := deltaWholeRow.holds Tryz.pinned (OpenSpec.ofChange deltaWholeWrong)

/-- 'evergreenlaw41.DeltaErrors': WHATEVER THE INPUT: true; the input reads as it did. -/
def deltaErrorsSpec : ChangeSpec := { name := "deltaErrors", fn := fun _ => fun
  | [d1, d2] => { results := [.lit (.bool true)], args := [d1, d2] }
  | _ => none }
def deltaErrorsRow : OpenClaim := { program := "ytgnppnokkdghcaagreatdoor", sum := "3a537f6d8f5bcdd4aec895eccd3b4b6764347500d235244c0b19a89c6b39e47c", func := "evergreen/evergreenlaw41.DeltaErrors", spec := "deltaErrors", inPlace := ["slices.overlaps[evergreen/seam.item]"], unfollowed := true, recurses := true, named := ["math/bits.deBruijn64tab"], plainKeys := false, apart := false, laid := [("math/bits.deBruijn64tab", laid_math_bits_deBruijn64tab)] }
def DeltaErrorsSaid : Prop := deltaErrorsRow.holds Tryz.pinned (OpenSpec.ofChange deltaErrorsSpec)

/-- ITS FALSE NEIGHBOUR: 'it returns false'. Refute it at one input. -/
def deltaErrorsWrong : ChangeSpec := { name := "deltaErrors", fn := fun _ => fun
  | [d1, d2] => { results := [.lit (.bool false)], args := [d1, d2] }
  | _ => none }
def DeltaErrorsWrongFalsely : Prop := deltaErrorsRow.holds Tryz.pinned (OpenSpec.ofChange deltaErrorsWrong)

/- THE SECOND FORM. 'bulk': how many values and letters a reading holds, each counted each time it is reached (what is shared counts as often as it is met; a slice's spare places count too). A statement '..UptoSaid' is the law's where the arguments, and the package variables that the reading takes, are together of bulk at most 1048576: NARROWER than '..Said'. Prove '..Said' where nothing that the law and all that it calls make is longer than what came in: it says more and counts as full. Else prove '..UptoSaid'. A law counts once. -/
mutual
def uptoBulk {H : Type} : DataW H → Nat
  | .lit (.string bytes) => bytes.length + 1
  | .lit _ => 1
  | .nil => 1
  | .ptr d => uptoBulk d + 1
  | .slice elems spare => uptoBulkAll elems + uptoBulkAll spare + 1
  | .agg parts => uptoBulkAll parts + 1
  | .iface _ d => uptoBulk d + 1
  | .map entries => uptoBulkEntries entries + 1
  | .held _ => 1
def uptoBulkAll {H : Type} : List (DataW H) → Nat
  | [] => 0
  | d :: r => uptoBulk d + uptoBulkAll r
def uptoBulkEntries {H : Type} : List (Lit × DataW H) → Nat
  | [] => 0
  | x :: r => uptoBulkEntry x + uptoBulkEntries r
def uptoBulkEntry {H : Type} : Lit × DataW H → Nat
  | (.string bytes, d) => bytes.length + uptoBulk d + 1
  | (_, d) => uptoBulk d + 1
 end
def uptoSmall : (H : Type) → List (DataW H) → Bool := fun _ ds => decide (uptoBulkAll ds ≤ 1048576)
def OpenSpec.upto (s : _root_.Go.ChangeSpec) : _root_.Go.OpenSpec := { _root_.Go.OpenSpec.ofChange s with cond := some uptoSmall }

/-- 'evergreenlaw41.DeltaApplies', WHERE WHAT IT READS IS OF BULK AT MOST 1048576: true; the input reads as it did. -/
def deltaAppliesUptoRow : OpenClaim := { program := "ytgnppnokkdghcaagreatdoor", sum := "3a537f6d8f5bcdd4aec895eccd3b4b6764347500d235244c0b19a89c6b39e47c", func := "evergreen/evergreenlaw41.DeltaApplies", spec := "deltaApplies", inPlace := ["slices.overlaps[evergreen/seam.item]"], named := ["math/bits.deBruijn64tab"], plainKeys := false, apart := false, laid := [("math/bits.deBruijn64tab", laid_math_bits_deBruijn64tab)], narrowed := true }
def DeltaAppliesUptoSaid : Prop := deltaAppliesUptoRow.holds Tryz.pinned (OpenSpec.upto deltaAppliesSpec)

/-- 'evergreenlaw41.DeltaNormal', WHERE WHAT IT READS IS OF BULK AT MOST 1048576: true; the input reads as it did. -/
def deltaNormalUptoRow : OpenClaim := { program := "ytgnppnokkdghcaagreatdoor", sum := "3a537f6d8f5bcdd4aec895eccd3b4b6764347500d235244c0b19a89c6b39e47c", func := "evergreen/evergreenlaw41.DeltaNormal", spec := "deltaNormal", inPlace := ["slices.overlaps[evergreen/seam.item]"], named := ["math/bits.deBruijn64tab"], plainKeys := false, apart := false, laid := [("math/bits.deBruijn64tab", laid_math_bits_deBruijn64tab)], narrowed := true }
def DeltaNormalUptoSaid : Prop := deltaNormalUptoRow.holds Tryz.pinned (OpenSpec.upto deltaNormalSpec)

/-- 'evergreenlaw41.DeltaComposes', WHERE WHAT IT READS IS OF BULK AT MOST 1048576: true; the input reads as it did. -/
def deltaComposesUptoRow : OpenClaim := { program := "ytgnppnokkdghcaagreatdoor", sum := "3a537f6d8f5bcdd4aec895eccd3b4b6764347500d235244c0b19a89c6b39e47c", func := "evergreen/evergreenlaw41.DeltaComposes", spec := "deltaComposes", inPlace := ["slices.overlaps[evergreen/seam.item]"], unfollowed := true, recurses := true, named := ["math/bits.deBruijn64tab"], plainKeys := false, apart := false, laid := [("math/bits.deBruijn64tab", laid_math_bits_deBruijn64tab)], narrowed := true }
def DeltaComposesUptoSaid : Prop := deltaComposesUptoRow.holds Tryz.pinned (OpenSpec.upto deltaComposesSpec)

/-- 'evergreenlaw25.CanonicalOrder', WHERE WHAT IT READS IS OF BULK AT MOST 1048576: true; the input reads as it did. -/
def canonicalOrderUptoRow : OpenClaim := { program := "ytgnppnokkdghcaagreatdoor", sum := "3a537f6d8f5bcdd4aec895eccd3b4b6764347500d235244c0b19a89c6b39e47c", func := "evergreen/evergreenlaw25.CanonicalOrder", spec := "canonicalOrder", inPlace := ["slices.overlaps[evergreen/seam.item]"], unfollowed := true, recurses := true, named := ["math/bits.deBruijn64tab"], plainKeys := false, apart := false, laid := [("math/bits.deBruijn64tab", laid_math_bits_deBruijn64tab)], narrowed := true }
def CanonicalOrderUptoSaid : Prop := canonicalOrderUptoRow.holds Tryz.pinned (OpenSpec.upto canonicalOrderSpec)

/-- 'evergreenlaw25.CanonicalFull', WHERE WHAT IT READS IS OF BULK AT MOST 1048576: true; the input reads as it did. -/
def canonicalFullUptoRow : OpenClaim := { program := "ytgnppnokkdghcaagreatdoor", sum := "3a537f6d8f5bcdd4aec895eccd3b4b6764347500d235244c0b19a89c6b39e47c", func := "evergreen/evergreenlaw25.CanonicalFull", spec := "canonicalFull", inPlace := ["slices.overlaps[evergreen/seam.item]"], unfollowed := true, recurses := true, named := ["math/bits.deBruijn64tab"], plainKeys := false, apart := false, laid := [("math/bits.deBruijn64tab", laid_math_bits_deBruijn64tab)], narrowed := true }
def CanonicalFullUptoSaid : Prop := canonicalFullUptoRow.holds Tryz.pinned (OpenSpec.upto canonicalFullSpec)

/-- 'evergreenlaw25.CanonicalOf', WHERE WHAT IT READS IS OF BULK AT MOST 1048576: true; the input reads as it did. -/
def canonicalOfUptoRow : OpenClaim := { program := "ytgnppnokkdghcaagreatdoor", sum := "3a537f6d8f5bcdd4aec895eccd3b4b6764347500d235244c0b19a89c6b39e47c", func := "evergreen/evergreenlaw25.CanonicalOf", spec := "canonicalOf", inPlace := ["slices.overlaps[evergreen/seam.item]"], unfollowed := true, recurses := true, named := ["math/bits.deBruijn64tab"], plainKeys := false, apart := false, laid := [("math/bits.deBruijn64tab", laid_math_bits_deBruijn64tab)], narrowed := true }
def CanonicalOfUptoSaid : Prop := canonicalOfUptoRow.holds Tryz.pinned (OpenSpec.upto canonicalOfSpec)

/-- 'evergreenlaw25.CanonicalShapes', WHERE WHAT IT READS IS OF BULK AT MOST 1048576: true; the input reads as it did. -/
def canonicalShapesUptoRow : OpenClaim := { program := "ytgnppnokkdghcaagreatdoor", sum := "3a537f6d8f5bcdd4aec895eccd3b4b6764347500d235244c0b19a89c6b39e47c", func := "evergreen/evergreenlaw25.CanonicalShapes", spec := "canonicalShapes", inPlace := ["slices.overlaps[evergreen/seam.item]"], unfollowed := true, recurses := true, named := ["math/bits.deBruijn64tab"], plainKeys := false, apart := false, laid := [("math/bits.deBruijn64tab", laid_math_bits_deBruijn64tab)], narrowed := true }
def CanonicalShapesUptoSaid : Prop := canonicalShapesUptoRow.holds Tryz.pinned (OpenSpec.upto canonicalShapesSpec)

/-- 'evergreenlaw25.CanonicalClasses', WHERE WHAT IT READS IS OF BULK AT MOST 1048576: true; the input reads as it did. -/
def canonicalClassesUptoRow : OpenClaim := { program := "ytgnppnokkdghcaagreatdoor", sum := "3a537f6d8f5bcdd4aec895eccd3b4b6764347500d235244c0b19a89c6b39e47c", func := "evergreen/evergreenlaw25.CanonicalClasses", spec := "canonicalClasses", inPlace := ["slices.overlaps[evergreen/seam.item]"], unfollowed := true, recurses := true, named := ["math/bits.deBruijn64tab"], plainKeys := false, apart := false, laid := [("math/bits.deBruijn64tab", laid_math_bits_deBruijn64tab)], narrowed := true }
def CanonicalClassesUptoSaid : Prop := canonicalClassesUptoRow.holds Tryz.pinned (OpenSpec.upto canonicalClassesSpec)

/-- 'evergreenlaw41.DeltaWhole', WHERE WHAT IT READS IS OF BULK AT MOST 1048576: true; the input reads as it did. -/
def deltaWholeUptoRow : OpenClaim := { program := "ytgnppnokkdghcaagreatdoor", sum := "3a537f6d8f5bcdd4aec895eccd3b4b6764347500d235244c0b19a89c6b39e47c", func := "evergreen/evergreenlaw41.DeltaWhole", spec := "deltaWhole", inPlace := ["slices.overlaps[evergreen/seam.item]"], unfollowed := true, recurses := true, named := ["math/bits.deBruijn64tab"], plainKeys := false, apart := false, laid := [("math/bits.deBruijn64tab", laid_math_bits_deBruijn64tab)], narrowed := true }
def DeltaWholeUptoSaid : Prop := deltaWholeUptoRow.holds Tryz.pinned (OpenSpec.upto deltaWholeSpec)

/-- 'evergreenlaw41.DeltaErrors', WHERE WHAT IT READS IS OF BULK AT MOST 1048576: true; the input reads as it did. -/
def deltaErrorsUptoRow : OpenClaim := { program := "ytgnppnokkdghcaagreatdoor", sum := "3a537f6d8f5bcdd4aec895eccd3b4b6764347500d235244c0b19a89c6b39e47c", func := "evergreen/evergreenlaw41.DeltaErrors", spec := "deltaErrors", inPlace := ["slices.overlaps[evergreen/seam.item]"], unfollowed := true, recurses := true, named := ["math/bits.deBruijn64tab"], plainKeys := false, apart := false, laid := [("math/bits.deBruijn64tab", laid_math_bits_deBruijn64tab)], narrowed := true }
def DeltaErrorsUptoSaid : Prop := deltaErrorsUptoRow.holds Tryz.pinned (OpenSpec.upto deltaErrorsSpec)

end Rows
end Go.Proofs.YtgnppnokkdghcaaGreatDoor
