/-
  No cell of these rows narrows 'for every input' (looked for: loops, veiled, ifaces, maps, wideKeys, modest, calm, conditions, laid).
  DERIVED. THE GIVEN ROWS OF THIS SEAT. 8 by the template 'for every input the law returns true; each argument reads behind the call as it read before'; 0 by the template 'total and deterministic' (their statements: YtaagfmpolcpimaaTotals.lean).
  GIVEN WITH THE SEED: the statements are not yours to turn. If you find one false, say at which input.
  Laid BY PROGRAM, IN A SANDBOX (cutbox-rows.mjs): the forced cells as the released guide's own fill.sh prints them over the translation c456e88cebe5bf5f… (all of the seat's roots in one cut). By AI agents, Wed Nov 11 2026. No macro, syntax, notation, axiom, sorry.
-/
import Derived.Test.YtaagfmpolcpimaaChecked
import GoSem.Claim
import GoSem.ClaimJoined
import GoSem.ClaimMapViews
import Derived.JoinedTies
import Derived.KernelRfl
namespace Go.Proofs.Ytaagfmpolcpimaa
/- THE CELL 'sum', in the pinned program and in every row, IS THE sha256 OF THE DUMP (.gsa) THAT YtaagfmpolcpimaaProg.lean LOADS. Nothing in Lean hashes anything: it is a label: what it is worth is what the hold of that sum in a sandbox is worth. -/
noncomputable def Try.pinned : Pinned := { name := "ytaagfmpolcpimaa", sum := "c456e88cebe5bf5f5ce5cf19c33e8c6012f8dd3d5b357ac86a02f8ff7657f863", checked := Try.checked }
namespace Rows
def none {H : Type} : Left H := { results := [], args := [] }

/-- 'evergreenlaw02.LettersetFolds': WHATEVER THE INPUT: true; the input reads as it did. -/
def lettersetFoldsSpec : ChangeSpec := { name := "lettersetFolds", fn := fun _ => fun
  | [d] => { results := [.lit (.bool true)], args := [d] }
  | _ => none }
def lettersetFoldsRow : OpenClaim := { program := "ytaagfmpolcpimaa", sum := "c456e88cebe5bf5f5ce5cf19c33e8c6012f8dd3d5b357ac86a02f8ff7657f863", func := "evergreen/evergreenlaw02.LettersetFolds", spec := "lettersetFolds", apart := false }
def LettersetFoldsSaid : Prop := lettersetFoldsRow.holds Try.pinned (OpenSpec.ofChange lettersetFoldsSpec)

/-- ITS FALSE NEIGHBOUR: 'it returns false'. Refute it at one input. -/
def lettersetFoldsWrong : ChangeSpec := { name := "lettersetFolds", fn := fun _ => fun
  | [d] => { results := [.lit (.bool false)], args := [d] }
  | _ => none }
def LettersetFoldsWrongFalsely : Prop := lettersetFoldsRow.holds Try.pinned (OpenSpec.ofChange lettersetFoldsWrong)

/-- 'evergreenlaw02.LettersetBits': WHATEVER THE INPUT: true; the input reads as it did. -/
def lettersetBitsSpec : ChangeSpec := { name := "lettersetBits", fn := fun _ => fun
  | [d] => { results := [.lit (.bool true)], args := [d] }
  | _ => none }
def lettersetBitsRow : OpenClaim := { program := "ytaagfmpolcpimaa", sum := "c456e88cebe5bf5f5ce5cf19c33e8c6012f8dd3d5b357ac86a02f8ff7657f863", func := "evergreen/evergreenlaw02.LettersetBits", spec := "lettersetBits", apart := false }
def LettersetBitsSaid : Prop := lettersetBitsRow.holds Try.pinned (OpenSpec.ofChange lettersetBitsSpec)

/-- ITS FALSE NEIGHBOUR: 'it returns false'. Refute it at one input. -/
def lettersetBitsWrong : ChangeSpec := { name := "lettersetBits", fn := fun _ => fun
  | [d] => { results := [.lit (.bool false)], args := [d] }
  | _ => none }
def LettersetBitsWrongFalsely : Prop := lettersetBitsRow.holds Try.pinned (OpenSpec.ofChange lettersetBitsWrong)

/-- 'evergreenlaw02.LettersetFormats': WHATEVER THE INPUT: true; the input reads as it did. -/
def lettersetFormatsSpec : ChangeSpec := { name := "lettersetFormats", fn := fun _ => fun
  | [d] => { results := [.lit (.bool true)], args := [d] }
  | _ => none }
def lettersetFormatsRow : OpenClaim := { program := "ytaagfmpolcpimaa", sum := "c456e88cebe5bf5f5ce5cf19c33e8c6012f8dd3d5b357ac86a02f8ff7657f863", func := "evergreen/evergreenlaw02.LettersetFormats", spec := "lettersetFormats", apart := false }
def LettersetFormatsSaid : Prop := lettersetFormatsRow.holds Try.pinned (OpenSpec.ofChange lettersetFormatsSpec)

/-- ITS FALSE NEIGHBOUR: 'it returns false'. Refute it at one input. -/
def lettersetFormatsWrong : ChangeSpec := { name := "lettersetFormats", fn := fun _ => fun
  | [d] => { results := [.lit (.bool false)], args := [d] }
  | _ => none }
def LettersetFormatsWrongFalsely : Prop := lettersetFormatsRow.holds Try.pinned (OpenSpec.ofChange lettersetFormatsWrong)

/-- 'evergreenlaw02.LettersetMakes': WHATEVER THE INPUT: true; the input reads as it did. -/
def lettersetMakesSpec : ChangeSpec := { name := "lettersetMakes", fn := fun _ => fun
  | [d1, d2, d3] => { results := [.lit (.bool true)], args := [d1, d2, d3] }
  | _ => none }
def lettersetMakesRow : OpenClaim := { program := "ytaagfmpolcpimaa", sum := "c456e88cebe5bf5f5ce5cf19c33e8c6012f8dd3d5b357ac86a02f8ff7657f863", func := "evergreen/evergreenlaw02.LettersetMakes", spec := "lettersetMakes", apart := false }
def LettersetMakesSaid : Prop := lettersetMakesRow.holds Try.pinned (OpenSpec.ofChange lettersetMakesSpec)

/-- ITS FALSE NEIGHBOUR: 'it returns false'. Refute it at one input. -/
def lettersetMakesWrong : ChangeSpec := { name := "lettersetMakes", fn := fun _ => fun
  | [d1, d2, d3] => { results := [.lit (.bool false)], args := [d1, d2, d3] }
  | _ => none }
def LettersetMakesWrongFalsely : Prop := lettersetMakesRow.holds Try.pinned (OpenSpec.ofChange lettersetMakesWrong)

/-- 'evergreenlaw02.LettersetAll': WHATEVER THE INPUT: true; the input reads as it did. -/
def lettersetAllSpec : ChangeSpec := { name := "lettersetAll", fn := fun _ => fun
  | [d1, d2] => { results := [.lit (.bool true)], args := [d1, d2] }
  | _ => none }
def lettersetAllRow : OpenClaim := { program := "ytaagfmpolcpimaa", sum := "c456e88cebe5bf5f5ce5cf19c33e8c6012f8dd3d5b357ac86a02f8ff7657f863", func := "evergreen/evergreenlaw02.LettersetAll", spec := "lettersetAll", unfollowed := true, recurses := true, apart := false }
def LettersetAllSaid : Prop := lettersetAllRow.holds Try.pinned (OpenSpec.ofChange lettersetAllSpec)

/-- ITS FALSE NEIGHBOUR: 'it returns false'. Refute it at one input. -/
def lettersetAllWrong : ChangeSpec := { name := "lettersetAll", fn := fun _ => fun
  | [d1, d2] => { results := [.lit (.bool false)], args := [d1, d2] }
  | _ => none }
def LettersetAllWrongFalsely : Prop := lettersetAllRow.holds Try.pinned (OpenSpec.ofChange lettersetAllWrong)

/-- 'evergreenlaw02.LettersetAlgebra': WHATEVER THE INPUT: true; the input reads as it did. -/
def lettersetAlgebraSpec : ChangeSpec := { name := "lettersetAlgebra", fn := fun _ => fun
  | [d1, d2] => { results := [.lit (.bool true)], args := [d1, d2] }
  | _ => none }
def lettersetAlgebraRow : OpenClaim := { program := "ytaagfmpolcpimaa", sum := "c456e88cebe5bf5f5ce5cf19c33e8c6012f8dd3d5b357ac86a02f8ff7657f863", func := "evergreen/evergreenlaw02.LettersetAlgebra", spec := "lettersetAlgebra", apart := false }
def LettersetAlgebraSaid : Prop := lettersetAlgebraRow.holds Try.pinned (OpenSpec.ofChange lettersetAlgebraSpec)

/-- ITS FALSE NEIGHBOUR: 'it returns false'. Refute it at one input. -/
def lettersetAlgebraWrong : ChangeSpec := { name := "lettersetAlgebra", fn := fun _ => fun
  | [d1, d2] => { results := [.lit (.bool false)], args := [d1, d2] }
  | _ => none }
def LettersetAlgebraWrongFalsely : Prop := lettersetAlgebraRow.holds Try.pinned (OpenSpec.ofChange lettersetAlgebraWrong)

/-- 'evergreenlaw02.LettersetParses': WHATEVER THE INPUT: true; the input reads as it did. -/
def lettersetParsesSpec : ChangeSpec := { name := "lettersetParses", fn := fun _ => fun
  | [d] => { results := [.lit (.bool true)], args := [d] }
  | _ => none }
def lettersetParsesRow : OpenClaim := { program := "ytaagfmpolcpimaa", sum := "c456e88cebe5bf5f5ce5cf19c33e8c6012f8dd3d5b357ac86a02f8ff7657f863", func := "evergreen/evergreenlaw02.LettersetParses", spec := "lettersetParses", apart := false }
def LettersetParsesSaid : Prop := lettersetParsesRow.holds Try.pinned (OpenSpec.ofChange lettersetParsesSpec)

/-- ITS FALSE NEIGHBOUR: 'it returns false'. Refute it at one input. -/
def lettersetParsesWrong : ChangeSpec := { name := "lettersetParses", fn := fun _ => fun
  | [d] => { results := [.lit (.bool false)], args := [d] }
  | _ => none }
def LettersetParsesWrongFalsely : Prop := lettersetParsesRow.holds Try.pinned (OpenSpec.ofChange lettersetParsesWrong)

/-- 'evergreenlaw02.LettersetBack': WHATEVER THE INPUT: true; the input reads as it did. -/
def lettersetBackSpec : ChangeSpec := { name := "lettersetBack", fn := fun _ => fun
  | [d1, d2] => { results := [.lit (.bool true)], args := [d1, d2] }
  | _ => none }
def lettersetBackRow : OpenClaim := { program := "ytaagfmpolcpimaa", sum := "c456e88cebe5bf5f5ce5cf19c33e8c6012f8dd3d5b357ac86a02f8ff7657f863", func := "evergreen/evergreenlaw02.LettersetBack", spec := "lettersetBack", apart := false }
def LettersetBackSaid : Prop := lettersetBackRow.holds Try.pinned (OpenSpec.ofChange lettersetBackSpec)

/-- ITS FALSE NEIGHBOUR: 'it returns false'. Refute it at one input. -/
def lettersetBackWrong : ChangeSpec := { name := "lettersetBack", fn := fun _ => fun
  | [d1, d2] => { results := [.lit (.bool false)], args := [d1, d2] }
  | _ => none }
def LettersetBackWrongFalsely : Prop := lettersetBackRow.holds Try.pinned (OpenSpec.ofChange lettersetBackWrong)

/- THE SECOND FORM. 'bulk': how many values and letters a reading holds, each counted each time it is reached (what is shared counts as often as it is met; a slice's spare places count too). A statement '..UptoSaid' is the law's where the arguments, and the package variables that the reading takes, are together of bulk at most 1048576: NARROWER than '..Said'. Prove '..Said' where nothing that the law and all that it calls make is longer than what came in: it says more and counts as full. Else prove '..UptoSaid'. A law counts once. -/
mutual
def uptoBulk {H : Type} : DataW H → Nat
  | .lit (.string bytes) => bytes.length + 1
  | .lit _ => 1
  | .nil => 1
  | .ptr d => uptoBulk d + 1
  | .slice elems spare => uptoBulkAll elems + uptoBulkAll spare + 1
  | .agg parts => uptoBulkAll parts + 1
  | .iface _ d => uptoBulk d + 1
  | .map entries => uptoBulkEntries entries + 1
  | .held _ => 1
def uptoBulkAll {H : Type} : List (DataW H) → Nat
  | [] => 0
  | d :: r => uptoBulk d + uptoBulkAll r
def uptoBulkEntries {H : Type} : List (Lit × DataW H) → Nat
  | [] => 0
  | x :: r => uptoBulkEntry x + uptoBulkEntries r
def uptoBulkEntry {H : Type} : Lit × DataW H → Nat
  | (.string bytes, d) => bytes.length + uptoBulk d + 1
  | (_, d) => uptoBulk d + 1
 end
def uptoSmall : (H : Type) → List (DataW H) → Bool := fun _ ds => decide (uptoBulkAll ds ≤ 1048576)
def OpenSpec.upto (s : _root_.Go.ChangeSpec) : _root_.Go.OpenSpec := { _root_.Go.OpenSpec.ofChange s with cond := some uptoSmall }

/-- 'evergreenlaw02.LettersetFolds', WHERE WHAT IT READS IS OF BULK AT MOST 1048576: true; the input reads as it did. -/
def lettersetFoldsUptoRow : OpenClaim := { program := "ytaagfmpolcpimaa", sum := "c456e88cebe5bf5f5ce5cf19c33e8c6012f8dd3d5b357ac86a02f8ff7657f863", func := "evergreen/evergreenlaw02.LettersetFolds", spec := "lettersetFolds", apart := false, narrowed := true }
def LettersetFoldsUptoSaid : Prop := lettersetFoldsUptoRow.holds Try.pinned (OpenSpec.upto lettersetFoldsSpec)

/-- 'evergreenlaw02.LettersetBits', WHERE WHAT IT READS IS OF BULK AT MOST 1048576: true; the input reads as it did. -/
def lettersetBitsUptoRow : OpenClaim := { program := "ytaagfmpolcpimaa", sum := "c456e88cebe5bf5f5ce5cf19c33e8c6012f8dd3d5b357ac86a02f8ff7657f863", func := "evergreen/evergreenlaw02.LettersetBits", spec := "lettersetBits", apart := false, narrowed := true }
def LettersetBitsUptoSaid : Prop := lettersetBitsUptoRow.holds Try.pinned (OpenSpec.upto lettersetBitsSpec)

/-- 'evergreenlaw02.LettersetFormats', WHERE WHAT IT READS IS OF BULK AT MOST 1048576: true; the input reads as it did. -/
def lettersetFormatsUptoRow : OpenClaim := { program := "ytaagfmpolcpimaa", sum := "c456e88cebe5bf5f5ce5cf19c33e8c6012f8dd3d5b357ac86a02f8ff7657f863", func := "evergreen/evergreenlaw02.LettersetFormats", spec := "lettersetFormats", apart := false, narrowed := true }
def LettersetFormatsUptoSaid : Prop := lettersetFormatsUptoRow.holds Try.pinned (OpenSpec.upto lettersetFormatsSpec)

/-- 'evergreenlaw02.LettersetMakes', WHERE WHAT IT READS IS OF BULK AT MOST 1048576: true; the input reads as it did. -/
def lettersetMakesUptoRow : OpenClaim := { program := "ytaagfmpolcpimaa", sum := "c456e88cebe5bf5f5ce5cf19c33e8c6012f8dd3d5b357ac86a02f8ff7657f863", func := "evergreen/evergreenlaw02.LettersetMakes", spec := "lettersetMakes", apart := false, narrowed := true }
def LettersetMakesUptoSaid : Prop := lettersetMakesUptoRow.holds Try.pinned (OpenSpec.upto lettersetMakesSpec)

/-- 'evergreenlaw02.LettersetAll', WHERE WHAT IT READS IS OF BULK AT MOST 1048576: true; the input reads as it did. -/
def lettersetAllUptoRow : OpenClaim := { program := "ytaagfmpolcpimaa", sum := "c456e88cebe5bf5f5ce5cf19c33e8c6012f8dd3d5b357ac86a02f8ff7657f863", func := "evergreen/evergreenlaw02.LettersetAll", spec := "lettersetAll", unfollowed := true, recurses := true, apart := false, narrowed := true }
def LettersetAllUptoSaid : Prop := lettersetAllUptoRow.holds Try.pinned (OpenSpec.upto lettersetAllSpec)

/-- 'evergreenlaw02.LettersetAlgebra', WHERE WHAT IT READS IS OF BULK AT MOST 1048576: true; the input reads as it did. -/
def lettersetAlgebraUptoRow : OpenClaim := { program := "ytaagfmpolcpimaa", sum := "c456e88cebe5bf5f5ce5cf19c33e8c6012f8dd3d5b357ac86a02f8ff7657f863", func := "evergreen/evergreenlaw02.LettersetAlgebra", spec := "lettersetAlgebra", apart := false, narrowed := true }
def LettersetAlgebraUptoSaid : Prop := lettersetAlgebraUptoRow.holds Try.pinned (OpenSpec.upto lettersetAlgebraSpec)

/-- 'evergreenlaw02.LettersetParses', WHERE WHAT IT READS IS OF BULK AT MOST 1048576: true; the input reads as it did. -/
def lettersetParsesUptoRow : OpenClaim := { program := "ytaagfmpolcpimaa", sum := "c456e88cebe5bf5f5ce5cf19c33e8c6012f8dd3d5b357ac86a02f8ff7657f863", func := "evergreen/evergreenlaw02.LettersetParses", spec := "lettersetParses", apart := false, narrowed := true }
def LettersetParsesUptoSaid : Prop := lettersetParsesUptoRow.holds Try.pinned (OpenSpec.upto lettersetParsesSpec)

/-- 'evergreenlaw02.LettersetBack', WHERE WHAT IT READS IS OF BULK AT MOST 1048576: true; the input reads as it did. -/
def lettersetBackUptoRow : OpenClaim := { program := "ytaagfmpolcpimaa", sum := "c456e88cebe5bf5f5ce5cf19c33e8c6012f8dd3d5b357ac86a02f8ff7657f863", func := "evergreen/evergreenlaw02.LettersetBack", spec := "lettersetBack", apart := false, narrowed := true }
def LettersetBackUptoSaid : Prop := lettersetBackUptoRow.holds Try.pinned (OpenSpec.upto lettersetBackSpec)

end Rows
end Go.Proofs.Ytaagfmpolcpimaa
