/-
  No cell of these rows narrows 'for every input' (looked for: loops, veiled, ifaces, maps, wideKeys, modest, calm, conditions, laid).
  DERIVED. THE GIVEN ROWS OF THIS SEAT. 6 by the template 'for every input the law returns true; each argument reads behind the call as it read before'; 0 by the template 'total and deterministic' (their statements: YtnogpkaehiapfaaTotals.lean).
  GIVEN WITH THE SEED: the statements are not yours to turn. If you find one false, say at which input.
  Laid BY PROGRAM, IN A SANDBOX (cutbox-rows.mjs): the forced cells as the released guide's own fill.sh prints them over the translation 6e45424dbd8ce5ab… (all of the seat's roots in one cut). By AI agents, Wed Nov 11 2026. No macro, syntax, notation, axiom, sorry.
-/
import Derived.Test.YtnogpkaehiapfaaChecked
import GoSem.Claim
import GoSem.ClaimJoined
import GoSem.ClaimMapViews
import Derived.JoinedTies
import Derived.KernelRfl
namespace Go.Proofs.Ytnogpkaehiapfaa
/- THE CELL 'sum', in the pinned program and in every row, IS THE sha256 OF THE DUMP (.gsa) THAT YtnogpkaehiapfaaProg.lean LOADS. Nothing in Lean hashes anything: it is a label: what it is worth is what the hold of that sum in a sandbox is worth. -/
noncomputable def Try.pinned : Pinned := { name := "ytnogpkaehiapfaa", sum := "6e45424dbd8ce5abf25f397c527abbdf2c2783c6f021a3d6c8cbdd150cebd520", checked := Try.checked }
namespace Rows
def none {H : Type} : Left H := { results := [], args := [] }

/-- 'bringuplaw23.PinningTrue': WHATEVER THE INPUT: true; the input reads as it did. -/
def pinningTrueSpec : ChangeSpec := { name := "pinningTrue", fn := fun _ => fun
  | [d1, d2] => { results := [.lit (.bool true)], args := [d1, d2] }
  | _ => none }
def pinningTrueRow : OpenClaim := { program := "ytnogpkaehiapfaa", sum := "6e45424dbd8ce5abf25f397c527abbdf2c2783c6f021a3d6c8cbdd150cebd520", func := "bringup/bringuplaw23.PinningTrue", spec := "pinningTrue", unfollowed := true, recurses := true, apart := false }
def PinningTrueSaid : Prop := pinningTrueRow.holds Try.pinned (OpenSpec.ofChange pinningTrueSpec)

/-- ITS FALSE NEIGHBOUR: 'it returns false'. Refute it at one input. -/
def pinningTrueWrong : ChangeSpec := { name := "pinningTrue", fn := fun _ => fun
  | [d1, d2] => { results := [.lit (.bool false)], args := [d1, d2] }
  | _ => none }
def PinningTrueWrongFalsely : Prop := pinningTrueRow.holds Try.pinned (OpenSpec.ofChange pinningTrueWrong)

/-- 'bringuplaw23.PinningGiven': WHATEVER THE INPUT: true; the input reads as it did. -/
def pinningGivenSpec : ChangeSpec := { name := "pinningGiven", fn := fun _ => fun
  | [d1, d2] => { results := [.lit (.bool true)], args := [d1, d2] }
  | _ => none }
def pinningGivenRow : OpenClaim := { program := "ytnogpkaehiapfaa", sum := "6e45424dbd8ce5abf25f397c527abbdf2c2783c6f021a3d6c8cbdd150cebd520", func := "bringup/bringuplaw23.PinningGiven", spec := "pinningGiven", unfollowed := true, recurses := true, apart := false }
def PinningGivenSaid : Prop := pinningGivenRow.holds Try.pinned (OpenSpec.ofChange pinningGivenSpec)

/-- ITS FALSE NEIGHBOUR: 'it returns false'. Refute it at one input. -/
def pinningGivenWrong : ChangeSpec := { name := "pinningGiven", fn := fun _ => fun
  | [d1, d2] => { results := [.lit (.bool false)], args := [d1, d2] }
  | _ => none }
def PinningGivenWrongFalsely : Prop := pinningGivenRow.holds Try.pinned (OpenSpec.ofChange pinningGivenWrong)

/-- 'bringuplaw23.PinningMoves': WHATEVER THE INPUT: true; the input reads as it did. -/
def pinningMovesSpec : ChangeSpec := { name := "pinningMoves", fn := fun _ => fun
  | [d1, d2, d3] => { results := [.lit (.bool true)], args := [d1, d2, d3] }
  | _ => none }
def pinningMovesRow : OpenClaim := { program := "ytnogpkaehiapfaa", sum := "6e45424dbd8ce5abf25f397c527abbdf2c2783c6f021a3d6c8cbdd150cebd520", func := "bringup/bringuplaw23.PinningMoves", spec := "pinningMoves", unfollowed := true, recurses := true, apart := false }
def PinningMovesSaid : Prop := pinningMovesRow.holds Try.pinned (OpenSpec.ofChange pinningMovesSpec)

/-- ITS FALSE NEIGHBOUR: 'it returns false'. Refute it at one input. -/
def pinningMovesWrong : ChangeSpec := { name := "pinningMoves", fn := fun _ => fun
  | [d1, d2, d3] => { results := [.lit (.bool false)], args := [d1, d2, d3] }
  | _ => none }
def PinningMovesWrongFalsely : Prop := pinningMovesRow.holds Try.pinned (OpenSpec.ofChange pinningMovesWrong)

/-- 'bringuplaw23.PinningDecides': WHATEVER THE INPUT: true; the input reads as it did. -/
def pinningDecidesSpec : ChangeSpec := { name := "pinningDecides", fn := fun _ => fun
  | [d1, d2] => { results := [.lit (.bool true)], args := [d1, d2] }
  | _ => none }
def pinningDecidesRow : OpenClaim := { program := "ytnogpkaehiapfaa", sum := "6e45424dbd8ce5abf25f397c527abbdf2c2783c6f021a3d6c8cbdd150cebd520", func := "bringup/bringuplaw23.PinningDecides", spec := "pinningDecides", unfollowed := true, recurses := true, apart := false }
def PinningDecidesSaid : Prop := pinningDecidesRow.holds Try.pinned (OpenSpec.ofChange pinningDecidesSpec)

/-- ITS FALSE NEIGHBOUR: 'it returns false'. Refute it at one input. -/
def pinningDecidesWrong : ChangeSpec := { name := "pinningDecides", fn := fun _ => fun
  | [d1, d2] => { results := [.lit (.bool false)], args := [d1, d2] }
  | _ => none }
def PinningDecidesWrongFalsely : Prop := pinningDecidesRow.holds Try.pinned (OpenSpec.ofChange pinningDecidesWrong)

/-- 'bringuplaw23.PinningCores': WHATEVER THE INPUT: true; the input reads as it did. -/
def pinningCoresSpec : ChangeSpec := { name := "pinningCores", fn := fun _ => fun
  | [d] => { results := [.lit (.bool true)], args := [d] }
  | _ => none }
def pinningCoresRow : OpenClaim := { program := "ytnogpkaehiapfaa", sum := "6e45424dbd8ce5abf25f397c527abbdf2c2783c6f021a3d6c8cbdd150cebd520", func := "bringup/bringuplaw23.PinningCores", spec := "pinningCores", unfollowed := true, recurses := true, apart := false }
def PinningCoresSaid : Prop := pinningCoresRow.holds Try.pinned (OpenSpec.ofChange pinningCoresSpec)

/-- ITS FALSE NEIGHBOUR: 'it returns false'. Refute it at one input. -/
def pinningCoresWrong : ChangeSpec := { name := "pinningCores", fn := fun _ => fun
  | [d] => { results := [.lit (.bool false)], args := [d] }
  | _ => none }
def PinningCoresWrongFalsely : Prop := pinningCoresRow.holds Try.pinned (OpenSpec.ofChange pinningCoresWrong)

/-- 'bringuplaw23.PinningExact': WHATEVER THE INPUT: true; the input reads as it did. -/
def pinningExactSpec : ChangeSpec := { name := "pinningExact", fn := fun _ => fun
  | [d1, d2, d3, d4, d5, d6] => { results := [.lit (.bool true)], args := [d1, d2, d3, d4, d5, d6] }
  | _ => none }
def pinningExactRow : OpenClaim := { program := "ytnogpkaehiapfaa", sum := "6e45424dbd8ce5abf25f397c527abbdf2c2783c6f021a3d6c8cbdd150cebd520", func := "bringup/bringuplaw23.PinningExact", spec := "pinningExact", unfollowed := true, recurses := true, apart := false }
def PinningExactSaid : Prop := pinningExactRow.holds Try.pinned (OpenSpec.ofChange pinningExactSpec)

/-- ITS FALSE NEIGHBOUR: 'it returns false'. Refute it at one input. -/
def pinningExactWrong : ChangeSpec := { name := "pinningExact", fn := fun _ => fun
  | [d1, d2, d3, d4, d5, d6] => { results := [.lit (.bool false)], args := [d1, d2, d3, d4, d5, d6] }
  | _ => none }
def PinningExactWrongFalsely : Prop := pinningExactRow.holds Try.pinned (OpenSpec.ofChange pinningExactWrong)

/- THE SECOND FORM. 'bulk': how many values and letters a reading holds, each counted each time it is reached (what is shared counts as often as it is met; a slice's spare places count too). A statement '..UptoSaid' is the law's where the arguments, and the package variables that the reading takes, are together of bulk at most 1048576: NARROWER than '..Said'. Prove '..Said' where nothing that the law and all that it calls make is longer than what came in: it says more and counts as full. Else prove '..UptoSaid'. A law counts once. -/
mutual
def uptoBulk {H : Type} : DataW H → Nat
  | .lit (.string bytes) => bytes.length + 1
  | .lit _ => 1
  | .nil => 1
  | .ptr d => uptoBulk d + 1
  | .slice elems spare => uptoBulkAll elems + uptoBulkAll spare + 1
  | .agg parts => uptoBulkAll parts + 1
  | .iface _ d => uptoBulk d + 1
  | .map entries => uptoBulkEntries entries + 1
  | .held _ => 1
def uptoBulkAll {H : Type} : List (DataW H) → Nat
  | [] => 0
  | d :: r => uptoBulk d + uptoBulkAll r
def uptoBulkEntries {H : Type} : List (Lit × DataW H) → Nat
  | [] => 0
  | x :: r => uptoBulkEntry x + uptoBulkEntries r
def uptoBulkEntry {H : Type} : Lit × DataW H → Nat
  | (.string bytes, d) => bytes.length + uptoBulk d + 1
  | (_, d) => uptoBulk d + 1
 end
def uptoSmall : (H : Type) → List (DataW H) → Bool := fun _ ds => decide (uptoBulkAll ds ≤ 1048576)
def OpenSpec.upto (s : _root_.Go.ChangeSpec) : _root_.Go.OpenSpec := { _root_.Go.OpenSpec.ofChange s with cond := some uptoSmall }

/-- 'bringuplaw23.PinningTrue', WHERE WHAT IT READS IS OF BULK AT MOST 1048576: true; the input reads as it did. -/
def pinningTrueUptoRow : OpenClaim := { program := "ytnogpkaehiapfaa", sum := "6e45424dbd8ce5abf25f397c527abbdf2c2783c6f021a3d6c8cbdd150cebd520", func := "bringup/bringuplaw23.PinningTrue", spec := "pinningTrue", unfollowed := true, recurses := true, apart := false, narrowed := true }
def PinningTrueUptoSaid : Prop := pinningTrueUptoRow.holds Try.pinned (OpenSpec.upto pinningTrueSpec)

/-- 'bringuplaw23.PinningGiven', WHERE WHAT IT READS IS OF BULK AT MOST 1048576: true; the input reads as it did. -/
def pinningGivenUptoRow : OpenClaim := { program := "ytnogpkaehiapfaa", sum := "6e45424dbd8ce5abf25f397c527abbdf2c2783c6f021a3d6c8cbdd150cebd520", func := "bringup/bringuplaw23.PinningGiven", spec := "pinningGiven", unfollowed := true, recurses := true, apart := false, narrowed := true }
def PinningGivenUptoSaid : Prop := pinningGivenUptoRow.holds Try.pinned (OpenSpec.upto pinningGivenSpec)

/-- 'bringuplaw23.PinningMoves', WHERE WHAT IT READS IS OF BULK AT MOST 1048576: true; the input reads as it did. -/
def pinningMovesUptoRow : OpenClaim := { program := "ytnogpkaehiapfaa", sum := "6e45424dbd8ce5abf25f397c527abbdf2c2783c6f021a3d6c8cbdd150cebd520", func := "bringup/bringuplaw23.PinningMoves", spec := "pinningMoves", unfollowed := true, recurses := true, apart := false, narrowed := true }
def PinningMovesUptoSaid : Prop := pinningMovesUptoRow.holds Try.pinned (OpenSpec.upto pinningMovesSpec)

/-- 'bringuplaw23.PinningDecides', WHERE WHAT IT READS IS OF BULK AT MOST 1048576: true; the input reads as it did. -/
def pinningDecidesUptoRow : OpenClaim := { program := "ytnogpkaehiapfaa", sum := "6e45424dbd8ce5abf25f397c527abbdf2c2783c6f021a3d6c8cbdd150cebd520", func := "bringup/bringuplaw23.PinningDecides", spec := "pinningDecides", unfollowed := true, recurses := true, apart := false, narrowed := true }
def PinningDecidesUptoSaid : Prop := pinningDecidesUptoRow.holds Try.pinned (OpenSpec.upto pinningDecidesSpec)

/-- 'bringuplaw23.PinningCores', WHERE WHAT IT READS IS OF BULK AT MOST 1048576: true; the input reads as it did. -/
def pinningCoresUptoRow : OpenClaim := { program := "ytnogpkaehiapfaa", sum := "6e45424dbd8ce5abf25f397c527abbdf2c2783c6f021a3d6c8cbdd150cebd520", func := "bringup/bringuplaw23.PinningCores", spec := "pinningCores", unfollowed := true, recurses := true, apart := false, narrowed := true }
def PinningCoresUptoSaid : Prop := pinningCoresUptoRow.holds Try.pinned (OpenSpec.upto pinningCoresSpec)

/-- 'bringuplaw23.PinningExact', WHERE WHAT IT READS IS OF BULK AT MOST 1048576: true; the input reads as it did. -/
def pinningExactUptoRow : OpenClaim := { program := "ytnogpkaehiapfaa", sum := "6e45424dbd8ce5abf25f397c527abbdf2c2783c6f021a3d6c8cbdd150cebd520", func := "bringup/bringuplaw23.PinningExact", spec := "pinningExact", unfollowed := true, recurses := true, apart := false, narrowed := true }
def PinningExactUptoSaid : Prop := pinningExactUptoRow.holds Try.pinned (OpenSpec.upto pinningExactSpec)

end Rows
end Go.Proofs.Ytnogpkaehiapfaa
