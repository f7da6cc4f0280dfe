/-
  No cell of these rows narrows 'for every input' (looked for: loops, veiled, ifaces, maps, wideKeys, modest, calm, conditions, laid).
  DERIVED. THE GIVEN ROWS OF THIS SEAT. 5 by the template 'for every input the law returns true; each argument reads behind the call as it read before'; 0 by the template 'total and deterministic' (their statements: YtdicjhnhbdanlaaTotals.lean).
  GIVEN WITH THE SEED: the statements are not yours to turn. If you find one false, say at which input.
  Laid BY PROGRAM, IN A SANDBOX (cutbox-rows.mjs): the forced cells as the released guide's own fill.sh prints them over the translation 612dd8608270c796… (all of the seat's roots in one cut). By AI agents, Wed Nov 11 2026. No macro, syntax, notation, axiom, sorry.
-/
import Derived.Test.YtdicjhnhbdanlaaChecked
import GoSem.Claim
import GoSem.ClaimJoined
import GoSem.ClaimMapViews
import Derived.JoinedTies
import Derived.KernelRfl
namespace Go.Proofs.Ytdicjhnhbdanlaa
/- THE CELL 'sum', in the pinned program and in every row, IS THE sha256 OF THE DUMP (.gsa) THAT YtdicjhnhbdanlaaProg.lean LOADS. Nothing in Lean hashes anything: it is a label: what it is worth is what the hold of that sum in a sandbox is worth. -/
noncomputable def Try.pinned : Pinned := { name := "ytdicjhnhbdanlaa", sum := "612dd8608270c7962ba079ecc8f5ce17eb37a0083b73cd1c7ccb1026aa1d3c23", checked := Try.checked }
namespace Rows
def none {H : Type} : Left H := { results := [], args := [] }

/-- 'bringuplaw28.SuspendAwake': WHATEVER THE INPUT: true; the input reads as it did. -/
def suspendAwakeSpec : ChangeSpec := { name := "suspendAwake", fn := fun _ => fun
  | [d] => { results := [.lit (.bool true)], args := [d] }
  | _ => none }
def suspendAwakeRow : OpenClaim := { program := "ytdicjhnhbdanlaa", sum := "612dd8608270c7962ba079ecc8f5ce17eb37a0083b73cd1c7ccb1026aa1d3c23", func := "bringup/bringuplaw28.SuspendAwake", spec := "suspendAwake", unfollowed := true, recurses := true, apart := false }
def SuspendAwakeSaid : Prop := suspendAwakeRow.holds Try.pinned (OpenSpec.ofChange suspendAwakeSpec)

/-- ITS FALSE NEIGHBOUR: 'it returns false'. Refute it at one input. -/
def suspendAwakeWrong : ChangeSpec := { name := "suspendAwake", fn := fun _ => fun
  | [d] => { results := [.lit (.bool false)], args := [d] }
  | _ => none }
def SuspendAwakeWrongFalsely : Prop := suspendAwakeRow.holds Try.pinned (OpenSpec.ofChange suspendAwakeWrong)

/-- 'bringuplaw28.SuspendExact': WHATEVER THE INPUT: true; the input reads as it did. -/
def suspendExactSpec : ChangeSpec := { name := "suspendExact", fn := fun _ => fun
  | [d1, d2, d3, d4, d5, d6, d7] => { results := [.lit (.bool true)], args := [d1, d2, d3, d4, d5, d6, d7] }
  | _ => none }
def suspendExactRow : OpenClaim := { program := "ytdicjhnhbdanlaa", sum := "612dd8608270c7962ba079ecc8f5ce17eb37a0083b73cd1c7ccb1026aa1d3c23", func := "bringup/bringuplaw28.SuspendExact", spec := "suspendExact", unfollowed := true, recurses := true, apart := false }
def SuspendExactSaid : Prop := suspendExactRow.holds Try.pinned (OpenSpec.ofChange suspendExactSpec)

/-- ITS FALSE NEIGHBOUR: 'it returns false'. Refute it at one input. -/
def suspendExactWrong : ChangeSpec := { name := "suspendExact", fn := fun _ => fun
  | [d1, d2, d3, d4, d5, d6, d7] => { results := [.lit (.bool false)], args := [d1, d2, d3, d4, d5, d6, d7] }
  | _ => none }
def SuspendExactWrongFalsely : Prop := suspendExactRow.holds Try.pinned (OpenSpec.ofChange suspendExactWrong)

/-- 'bringuplaw28.SuspendBack': WHATEVER THE INPUT: true; the input reads as it did. -/
def suspendBackSpec : ChangeSpec := { name := "suspendBack", fn := fun _ => fun
  | [d1, d2, d3] => { results := [.lit (.bool true)], args := [d1, d2, d3] }
  | _ => none }
def suspendBackRow : OpenClaim := { program := "ytdicjhnhbdanlaa", sum := "612dd8608270c7962ba079ecc8f5ce17eb37a0083b73cd1c7ccb1026aa1d3c23", func := "bringup/bringuplaw28.SuspendBack", spec := "suspendBack", unfollowed := true, recurses := true, apart := false }
def SuspendBackSaid : Prop := suspendBackRow.holds Try.pinned (OpenSpec.ofChange suspendBackSpec)

/-- ITS FALSE NEIGHBOUR: 'it returns false'. Refute it at one input. -/
def suspendBackWrong : ChangeSpec := { name := "suspendBack", fn := fun _ => fun
  | [d1, d2, d3] => { results := [.lit (.bool false)], args := [d1, d2, d3] }
  | _ => none }
def SuspendBackWrongFalsely : Prop := suspendBackRow.holds Try.pinned (OpenSpec.ofChange suspendBackWrong)

/-- 'bringuplaw28.SuspendSteps': WHATEVER THE INPUT: true; the input reads as it did. -/
def suspendStepsSpec : ChangeSpec := { name := "suspendSteps", fn := fun _ => fun
  | [d] => { results := [.lit (.bool true)], args := [d] }
  | _ => none }
def suspendStepsRow : OpenClaim := { program := "ytdicjhnhbdanlaa", sum := "612dd8608270c7962ba079ecc8f5ce17eb37a0083b73cd1c7ccb1026aa1d3c23", func := "bringup/bringuplaw28.SuspendSteps", spec := "suspendSteps", unfollowed := true, recurses := true, apart := false }
def SuspendStepsSaid : Prop := suspendStepsRow.holds Try.pinned (OpenSpec.ofChange suspendStepsSpec)

/-- ITS FALSE NEIGHBOUR: 'it returns false'. Refute it at one input. -/
def suspendStepsWrong : ChangeSpec := { name := "suspendSteps", fn := fun _ => fun
  | [d] => { results := [.lit (.bool false)], args := [d] }
  | _ => none }
def SuspendStepsWrongFalsely : Prop := suspendStepsRow.holds Try.pinned (OpenSpec.ofChange suspendStepsWrong)

/-- 'bringuplaw28.SuspendNone': WHATEVER THE INPUT: true; the input reads as it did. -/
def suspendNoneSpec : ChangeSpec := { name := "suspendNone", fn := fun _ => fun
  | [d] => { results := [.lit (.bool true)], args := [d] }
  | _ => none }
def suspendNoneRow : OpenClaim := { program := "ytdicjhnhbdanlaa", sum := "612dd8608270c7962ba079ecc8f5ce17eb37a0083b73cd1c7ccb1026aa1d3c23", func := "bringup/bringuplaw28.SuspendNone", spec := "suspendNone", unfollowed := true, recurses := true, apart := false }
def SuspendNoneSaid : Prop := suspendNoneRow.holds Try.pinned (OpenSpec.ofChange suspendNoneSpec)

/-- ITS FALSE NEIGHBOUR: 'it returns false'. Refute it at one input. -/
def suspendNoneWrong : ChangeSpec := { name := "suspendNone", fn := fun _ => fun
  | [d] => { results := [.lit (.bool false)], args := [d] }
  | _ => none }
def SuspendNoneWrongFalsely : Prop := suspendNoneRow.holds Try.pinned (OpenSpec.ofChange suspendNoneWrong)

/- THE SECOND FORM. 'bulk': how many values and letters a reading holds, each counted each time it is reached (what is shared counts as often as it is met; a slice's spare places count too). A statement '..UptoSaid' is the law's where the arguments, and the package variables that the reading takes, are together of bulk at most 1048576: NARROWER than '..Said'. Prove '..Said' where nothing that the law and all that it calls make is longer than what came in: it says more and counts as full. Else prove '..UptoSaid'. A law counts once. -/
mutual
def uptoBulk {H : Type} : DataW H → Nat
  | .lit (.string bytes) => bytes.length + 1
  | .lit _ => 1
  | .nil => 1
  | .ptr d => uptoBulk d + 1
  | .slice elems spare => uptoBulkAll elems + uptoBulkAll spare + 1
  | .agg parts => uptoBulkAll parts + 1
  | .iface _ d => uptoBulk d + 1
  | .map entries => uptoBulkEntries entries + 1
  | .held _ => 1
def uptoBulkAll {H : Type} : List (DataW H) → Nat
  | [] => 0
  | d :: r => uptoBulk d + uptoBulkAll r
def uptoBulkEntries {H : Type} : List (Lit × DataW H) → Nat
  | [] => 0
  | x :: r => uptoBulkEntry x + uptoBulkEntries r
def uptoBulkEntry {H : Type} : Lit × DataW H → Nat
  | (.string bytes, d) => bytes.length + uptoBulk d + 1
  | (_, d) => uptoBulk d + 1
 end
def uptoSmall : (H : Type) → List (DataW H) → Bool := fun _ ds => decide (uptoBulkAll ds ≤ 1048576)
def OpenSpec.upto (s : _root_.Go.ChangeSpec) : _root_.Go.OpenSpec := { _root_.Go.OpenSpec.ofChange s with cond := some uptoSmall }

/-- 'bringuplaw28.SuspendAwake', WHERE WHAT IT READS IS OF BULK AT MOST 1048576: true; the input reads as it did. -/
def suspendAwakeUptoRow : OpenClaim := { program := "ytdicjhnhbdanlaa", sum := "612dd8608270c7962ba079ecc8f5ce17eb37a0083b73cd1c7ccb1026aa1d3c23", func := "bringup/bringuplaw28.SuspendAwake", spec := "suspendAwake", unfollowed := true, recurses := true, apart := false, narrowed := true }
def SuspendAwakeUptoSaid : Prop := suspendAwakeUptoRow.holds Try.pinned (OpenSpec.upto suspendAwakeSpec)

/-- 'bringuplaw28.SuspendExact', WHERE WHAT IT READS IS OF BULK AT MOST 1048576: true; the input reads as it did. -/
def suspendExactUptoRow : OpenClaim := { program := "ytdicjhnhbdanlaa", sum := "612dd8608270c7962ba079ecc8f5ce17eb37a0083b73cd1c7ccb1026aa1d3c23", func := "bringup/bringuplaw28.SuspendExact", spec := "suspendExact", unfollowed := true, recurses := true, apart := false, narrowed := true }
def SuspendExactUptoSaid : Prop := suspendExactUptoRow.holds Try.pinned (OpenSpec.upto suspendExactSpec)

/-- 'bringuplaw28.SuspendBack', WHERE WHAT IT READS IS OF BULK AT MOST 1048576: true; the input reads as it did. -/
def suspendBackUptoRow : OpenClaim := { program := "ytdicjhnhbdanlaa", sum := "612dd8608270c7962ba079ecc8f5ce17eb37a0083b73cd1c7ccb1026aa1d3c23", func := "bringup/bringuplaw28.SuspendBack", spec := "suspendBack", unfollowed := true, recurses := true, apart := false, narrowed := true }
def SuspendBackUptoSaid : Prop := suspendBackUptoRow.holds Try.pinned (OpenSpec.upto suspendBackSpec)

/-- 'bringuplaw28.SuspendSteps', WHERE WHAT IT READS IS OF BULK AT MOST 1048576: true; the input reads as it did. -/
def suspendStepsUptoRow : OpenClaim := { program := "ytdicjhnhbdanlaa", sum := "612dd8608270c7962ba079ecc8f5ce17eb37a0083b73cd1c7ccb1026aa1d3c23", func := "bringup/bringuplaw28.SuspendSteps", spec := "suspendSteps", unfollowed := true, recurses := true, apart := false, narrowed := true }
def SuspendStepsUptoSaid : Prop := suspendStepsUptoRow.holds Try.pinned (OpenSpec.upto suspendStepsSpec)

/-- 'bringuplaw28.SuspendNone', WHERE WHAT IT READS IS OF BULK AT MOST 1048576: true; the input reads as it did. -/
def suspendNoneUptoRow : OpenClaim := { program := "ytdicjhnhbdanlaa", sum := "612dd8608270c7962ba079ecc8f5ce17eb37a0083b73cd1c7ccb1026aa1d3c23", func := "bringup/bringuplaw28.SuspendNone", spec := "suspendNone", unfollowed := true, recurses := true, apart := false, narrowed := true }
def SuspendNoneUptoSaid : Prop := suspendNoneUptoRow.holds Try.pinned (OpenSpec.upto suspendNoneSpec)

end Rows
end Go.Proofs.Ytdicjhnhbdanlaa
