/-
  No cell of these rows narrows 'for every input' (looked for: loops, veiled, ifaces, maps, wideKeys, modest, calm, conditions, laid).
  DERIVED. THE GIVEN ROWS OF THIS SEAT. 6 by the template 'for every input the law returns true; each argument reads behind the call as it read before'; 0 by the template 'total and deterministic' (their statements: YtnafamlphnnmhaaTotals.lean).
  GIVEN WITH THE SEED: the statements are not yours to turn. If you find one false, say at which input.
  Laid BY PROGRAM, IN A SANDBOX (cutbox-rows.mjs): the forced cells as the released guide's own fill.sh prints them over the translation a06e91feb2361add… (all of the seat's roots in one cut). By AI agents, Wed Nov 11 2026. No macro, syntax, notation, axiom, sorry.
-/
import Derived.Test.YtnafamlphnnmhaaChecked
import GoSem.Claim
import GoSem.ClaimJoined
import GoSem.ClaimMapViews
import Derived.JoinedTies
import Derived.KernelRfl
namespace Go.Proofs.Ytnafamlphnnmhaa
/- THE CELL 'sum', in the pinned program and in every row, IS THE sha256 OF THE DUMP (.gsa) THAT YtnafamlphnnmhaaProg.lean LOADS. Nothing in Lean hashes anything: it is a label: what it is worth is what the hold of that sum in a sandbox is worth. -/
noncomputable def Try.pinned : Pinned := { name := "ytnafamlphnnmhaa", sum := "a06e91feb2361add0b370dd8054a68c9fadaeb17e8ee595105ed67e426adaf42", checked := Try.checked }
namespace Rows
def none {H : Type} : Left H := { results := [], args := [] }

/-- 'bringuplaw24.ResetChain': WHATEVER THE INPUT: true; the input reads as it did. -/
def resetChainSpec : ChangeSpec := { name := "resetChain", fn := fun _ => fun
  | [d] => { results := [.lit (.bool true)], args := [d] }
  | _ => none }
def resetChainRow : OpenClaim := { program := "ytnafamlphnnmhaa", sum := "a06e91feb2361add0b370dd8054a68c9fadaeb17e8ee595105ed67e426adaf42", func := "bringup/bringuplaw24.ResetChain", spec := "resetChain", unfollowed := true, recurses := true, apart := false }
def ResetChainSaid : Prop := resetChainRow.holds Try.pinned (OpenSpec.ofChange resetChainSpec)

/-- ITS FALSE NEIGHBOUR: 'it returns false'. Refute it at one input. -/
def resetChainWrong : ChangeSpec := { name := "resetChain", fn := fun _ => fun
  | [d] => { results := [.lit (.bool false)], args := [d] }
  | _ => none }
def ResetChainWrongFalsely : Prop := resetChainRow.holds Try.pinned (OpenSpec.ofChange resetChainWrong)

/-- 'bringuplaw24.ResetRefuses': WHATEVER THE INPUT: true; the input reads as it did. -/
def resetRefusesSpec : ChangeSpec := { name := "resetRefuses", fn := fun _ => fun
  | [d1, d2] => { results := [.lit (.bool true)], args := [d1, d2] }
  | _ => none }
def resetRefusesRow : OpenClaim := { program := "ytnafamlphnnmhaa", sum := "a06e91feb2361add0b370dd8054a68c9fadaeb17e8ee595105ed67e426adaf42", func := "bringup/bringuplaw24.ResetRefuses", spec := "resetRefuses", unfollowed := true, recurses := true, apart := false }
def ResetRefusesSaid : Prop := resetRefusesRow.holds Try.pinned (OpenSpec.ofChange resetRefusesSpec)

/-- ITS FALSE NEIGHBOUR: 'it returns false'. Refute it at one input. -/
def resetRefusesWrong : ChangeSpec := { name := "resetRefuses", fn := fun _ => fun
  | [d1, d2] => { results := [.lit (.bool false)], args := [d1, d2] }
  | _ => none }
def ResetRefusesWrongFalsely : Prop := resetRefusesRow.holds Try.pinned (OpenSpec.ofChange resetRefusesWrong)

/-- 'bringuplaw24.ResetLeast': WHATEVER THE INPUT: true; the input reads as it did. -/
def resetLeastSpec : ChangeSpec := { name := "resetLeast", fn := fun _ => fun
  | [d1, d2] => { results := [.lit (.bool true)], args := [d1, d2] }
  | _ => none }
def resetLeastRow : OpenClaim := { program := "ytnafamlphnnmhaa", sum := "a06e91feb2361add0b370dd8054a68c9fadaeb17e8ee595105ed67e426adaf42", func := "bringup/bringuplaw24.ResetLeast", spec := "resetLeast", unfollowed := true, recurses := true, apart := false }
def ResetLeastSaid : Prop := resetLeastRow.holds Try.pinned (OpenSpec.ofChange resetLeastSpec)

/-- ITS FALSE NEIGHBOUR: 'it returns false'. Refute it at one input. -/
def resetLeastWrong : ChangeSpec := { name := "resetLeast", fn := fun _ => fun
  | [d1, d2] => { results := [.lit (.bool false)], args := [d1, d2] }
  | _ => none }
def ResetLeastWrongFalsely : Prop := resetLeastRow.holds Try.pinned (OpenSpec.ofChange resetLeastWrong)

/-- 'bringuplaw24.ResetUnion': WHATEVER THE INPUT: true; the input reads as it did. -/
def resetUnionSpec : ChangeSpec := { name := "resetUnion", fn := fun _ => fun
  | [d1, d2, d3] => { results := [.lit (.bool true)], args := [d1, d2, d3] }
  | _ => none }
def resetUnionRow : OpenClaim := { program := "ytnafamlphnnmhaa", sum := "a06e91feb2361add0b370dd8054a68c9fadaeb17e8ee595105ed67e426adaf42", func := "bringup/bringuplaw24.ResetUnion", spec := "resetUnion", unfollowed := true, recurses := true, apart := false }
def ResetUnionSaid : Prop := resetUnionRow.holds Try.pinned (OpenSpec.ofChange resetUnionSpec)

/-- ITS FALSE NEIGHBOUR: 'it returns false'. Refute it at one input. -/
def resetUnionWrong : ChangeSpec := { name := "resetUnion", fn := fun _ => fun
  | [d1, d2, d3] => { results := [.lit (.bool false)], args := [d1, d2, d3] }
  | _ => none }
def ResetUnionWrongFalsely : Prop := resetUnionRow.holds Try.pinned (OpenSpec.ofChange resetUnionWrong)

/-- 'bringuplaw24.ResetPlans': WHATEVER THE INPUT: true; the input reads as it did. -/
def resetPlansSpec : ChangeSpec := { name := "resetPlans", fn := fun _ => fun
  | [d] => { results := [.lit (.bool true)], args := [d] }
  | _ => none }
def resetPlansRow : OpenClaim := { program := "ytnafamlphnnmhaa", sum := "a06e91feb2361add0b370dd8054a68c9fadaeb17e8ee595105ed67e426adaf42", func := "bringup/bringuplaw24.ResetPlans", spec := "resetPlans", unfollowed := true, recurses := true, apart := false }
def ResetPlansSaid : Prop := resetPlansRow.holds Try.pinned (OpenSpec.ofChange resetPlansSpec)

/-- ITS FALSE NEIGHBOUR: 'it returns false'. Refute it at one input. -/
def resetPlansWrong : ChangeSpec := { name := "resetPlans", fn := fun _ => fun
  | [d] => { results := [.lit (.bool false)], args := [d] }
  | _ => none }
def ResetPlansWrongFalsely : Prop := resetPlansRow.holds Try.pinned (OpenSpec.ofChange resetPlansWrong)

/-- 'bringuplaw24.ResetExact': WHATEVER THE INPUT: true; the input reads as it did. -/
def resetExactSpec : ChangeSpec := { name := "resetExact", fn := fun _ => fun
  | [d1, d2, d3, d4, d5, d6, d7] => { results := [.lit (.bool true)], args := [d1, d2, d3, d4, d5, d6, d7] }
  | _ => none }
def resetExactRow : OpenClaim := { program := "ytnafamlphnnmhaa", sum := "a06e91feb2361add0b370dd8054a68c9fadaeb17e8ee595105ed67e426adaf42", func := "bringup/bringuplaw24.ResetExact", spec := "resetExact", unfollowed := true, recurses := true, apart := false }
def ResetExactSaid : Prop := resetExactRow.holds Try.pinned (OpenSpec.ofChange resetExactSpec)

/-- ITS FALSE NEIGHBOUR: 'it returns false'. Refute it at one input. -/
def resetExactWrong : ChangeSpec := { name := "resetExact", fn := fun _ => fun
  | [d1, d2, d3, d4, d5, d6, d7] => { results := [.lit (.bool false)], args := [d1, d2, d3, d4, d5, d6, d7] }
  | _ => none }
def ResetExactWrongFalsely : Prop := resetExactRow.holds Try.pinned (OpenSpec.ofChange resetExactWrong)

/- THE SECOND FORM. 'bulk': how many values and letters a reading holds, each counted each time it is reached (what is shared counts as often as it is met; a slice's spare places count too). A statement '..UptoSaid' is the law's where the arguments, and the package variables that the reading takes, are together of bulk at most 1048576: NARROWER than '..Said'. Prove '..Said' where nothing that the law and all that it calls make is longer than what came in: it says more and counts as full. Else prove '..UptoSaid'. A law counts once. -/
mutual
def uptoBulk {H : Type} : DataW H → Nat
  | .lit (.string bytes) => bytes.length + 1
  | .lit _ => 1
  | .nil => 1
  | .ptr d => uptoBulk d + 1
  | .slice elems spare => uptoBulkAll elems + uptoBulkAll spare + 1
  | .agg parts => uptoBulkAll parts + 1
  | .iface _ d => uptoBulk d + 1
  | .map entries => uptoBulkEntries entries + 1
  | .held _ => 1
def uptoBulkAll {H : Type} : List (DataW H) → Nat
  | [] => 0
  | d :: r => uptoBulk d + uptoBulkAll r
def uptoBulkEntries {H : Type} : List (Lit × DataW H) → Nat
  | [] => 0
  | x :: r => uptoBulkEntry x + uptoBulkEntries r
def uptoBulkEntry {H : Type} : Lit × DataW H → Nat
  | (.string bytes, d) => bytes.length + uptoBulk d + 1
  | (_, d) => uptoBulk d + 1
 end
def uptoSmall : (H : Type) → List (DataW H) → Bool := fun _ ds => decide (uptoBulkAll ds ≤ 1048576)
def OpenSpec.upto (s : _root_.Go.ChangeSpec) : _root_.Go.OpenSpec := { _root_.Go.OpenSpec.ofChange s with cond := some uptoSmall }

/-- 'bringuplaw24.ResetChain', WHERE WHAT IT READS IS OF BULK AT MOST 1048576: true; the input reads as it did. -/
def resetChainUptoRow : OpenClaim := { program := "ytnafamlphnnmhaa", sum := "a06e91feb2361add0b370dd8054a68c9fadaeb17e8ee595105ed67e426adaf42", func := "bringup/bringuplaw24.ResetChain", spec := "resetChain", unfollowed := true, recurses := true, apart := false, narrowed := true }
def ResetChainUptoSaid : Prop := resetChainUptoRow.holds Try.pinned (OpenSpec.upto resetChainSpec)

/-- 'bringuplaw24.ResetRefuses', WHERE WHAT IT READS IS OF BULK AT MOST 1048576: true; the input reads as it did. -/
def resetRefusesUptoRow : OpenClaim := { program := "ytnafamlphnnmhaa", sum := "a06e91feb2361add0b370dd8054a68c9fadaeb17e8ee595105ed67e426adaf42", func := "bringup/bringuplaw24.ResetRefuses", spec := "resetRefuses", unfollowed := true, recurses := true, apart := false, narrowed := true }
def ResetRefusesUptoSaid : Prop := resetRefusesUptoRow.holds Try.pinned (OpenSpec.upto resetRefusesSpec)

/-- 'bringuplaw24.ResetLeast', WHERE WHAT IT READS IS OF BULK AT MOST 1048576: true; the input reads as it did. -/
def resetLeastUptoRow : OpenClaim := { program := "ytnafamlphnnmhaa", sum := "a06e91feb2361add0b370dd8054a68c9fadaeb17e8ee595105ed67e426adaf42", func := "bringup/bringuplaw24.ResetLeast", spec := "resetLeast", unfollowed := true, recurses := true, apart := false, narrowed := true }
def ResetLeastUptoSaid : Prop := resetLeastUptoRow.holds Try.pinned (OpenSpec.upto resetLeastSpec)

/-- 'bringuplaw24.ResetUnion', WHERE WHAT IT READS IS OF BULK AT MOST 1048576: true; the input reads as it did. -/
def resetUnionUptoRow : OpenClaim := { program := "ytnafamlphnnmhaa", sum := "a06e91feb2361add0b370dd8054a68c9fadaeb17e8ee595105ed67e426adaf42", func := "bringup/bringuplaw24.ResetUnion", spec := "resetUnion", unfollowed := true, recurses := true, apart := false, narrowed := true }
def ResetUnionUptoSaid : Prop := resetUnionUptoRow.holds Try.pinned (OpenSpec.upto resetUnionSpec)

/-- 'bringuplaw24.ResetPlans', WHERE WHAT IT READS IS OF BULK AT MOST 1048576: true; the input reads as it did. -/
def resetPlansUptoRow : OpenClaim := { program := "ytnafamlphnnmhaa", sum := "a06e91feb2361add0b370dd8054a68c9fadaeb17e8ee595105ed67e426adaf42", func := "bringup/bringuplaw24.ResetPlans", spec := "resetPlans", unfollowed := true, recurses := true, apart := false, narrowed := true }
def ResetPlansUptoSaid : Prop := resetPlansUptoRow.holds Try.pinned (OpenSpec.upto resetPlansSpec)

/-- 'bringuplaw24.ResetExact', WHERE WHAT IT READS IS OF BULK AT MOST 1048576: true; the input reads as it did. -/
def resetExactUptoRow : OpenClaim := { program := "ytnafamlphnnmhaa", sum := "a06e91feb2361add0b370dd8054a68c9fadaeb17e8ee595105ed67e426adaf42", func := "bringup/bringuplaw24.ResetExact", spec := "resetExact", unfollowed := true, recurses := true, apart := false, narrowed := true }
def ResetExactUptoSaid : Prop := resetExactUptoRow.holds Try.pinned (OpenSpec.upto resetExactSpec)

end Rows
end Go.Proofs.Ytnafamlphnnmhaa
