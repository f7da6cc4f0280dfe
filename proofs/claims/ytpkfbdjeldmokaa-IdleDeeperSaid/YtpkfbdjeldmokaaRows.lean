/-
  No cell of these rows narrows 'for every input' (looked for: loops, veiled, ifaces, maps, wideKeys, modest, calm, conditions, laid).
  DERIVED. THE GIVEN ROWS OF THIS SEAT. 6 by the template 'for every input the law returns true; each argument reads behind the call as it read before'; 0 by the template 'total and deterministic' (their statements: YtpkfbdjeldmokaaTotals.lean).
  GIVEN WITH THE SEED: the statements are not yours to turn. If you find one false, say at which input.
  Laid BY PROGRAM, IN A SANDBOX (cutbox-rows.mjs): the forced cells as the released guide's own fill.sh prints them over the translation 6a9dcd5662621536… (all of the seat's roots in one cut). By AI agents, Wed Nov 11 2026. No macro, syntax, notation, axiom, sorry.
-/
import Derived.Test.YtpkfbdjeldmokaaChecked
import GoSem.Claim
import GoSem.ClaimJoined
import GoSem.ClaimMapViews
import Derived.JoinedTies
import Derived.KernelRfl
namespace Go.Proofs.Ytpkfbdjeldmokaa
/- THE CELL 'sum', in the pinned program and in every row, IS THE sha256 OF THE DUMP (.gsa) THAT YtpkfbdjeldmokaaProg.lean LOADS. Nothing in Lean hashes anything: it is a label: what it is worth is what the hold of that sum in a sandbox is worth. -/
noncomputable def Try.pinned : Pinned := { name := "ytpkfbdjeldmokaa", sum := "6a9dcd56626215364022c2ae3dd2496faccc87c8e9b32d89514ba4584bdb57c1", checked := Try.checked }
namespace Rows
def none {H : Type} : Left H := { results := [], args := [] }

/-- 'bringuplaw26.IdleDeeper': WHATEVER THE INPUT: true; the input reads as it did. -/
def idleDeeperSpec : ChangeSpec := { name := "idleDeeper", fn := fun _ => fun
  | [d1, d2, d3, d4] => { results := [.lit (.bool true)], args := [d1, d2, d3, d4] }
  | _ => none }
def idleDeeperRow : OpenClaim := { program := "ytpkfbdjeldmokaa", sum := "6a9dcd56626215364022c2ae3dd2496faccc87c8e9b32d89514ba4584bdb57c1", func := "bringup/bringuplaw26.IdleDeeper", spec := "idleDeeper", unfollowed := true, recurses := true, apart := false }
def IdleDeeperSaid : Prop := idleDeeperRow.holds Try.pinned (OpenSpec.ofChange idleDeeperSpec)

/-- ITS FALSE NEIGHBOUR: 'it returns false'. Refute it at one input. -/
def idleDeeperWrong : ChangeSpec := { name := "idleDeeper", fn := fun _ => fun
  | [d1, d2, d3, d4] => { results := [.lit (.bool false)], args := [d1, d2, d3, d4] }
  | _ => none }
def IdleDeeperWrongFalsely : Prop := idleDeeperRow.holds Try.pinned (OpenSpec.ofChange idleDeeperWrong)

/-- 'bringuplaw26.IdleEnergy': WHATEVER THE INPUT: true; the input reads as it did. -/
def idleEnergySpec : ChangeSpec := { name := "idleEnergy", fn := fun _ => fun
  | [d1, d2, d3, d4] => { results := [.lit (.bool true)], args := [d1, d2, d3, d4] }
  | _ => none }
def idleEnergyRow : OpenClaim := { program := "ytpkfbdjeldmokaa", sum := "6a9dcd56626215364022c2ae3dd2496faccc87c8e9b32d89514ba4584bdb57c1", func := "bringup/bringuplaw26.IdleEnergy", spec := "idleEnergy", unfollowed := true, recurses := true, apart := false }
def IdleEnergySaid : Prop := idleEnergyRow.holds Try.pinned (OpenSpec.ofChange idleEnergySpec)

/-- ITS FALSE NEIGHBOUR: 'it returns false'. Refute it at one input. -/
def idleEnergyWrong : ChangeSpec := { name := "idleEnergy", fn := fun _ => fun
  | [d1, d2, d3, d4] => { results := [.lit (.bool false)], args := [d1, d2, d3, d4] }
  | _ => none }
def IdleEnergyWrongFalsely : Prop := idleEnergyRow.holds Try.pinned (OpenSpec.ofChange idleEnergyWrong)

/-- 'bringuplaw26.IdleTree': WHATEVER THE INPUT: true; the input reads as it did. -/
def idleTreeSpec : ChangeSpec := { name := "idleTree", fn := fun _ => fun
  | [d] => { results := [.lit (.bool true)], args := [d] }
  | _ => none }
def idleTreeRow : OpenClaim := { program := "ytpkfbdjeldmokaa", sum := "6a9dcd56626215364022c2ae3dd2496faccc87c8e9b32d89514ba4584bdb57c1", func := "bringup/bringuplaw26.IdleTree", spec := "idleTree", unfollowed := true, recurses := true, apart := false }
def IdleTreeSaid : Prop := idleTreeRow.holds Try.pinned (OpenSpec.ofChange idleTreeSpec)

/-- ITS FALSE NEIGHBOUR: 'it returns false'. Refute it at one input. -/
def idleTreeWrong : ChangeSpec := { name := "idleTree", fn := fun _ => fun
  | [d] => { results := [.lit (.bool false)], args := [d] }
  | _ => none }
def IdleTreeWrongFalsely : Prop := idleTreeRow.holds Try.pinned (OpenSpec.ofChange idleTreeWrong)

/-- 'bringuplaw26.IdleSpan': WHATEVER THE INPUT: true; the input reads as it did. -/
def idleSpanSpec : ChangeSpec := { name := "idleSpan", fn := fun _ => fun
  | [d1, d2, d3, d4] => { results := [.lit (.bool true)], args := [d1, d2, d3, d4] }
  | _ => none }
def idleSpanRow : OpenClaim := { program := "ytpkfbdjeldmokaa", sum := "6a9dcd56626215364022c2ae3dd2496faccc87c8e9b32d89514ba4584bdb57c1", func := "bringup/bringuplaw26.IdleSpan", spec := "idleSpan", unfollowed := true, recurses := true, apart := false }
def IdleSpanSaid : Prop := idleSpanRow.holds Try.pinned (OpenSpec.ofChange idleSpanSpec)

/-- ITS FALSE NEIGHBOUR: 'it returns false'. Refute it at one input. -/
def idleSpanWrong : ChangeSpec := { name := "idleSpan", fn := fun _ => fun
  | [d1, d2, d3, d4] => { results := [.lit (.bool false)], args := [d1, d2, d3, d4] }
  | _ => none }
def IdleSpanWrongFalsely : Prop := idleSpanRow.holds Try.pinned (OpenSpec.ofChange idleSpanWrong)

/-- 'bringuplaw26.IdleExact': WHATEVER THE INPUT: true; the input reads as it did. -/
def idleExactSpec : ChangeSpec := { name := "idleExact", fn := fun _ => fun
  | [d1, d2, d3, d4, d5, d6, d7, d8] => { results := [.lit (.bool true)], args := [d1, d2, d3, d4, d5, d6, d7, d8] }
  | _ => none }
def idleExactRow : OpenClaim := { program := "ytpkfbdjeldmokaa", sum := "6a9dcd56626215364022c2ae3dd2496faccc87c8e9b32d89514ba4584bdb57c1", func := "bringup/bringuplaw26.IdleExact", spec := "idleExact", unfollowed := true, recurses := true, apart := false }
def IdleExactSaid : Prop := idleExactRow.holds Try.pinned (OpenSpec.ofChange idleExactSpec)

/-- ITS FALSE NEIGHBOUR: 'it returns false'. Refute it at one input. -/
def idleExactWrong : ChangeSpec := { name := "idleExact", fn := fun _ => fun
  | [d1, d2, d3, d4, d5, d6, d7, d8] => { results := [.lit (.bool false)], args := [d1, d2, d3, d4, d5, d6, d7, d8] }
  | _ => none }
def IdleExactWrongFalsely : Prop := idleExactRow.holds Try.pinned (OpenSpec.ofChange idleExactWrong)

/-- 'bringuplaw26.IdleNested': WHATEVER THE INPUT: true; the input reads as it did. -/
def idleNestedSpec : ChangeSpec := { name := "idleNested", fn := fun _ => fun
  | [d] => { results := [.lit (.bool true)], args := [d] }
  | _ => none }
def idleNestedRow : OpenClaim := { program := "ytpkfbdjeldmokaa", sum := "6a9dcd56626215364022c2ae3dd2496faccc87c8e9b32d89514ba4584bdb57c1", func := "bringup/bringuplaw26.IdleNested", spec := "idleNested", unfollowed := true, recurses := true, apart := false }
def IdleNestedSaid : Prop := idleNestedRow.holds Try.pinned (OpenSpec.ofChange idleNestedSpec)

/-- ITS FALSE NEIGHBOUR: 'it returns false'. Refute it at one input. -/
def idleNestedWrong : ChangeSpec := { name := "idleNested", fn := fun _ => fun
  | [d] => { results := [.lit (.bool false)], args := [d] }
  | _ => none }
def IdleNestedWrongFalsely : Prop := idleNestedRow.holds Try.pinned (OpenSpec.ofChange idleNestedWrong)

/- THE SECOND FORM. 'bulk': how many values and letters a reading holds, each counted each time it is reached (what is shared counts as often as it is met; a slice's spare places count too). A statement '..UptoSaid' is the law's where the arguments, and the package variables that the reading takes, are together of bulk at most 1048576: NARROWER than '..Said'. Prove '..Said' where nothing that the law and all that it calls make is longer than what came in: it says more and counts as full. Else prove '..UptoSaid'. A law counts once. -/
mutual
def uptoBulk {H : Type} : DataW H → Nat
  | .lit (.string bytes) => bytes.length + 1
  | .lit _ => 1
  | .nil => 1
  | .ptr d => uptoBulk d + 1
  | .slice elems spare => uptoBulkAll elems + uptoBulkAll spare + 1
  | .agg parts => uptoBulkAll parts + 1
  | .iface _ d => uptoBulk d + 1
  | .map entries => uptoBulkEntries entries + 1
  | .held _ => 1
def uptoBulkAll {H : Type} : List (DataW H) → Nat
  | [] => 0
  | d :: r => uptoBulk d + uptoBulkAll r
def uptoBulkEntries {H : Type} : List (Lit × DataW H) → Nat
  | [] => 0
  | x :: r => uptoBulkEntry x + uptoBulkEntries r
def uptoBulkEntry {H : Type} : Lit × DataW H → Nat
  | (.string bytes, d) => bytes.length + uptoBulk d + 1
  | (_, d) => uptoBulk d + 1
 end
def uptoSmall : (H : Type) → List (DataW H) → Bool := fun _ ds => decide (uptoBulkAll ds ≤ 1048576)
def OpenSpec.upto (s : _root_.Go.ChangeSpec) : _root_.Go.OpenSpec := { _root_.Go.OpenSpec.ofChange s with cond := some uptoSmall }

/-- 'bringuplaw26.IdleDeeper', WHERE WHAT IT READS IS OF BULK AT MOST 1048576: true; the input reads as it did. -/
def idleDeeperUptoRow : OpenClaim := { program := "ytpkfbdjeldmokaa", sum := "6a9dcd56626215364022c2ae3dd2496faccc87c8e9b32d89514ba4584bdb57c1", func := "bringup/bringuplaw26.IdleDeeper", spec := "idleDeeper", unfollowed := true, recurses := true, apart := false, narrowed := true }
def IdleDeeperUptoSaid : Prop := idleDeeperUptoRow.holds Try.pinned (OpenSpec.upto idleDeeperSpec)

/-- 'bringuplaw26.IdleEnergy', WHERE WHAT IT READS IS OF BULK AT MOST 1048576: true; the input reads as it did. -/
def idleEnergyUptoRow : OpenClaim := { program := "ytpkfbdjeldmokaa", sum := "6a9dcd56626215364022c2ae3dd2496faccc87c8e9b32d89514ba4584bdb57c1", func := "bringup/bringuplaw26.IdleEnergy", spec := "idleEnergy", unfollowed := true, recurses := true, apart := false, narrowed := true }
def IdleEnergyUptoSaid : Prop := idleEnergyUptoRow.holds Try.pinned (OpenSpec.upto idleEnergySpec)

/-- 'bringuplaw26.IdleTree', WHERE WHAT IT READS IS OF BULK AT MOST 1048576: true; the input reads as it did. -/
def idleTreeUptoRow : OpenClaim := { program := "ytpkfbdjeldmokaa", sum := "6a9dcd56626215364022c2ae3dd2496faccc87c8e9b32d89514ba4584bdb57c1", func := "bringup/bringuplaw26.IdleTree", spec := "idleTree", unfollowed := true, recurses := true, apart := false, narrowed := true }
def IdleTreeUptoSaid : Prop := idleTreeUptoRow.holds Try.pinned (OpenSpec.upto idleTreeSpec)

/-- 'bringuplaw26.IdleSpan', WHERE WHAT IT READS IS OF BULK AT MOST 1048576: true; the input reads as it did. -/
def idleSpanUptoRow : OpenClaim := { program := "ytpkfbdjeldmokaa", sum := "6a9dcd56626215364022c2ae3dd2496faccc87c8e9b32d89514ba4584bdb57c1", func := "bringup/bringuplaw26.IdleSpan", spec := "idleSpan", unfollowed := true, recurses := true, apart := false, narrowed := true }
def IdleSpanUptoSaid : Prop := idleSpanUptoRow.holds Try.pinned (OpenSpec.upto idleSpanSpec)

/-- 'bringuplaw26.IdleExact', WHERE WHAT IT READS IS OF BULK AT MOST 1048576: true; the input reads as it did. -/
def idleExactUptoRow : OpenClaim := { program := "ytpkfbdjeldmokaa", sum := "6a9dcd56626215364022c2ae3dd2496faccc87c8e9b32d89514ba4584bdb57c1", func := "bringup/bringuplaw26.IdleExact", spec := "idleExact", unfollowed := true, recurses := true, apart := false, narrowed := true }
def IdleExactUptoSaid : Prop := idleExactUptoRow.holds Try.pinned (OpenSpec.upto idleExactSpec)

/-- 'bringuplaw26.IdleNested', WHERE WHAT IT READS IS OF BULK AT MOST 1048576: true; the input reads as it did. -/
def idleNestedUptoRow : OpenClaim := { program := "ytpkfbdjeldmokaa", sum := "6a9dcd56626215364022c2ae3dd2496faccc87c8e9b32d89514ba4584bdb57c1", func := "bringup/bringuplaw26.IdleNested", spec := "idleNested", unfollowed := true, recurses := true, apart := false, narrowed := true }
def IdleNestedUptoSaid : Prop := idleNestedUptoRow.holds Try.pinned (OpenSpec.upto idleNestedSpec)

end Rows
end Go.Proofs.Ytpkfbdjeldmokaa
