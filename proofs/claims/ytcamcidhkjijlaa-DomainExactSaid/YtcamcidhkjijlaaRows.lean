/-
  No cell of these rows narrows 'for every input' (looked for: loops, veiled, ifaces, maps, wideKeys, modest, calm, conditions, laid).
  DERIVED. THE GIVEN ROWS OF THIS SEAT. 6 by the template 'for every input the law returns true; each argument reads behind the call as it read before'; 0 by the template 'total and deterministic' (their statements: YtcamcidhkjijlaaTotals.lean).
  GIVEN WITH THE SEED: the statements are not yours to turn. If you find one false, say at which input.
  Laid BY PROGRAM, IN A SANDBOX (cutbox-rows.mjs): the forced cells as the released guide's own fill.sh prints them over the translation 20be3e43e646b696… (all of the seat's roots in one cut). By AI agents, Wed Nov 11 2026. No macro, syntax, notation, axiom, sorry.
-/
import Derived.Test.YtcamcidhkjijlaaChecked
import GoSem.Claim
import GoSem.ClaimJoined
import GoSem.ClaimMapViews
import Derived.JoinedTies
import Derived.KernelRfl
namespace Go.Proofs.Ytcamcidhkjijlaa
/- THE CELL 'sum', in the pinned program and in every row, IS THE sha256 OF THE DUMP (.gsa) THAT YtcamcidhkjijlaaProg.lean LOADS. Nothing in Lean hashes anything: it is a label: what it is worth is what the hold of that sum in a sandbox is worth. -/
noncomputable def Try.pinned : Pinned := { name := "ytcamcidhkjijlaa", sum := "20be3e43e646b69694d6b467308755e5ae084e6489aa8440db9277ac37d3c9e5", checked := Try.checked }
namespace Rows
def none {H : Type} : Left H := { results := [], args := [] }

/-- 'bringuplaw25.DomainUnion': WHATEVER THE INPUT: true; the input reads as it did. -/
def domainUnionSpec : ChangeSpec := { name := "domainUnion", fn := fun _ => fun
  | [d] => { results := [.lit (.bool true)], args := [d] }
  | _ => none }
def domainUnionRow : OpenClaim := { program := "ytcamcidhkjijlaa", sum := "20be3e43e646b69694d6b467308755e5ae084e6489aa8440db9277ac37d3c9e5", func := "bringup/bringuplaw25.DomainUnion", spec := "domainUnion", apart := false }
def DomainUnionSaid : Prop := domainUnionRow.holds Try.pinned (OpenSpec.ofChange domainUnionSpec)

/-- ITS FALSE NEIGHBOUR: 'it returns false'. Refute it at one input. -/
def domainUnionWrong : ChangeSpec := { name := "domainUnion", fn := fun _ => fun
  | [d] => { results := [.lit (.bool false)], args := [d] }
  | _ => none }
def DomainUnionWrongFalsely : Prop := domainUnionRow.holds Try.pinned (OpenSpec.ofChange domainUnionWrong)

/-- 'bringuplaw25.DomainChain': WHATEVER THE INPUT: true; the input reads as it did. -/
def domainChainSpec : ChangeSpec := { name := "domainChain", fn := fun _ => fun
  | [d1, d2] => { results := [.lit (.bool true)], args := [d1, d2] }
  | _ => none }
def domainChainRow : OpenClaim := { program := "ytcamcidhkjijlaa", sum := "20be3e43e646b69694d6b467308755e5ae084e6489aa8440db9277ac37d3c9e5", func := "bringup/bringuplaw25.DomainChain", spec := "domainChain", apart := false }
def DomainChainSaid : Prop := domainChainRow.holds Try.pinned (OpenSpec.ofChange domainChainSpec)

/-- ITS FALSE NEIGHBOUR: 'it returns false'. Refute it at one input. -/
def domainChainWrong : ChangeSpec := { name := "domainChain", fn := fun _ => fun
  | [d1, d2] => { results := [.lit (.bool false)], args := [d1, d2] }
  | _ => none }
def DomainChainWrongFalsely : Prop := domainChainRow.holds Try.pinned (OpenSpec.ofChange domainChainWrong)

/-- 'bringuplaw25.DomainLeast': WHATEVER THE INPUT: true; the input reads as it did. -/
def domainLeastSpec : ChangeSpec := { name := "domainLeast", fn := fun _ => fun
  | [d1, d2] => { results := [.lit (.bool true)], args := [d1, d2] }
  | _ => none }
def domainLeastRow : OpenClaim := { program := "ytcamcidhkjijlaa", sum := "20be3e43e646b69694d6b467308755e5ae084e6489aa8440db9277ac37d3c9e5", func := "bringup/bringuplaw25.DomainLeast", spec := "domainLeast", apart := false }
def DomainLeastSaid : Prop := domainLeastRow.holds Try.pinned (OpenSpec.ofChange domainLeastSpec)

/-- ITS FALSE NEIGHBOUR: 'it returns false'. Refute it at one input. -/
def domainLeastWrong : ChangeSpec := { name := "domainLeast", fn := fun _ => fun
  | [d1, d2] => { results := [.lit (.bool false)], args := [d1, d2] }
  | _ => none }
def DomainLeastWrongFalsely : Prop := domainLeastRow.holds Try.pinned (OpenSpec.ofChange domainLeastWrong)

/-- 'bringuplaw25.DomainExact': WHATEVER THE INPUT: true; the input reads as it did. -/
def domainExactSpec : ChangeSpec := { name := "domainExact", fn := fun _ => fun
  | [d1, d2, d3, d4, d5, d6, d7] => { results := [.lit (.bool true)], args := [d1, d2, d3, d4, d5, d6, d7] }
  | _ => none }
def domainExactRow : OpenClaim := { program := "ytcamcidhkjijlaa", sum := "20be3e43e646b69694d6b467308755e5ae084e6489aa8440db9277ac37d3c9e5", func := "bringup/bringuplaw25.DomainExact", spec := "domainExact", apart := false }
def DomainExactSaid : Prop := domainExactRow.holds Try.pinned (OpenSpec.ofChange domainExactSpec)

/-- ITS FALSE NEIGHBOUR: 'it returns false'. Refute it at one input. -/
def domainExactWrong : ChangeSpec := { name := "domainExact", fn := fun _ => fun
  | [d1, d2, d3, d4, d5, d6, d7] => { results := [.lit (.bool false)], args := [d1, d2, d3, d4, d5, d6, d7] }
  | _ => none }
def DomainExactWrongFalsely : Prop := domainExactRow.holds Try.pinned (OpenSpec.ofChange domainExactWrong)

/-- 'bringuplaw25.DomainPlans': WHATEVER THE INPUT: true; the input reads as it did. -/
def domainPlansSpec : ChangeSpec := { name := "domainPlans", fn := fun _ => fun
  | [d] => { results := [.lit (.bool true)], args := [d] }
  | _ => none }
def domainPlansRow : OpenClaim := { program := "ytcamcidhkjijlaa", sum := "20be3e43e646b69694d6b467308755e5ae084e6489aa8440db9277ac37d3c9e5", func := "bringup/bringuplaw25.DomainPlans", spec := "domainPlans", apart := false }
def DomainPlansSaid : Prop := domainPlansRow.holds Try.pinned (OpenSpec.ofChange domainPlansSpec)

/-- ITS FALSE NEIGHBOUR: 'it returns false'. Refute it at one input. -/
def domainPlansWrong : ChangeSpec := { name := "domainPlans", fn := fun _ => fun
  | [d] => { results := [.lit (.bool false)], args := [d] }
  | _ => none }
def DomainPlansWrongFalsely : Prop := domainPlansRow.holds Try.pinned (OpenSpec.ofChange domainPlansWrong)

/-- 'bringuplaw25.DomainRefuses': WHATEVER THE INPUT: true; the input reads as it did. -/
def domainRefusesSpec : ChangeSpec := { name := "domainRefuses", fn := fun _ => fun
  | [d1, d2] => { results := [.lit (.bool true)], args := [d1, d2] }
  | _ => none }
def domainRefusesRow : OpenClaim := { program := "ytcamcidhkjijlaa", sum := "20be3e43e646b69694d6b467308755e5ae084e6489aa8440db9277ac37d3c9e5", func := "bringup/bringuplaw25.DomainRefuses", spec := "domainRefuses", apart := false }
def DomainRefusesSaid : Prop := domainRefusesRow.holds Try.pinned (OpenSpec.ofChange domainRefusesSpec)

/-- ITS FALSE NEIGHBOUR: 'it returns false'. Refute it at one input. -/
def domainRefusesWrong : ChangeSpec := { name := "domainRefuses", fn := fun _ => fun
  | [d1, d2] => { results := [.lit (.bool false)], args := [d1, d2] }
  | _ => none }
def DomainRefusesWrongFalsely : Prop := domainRefusesRow.holds Try.pinned (OpenSpec.ofChange domainRefusesWrong)

/- THE SECOND FORM. 'bulk': how many values and letters a reading holds, each counted each time it is reached (what is shared counts as often as it is met; a slice's spare places count too). A statement '..UptoSaid' is the law's where the arguments, and the package variables that the reading takes, are together of bulk at most 1048576: NARROWER than '..Said'. Prove '..Said' where nothing that the law and all that it calls make is longer than what came in: it says more and counts as full. Else prove '..UptoSaid'. A law counts once. -/
mutual
def uptoBulk {H : Type} : DataW H → Nat
  | .lit (.string bytes) => bytes.length + 1
  | .lit _ => 1
  | .nil => 1
  | .ptr d => uptoBulk d + 1
  | .slice elems spare => uptoBulkAll elems + uptoBulkAll spare + 1
  | .agg parts => uptoBulkAll parts + 1
  | .iface _ d => uptoBulk d + 1
  | .map entries => uptoBulkEntries entries + 1
  | .held _ => 1
def uptoBulkAll {H : Type} : List (DataW H) → Nat
  | [] => 0
  | d :: r => uptoBulk d + uptoBulkAll r
def uptoBulkEntries {H : Type} : List (Lit × DataW H) → Nat
  | [] => 0
  | x :: r => uptoBulkEntry x + uptoBulkEntries r
def uptoBulkEntry {H : Type} : Lit × DataW H → Nat
  | (.string bytes, d) => bytes.length + uptoBulk d + 1
  | (_, d) => uptoBulk d + 1
 end
def uptoSmall : (H : Type) → List (DataW H) → Bool := fun _ ds => decide (uptoBulkAll ds ≤ 1048576)
def OpenSpec.upto (s : _root_.Go.ChangeSpec) : _root_.Go.OpenSpec := { _root_.Go.OpenSpec.ofChange s with cond := some uptoSmall }

/-- 'bringuplaw25.DomainUnion', WHERE WHAT IT READS IS OF BULK AT MOST 1048576: true; the input reads as it did. -/
def domainUnionUptoRow : OpenClaim := { program := "ytcamcidhkjijlaa", sum := "20be3e43e646b69694d6b467308755e5ae084e6489aa8440db9277ac37d3c9e5", func := "bringup/bringuplaw25.DomainUnion", spec := "domainUnion", apart := false, narrowed := true }
def DomainUnionUptoSaid : Prop := domainUnionUptoRow.holds Try.pinned (OpenSpec.upto domainUnionSpec)

/-- 'bringuplaw25.DomainChain', WHERE WHAT IT READS IS OF BULK AT MOST 1048576: true; the input reads as it did. -/
def domainChainUptoRow : OpenClaim := { program := "ytcamcidhkjijlaa", sum := "20be3e43e646b69694d6b467308755e5ae084e6489aa8440db9277ac37d3c9e5", func := "bringup/bringuplaw25.DomainChain", spec := "domainChain", apart := false, narrowed := true }
def DomainChainUptoSaid : Prop := domainChainUptoRow.holds Try.pinned (OpenSpec.upto domainChainSpec)

/-- 'bringuplaw25.DomainLeast', WHERE WHAT IT READS IS OF BULK AT MOST 1048576: true; the input reads as it did. -/
def domainLeastUptoRow : OpenClaim := { program := "ytcamcidhkjijlaa", sum := "20be3e43e646b69694d6b467308755e5ae084e6489aa8440db9277ac37d3c9e5", func := "bringup/bringuplaw25.DomainLeast", spec := "domainLeast", apart := false, narrowed := true }
def DomainLeastUptoSaid : Prop := domainLeastUptoRow.holds Try.pinned (OpenSpec.upto domainLeastSpec)

/-- 'bringuplaw25.DomainExact', WHERE WHAT IT READS IS OF BULK AT MOST 1048576: true; the input reads as it did. -/
def domainExactUptoRow : OpenClaim := { program := "ytcamcidhkjijlaa", sum := "20be3e43e646b69694d6b467308755e5ae084e6489aa8440db9277ac37d3c9e5", func := "bringup/bringuplaw25.DomainExact", spec := "domainExact", apart := false, narrowed := true }
def DomainExactUptoSaid : Prop := domainExactUptoRow.holds Try.pinned (OpenSpec.upto domainExactSpec)

/-- 'bringuplaw25.DomainPlans', WHERE WHAT IT READS IS OF BULK AT MOST 1048576: true; the input reads as it did. -/
def domainPlansUptoRow : OpenClaim := { program := "ytcamcidhkjijlaa", sum := "20be3e43e646b69694d6b467308755e5ae084e6489aa8440db9277ac37d3c9e5", func := "bringup/bringuplaw25.DomainPlans", spec := "domainPlans", apart := false, narrowed := true }
def DomainPlansUptoSaid : Prop := domainPlansUptoRow.holds Try.pinned (OpenSpec.upto domainPlansSpec)

/-- 'bringuplaw25.DomainRefuses', WHERE WHAT IT READS IS OF BULK AT MOST 1048576: true; the input reads as it did. -/
def domainRefusesUptoRow : OpenClaim := { program := "ytcamcidhkjijlaa", sum := "20be3e43e646b69694d6b467308755e5ae084e6489aa8440db9277ac37d3c9e5", func := "bringup/bringuplaw25.DomainRefuses", spec := "domainRefuses", apart := false, narrowed := true }
def DomainRefusesUptoSaid : Prop := domainRefusesUptoRow.holds Try.pinned (OpenSpec.upto domainRefusesSpec)

end Rows
end Go.Proofs.Ytcamcidhkjijlaa
