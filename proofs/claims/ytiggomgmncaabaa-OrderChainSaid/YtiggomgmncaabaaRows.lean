/-
  No cell of these rows narrows 'for every input' (looked for: loops, veiled, ifaces, maps, wideKeys, modest, calm, conditions, laid).
  DERIVED. THE GIVEN ROWS OF THIS SEAT. 7 by the template 'for every input the law returns true; each argument reads behind the call as it read before'; 0 by the template 'total and deterministic' (their statements: YtiggomgmncaabaaTotals.lean).
  GIVEN WITH THE SEED: the statements are not yours to turn. If you find one false, say at which input.
  Laid BY PROGRAM, IN A SANDBOX (cutbox-rows.mjs): the forced cells as the released guide's own fill.sh prints them over the translation 1d35e1f70e29781e… (all of the seat's roots in one cut). By AI agents, Wed Nov 11 2026. No macro, syntax, notation, axiom, sorry.
-/
import Derived.Test.YtiggomgmncaabaaChecked
import GoSem.Claim
import GoSem.ClaimJoined
import GoSem.ClaimMapViews
import Derived.JoinedTies
import Derived.KernelRfl
namespace Go.Proofs.Ytiggomgmncaabaa
/- THE CELL 'sum', in the pinned program and in every row, IS THE sha256 OF THE DUMP (.gsa) THAT YtiggomgmncaabaaProg.lean LOADS. Nothing in Lean hashes anything: it is a label: what it is worth is what the hold of that sum in a sandbox is worth. -/
noncomputable def Try.pinned : Pinned := { name := "ytiggomgmncaabaa", sum := "1d35e1f70e29781e2e8f141e3da1a31dcf9f6d76b6990d668b15fed1116de00d", checked := Try.checked }
namespace Rows
def none {H : Type} : Left H := { results := [], args := [] }

/-- 'bringuplaw27.OrderRenames': WHATEVER THE INPUT: true; the input reads as it did. -/
def orderRenamesSpec : ChangeSpec := { name := "orderRenames", fn := fun _ => fun
  | [d] => { results := [.lit (.bool true)], args := [d] }
  | _ => none }
def orderRenamesRow : OpenClaim := { program := "ytiggomgmncaabaa", sum := "1d35e1f70e29781e2e8f141e3da1a31dcf9f6d76b6990d668b15fed1116de00d", func := "bringup/bringuplaw27.OrderRenames", spec := "orderRenames", unfollowed := true, recurses := true, apart := false }
def OrderRenamesSaid : Prop := orderRenamesRow.holds Try.pinned (OpenSpec.ofChange orderRenamesSpec)

/-- ITS FALSE NEIGHBOUR: 'it returns false'. Refute it at one input. -/
def orderRenamesWrong : ChangeSpec := { name := "orderRenames", fn := fun _ => fun
  | [d] => { results := [.lit (.bool false)], args := [d] }
  | _ => none }
def OrderRenamesWrongFalsely : Prop := orderRenamesRow.holds Try.pinned (OpenSpec.ofChange orderRenamesWrong)

/-- 'bringuplaw27.OrderMore': WHATEVER THE INPUT: true; the input reads as it did. -/
def orderMoreSpec : ChangeSpec := { name := "orderMore", fn := fun _ => fun
  | [d1, d2] => { results := [.lit (.bool true)], args := [d1, d2] }
  | _ => none }
def orderMoreRow : OpenClaim := { program := "ytiggomgmncaabaa", sum := "1d35e1f70e29781e2e8f141e3da1a31dcf9f6d76b6990d668b15fed1116de00d", func := "bringup/bringuplaw27.OrderMore", spec := "orderMore", unfollowed := true, recurses := true, apart := false }
def OrderMoreSaid : Prop := orderMoreRow.holds Try.pinned (OpenSpec.ofChange orderMoreSpec)

/-- ITS FALSE NEIGHBOUR: 'it returns false'. Refute it at one input. -/
def orderMoreWrong : ChangeSpec := { name := "orderMore", fn := fun _ => fun
  | [d1, d2] => { results := [.lit (.bool false)], args := [d1, d2] }
  | _ => none }
def OrderMoreWrongFalsely : Prop := orderMoreRow.holds Try.pinned (OpenSpec.ofChange orderMoreWrong)

/-- 'bringuplaw27.OrderChain': WHATEVER THE INPUT: true; the input reads as it did. -/
def orderChainSpec : ChangeSpec := { name := "orderChain", fn := fun _ => fun
  | [d] => { results := [.lit (.bool true)], args := [d] }
  | _ => none }
def orderChainRow : OpenClaim := { program := "ytiggomgmncaabaa", sum := "1d35e1f70e29781e2e8f141e3da1a31dcf9f6d76b6990d668b15fed1116de00d", func := "bringup/bringuplaw27.OrderChain", spec := "orderChain", unfollowed := true, recurses := true, apart := false }
def OrderChainSaid : Prop := orderChainRow.holds Try.pinned (OpenSpec.ofChange orderChainSpec)

/-- ITS FALSE NEIGHBOUR: 'it returns false'. Refute it at one input. -/
def orderChainWrong : ChangeSpec := { name := "orderChain", fn := fun _ => fun
  | [d] => { results := [.lit (.bool false)], args := [d] }
  | _ => none }
def OrderChainWrongFalsely : Prop := orderChainRow.holds Try.pinned (OpenSpec.ofChange orderChainWrong)

/-- 'bringuplaw27.OrderParts': WHATEVER THE INPUT: true; the input reads as it did. -/
def orderPartsSpec : ChangeSpec := { name := "orderParts", fn := fun _ => fun
  | [d] => { results := [.lit (.bool true)], args := [d] }
  | _ => none }
def orderPartsRow : OpenClaim := { program := "ytiggomgmncaabaa", sum := "1d35e1f70e29781e2e8f141e3da1a31dcf9f6d76b6990d668b15fed1116de00d", func := "bringup/bringuplaw27.OrderParts", spec := "orderParts", unfollowed := true, recurses := true, apart := false }
def OrderPartsSaid : Prop := orderPartsRow.holds Try.pinned (OpenSpec.ofChange orderPartsSpec)

/-- ITS FALSE NEIGHBOUR: 'it returns false'. Refute it at one input. -/
def orderPartsWrong : ChangeSpec := { name := "orderParts", fn := fun _ => fun
  | [d] => { results := [.lit (.bool false)], args := [d] }
  | _ => none }
def OrderPartsWrongFalsely : Prop := orderPartsRow.holds Try.pinned (OpenSpec.ofChange orderPartsWrong)

/-- 'bringuplaw27.OrderExact': WHATEVER THE INPUT: true; the input reads as it did. -/
def orderExactSpec : ChangeSpec := { name := "orderExact", fn := fun _ => fun
  | [d1, d2, d3] => { results := [.lit (.bool true)], args := [d1, d2, d3] }
  | _ => none }
def orderExactRow : OpenClaim := { program := "ytiggomgmncaabaa", sum := "1d35e1f70e29781e2e8f141e3da1a31dcf9f6d76b6990d668b15fed1116de00d", func := "bringup/bringuplaw27.OrderExact", spec := "orderExact", unfollowed := true, recurses := true, apart := false }
def OrderExactSaid : Prop := orderExactRow.holds Try.pinned (OpenSpec.ofChange orderExactSpec)

/-- ITS FALSE NEIGHBOUR: 'it returns false'. Refute it at one input. -/
def orderExactWrong : ChangeSpec := { name := "orderExact", fn := fun _ => fun
  | [d1, d2, d3] => { results := [.lit (.bool false)], args := [d1, d2, d3] }
  | _ => none }
def OrderExactWrongFalsely : Prop := orderExactRow.holds Try.pinned (OpenSpec.ofChange orderExactWrong)

/-- 'bringuplaw27.OrderDecides': WHATEVER THE INPUT: true; the input reads as it did. -/
def orderDecidesSpec : ChangeSpec := { name := "orderDecides", fn := fun _ => fun
  | [d] => { results := [.lit (.bool true)], args := [d] }
  | _ => none }
def orderDecidesRow : OpenClaim := { program := "ytiggomgmncaabaa", sum := "1d35e1f70e29781e2e8f141e3da1a31dcf9f6d76b6990d668b15fed1116de00d", func := "bringup/bringuplaw27.OrderDecides", spec := "orderDecides", unfollowed := true, recurses := true, apart := false }
def OrderDecidesSaid : Prop := orderDecidesRow.holds Try.pinned (OpenSpec.ofChange orderDecidesSpec)

/-- ITS FALSE NEIGHBOUR: 'it returns false'. Refute it at one input. -/
def orderDecidesWrong : ChangeSpec := { name := "orderDecides", fn := fun _ => fun
  | [d] => { results := [.lit (.bool false)], args := [d] }
  | _ => none }
def OrderDecidesWrongFalsely : Prop := orderDecidesRow.holds Try.pinned (OpenSpec.ofChange orderDecidesWrong)

/-- 'bringuplaw27.OrderClosed': WHATEVER THE INPUT: true; the input reads as it did. -/
def orderClosedSpec : ChangeSpec := { name := "orderClosed", fn := fun _ => fun
  | [d1, d2, d3] => { results := [.lit (.bool true)], args := [d1, d2, d3] }
  | _ => none }
def orderClosedRow : OpenClaim := { program := "ytiggomgmncaabaa", sum := "1d35e1f70e29781e2e8f141e3da1a31dcf9f6d76b6990d668b15fed1116de00d", func := "bringup/bringuplaw27.OrderClosed", spec := "orderClosed", unfollowed := true, recurses := true, apart := false }
def OrderClosedSaid : Prop := orderClosedRow.holds Try.pinned (OpenSpec.ofChange orderClosedSpec)

/-- ITS FALSE NEIGHBOUR: 'it returns false'. Refute it at one input. -/
def orderClosedWrong : ChangeSpec := { name := "orderClosed", fn := fun _ => fun
  | [d1, d2, d3] => { results := [.lit (.bool false)], args := [d1, d2, d3] }
  | _ => none }
def OrderClosedWrongFalsely : Prop := orderClosedRow.holds Try.pinned (OpenSpec.ofChange orderClosedWrong)

/- THE SECOND FORM. 'bulk': how many values and letters a reading holds, each counted each time it is reached (what is shared counts as often as it is met; a slice's spare places count too). A statement '..UptoSaid' is the law's where the arguments, and the package variables that the reading takes, are together of bulk at most 1048576: NARROWER than '..Said'. Prove '..Said' where nothing that the law and all that it calls make is longer than what came in: it says more and counts as full. Else prove '..UptoSaid'. A law counts once. -/
mutual
def uptoBulk {H : Type} : DataW H → Nat
  | .lit (.string bytes) => bytes.length + 1
  | .lit _ => 1
  | .nil => 1
  | .ptr d => uptoBulk d + 1
  | .slice elems spare => uptoBulkAll elems + uptoBulkAll spare + 1
  | .agg parts => uptoBulkAll parts + 1
  | .iface _ d => uptoBulk d + 1
  | .map entries => uptoBulkEntries entries + 1
  | .held _ => 1
def uptoBulkAll {H : Type} : List (DataW H) → Nat
  | [] => 0
  | d :: r => uptoBulk d + uptoBulkAll r
def uptoBulkEntries {H : Type} : List (Lit × DataW H) → Nat
  | [] => 0
  | x :: r => uptoBulkEntry x + uptoBulkEntries r
def uptoBulkEntry {H : Type} : Lit × DataW H → Nat
  | (.string bytes, d) => bytes.length + uptoBulk d + 1
  | (_, d) => uptoBulk d + 1
 end
def uptoSmall : (H : Type) → List (DataW H) → Bool := fun _ ds => decide (uptoBulkAll ds ≤ 1048576)
def OpenSpec.upto (s : _root_.Go.ChangeSpec) : _root_.Go.OpenSpec := { _root_.Go.OpenSpec.ofChange s with cond := some uptoSmall }

/-- 'bringuplaw27.OrderRenames', WHERE WHAT IT READS IS OF BULK AT MOST 1048576: true; the input reads as it did. -/
def orderRenamesUptoRow : OpenClaim := { program := "ytiggomgmncaabaa", sum := "1d35e1f70e29781e2e8f141e3da1a31dcf9f6d76b6990d668b15fed1116de00d", func := "bringup/bringuplaw27.OrderRenames", spec := "orderRenames", unfollowed := true, recurses := true, apart := false, narrowed := true }
def OrderRenamesUptoSaid : Prop := orderRenamesUptoRow.holds Try.pinned (OpenSpec.upto orderRenamesSpec)

/-- 'bringuplaw27.OrderMore', WHERE WHAT IT READS IS OF BULK AT MOST 1048576: true; the input reads as it did. -/
def orderMoreUptoRow : OpenClaim := { program := "ytiggomgmncaabaa", sum := "1d35e1f70e29781e2e8f141e3da1a31dcf9f6d76b6990d668b15fed1116de00d", func := "bringup/bringuplaw27.OrderMore", spec := "orderMore", unfollowed := true, recurses := true, apart := false, narrowed := true }
def OrderMoreUptoSaid : Prop := orderMoreUptoRow.holds Try.pinned (OpenSpec.upto orderMoreSpec)

/-- 'bringuplaw27.OrderChain', WHERE WHAT IT READS IS OF BULK AT MOST 1048576: true; the input reads as it did. -/
def orderChainUptoRow : OpenClaim := { program := "ytiggomgmncaabaa", sum := "1d35e1f70e29781e2e8f141e3da1a31dcf9f6d76b6990d668b15fed1116de00d", func := "bringup/bringuplaw27.OrderChain", spec := "orderChain", unfollowed := true, recurses := true, apart := false, narrowed := true }
def OrderChainUptoSaid : Prop := orderChainUptoRow.holds Try.pinned (OpenSpec.upto orderChainSpec)

/-- 'bringuplaw27.OrderParts', WHERE WHAT IT READS IS OF BULK AT MOST 1048576: true; the input reads as it did. -/
def orderPartsUptoRow : OpenClaim := { program := "ytiggomgmncaabaa", sum := "1d35e1f70e29781e2e8f141e3da1a31dcf9f6d76b6990d668b15fed1116de00d", func := "bringup/bringuplaw27.OrderParts", spec := "orderParts", unfollowed := true, recurses := true, apart := false, narrowed := true }
def OrderPartsUptoSaid : Prop := orderPartsUptoRow.holds Try.pinned (OpenSpec.upto orderPartsSpec)

/-- 'bringuplaw27.OrderExact', WHERE WHAT IT READS IS OF BULK AT MOST 1048576: true; the input reads as it did. -/
def orderExactUptoRow : OpenClaim := { program := "ytiggomgmncaabaa", sum := "1d35e1f70e29781e2e8f141e3da1a31dcf9f6d76b6990d668b15fed1116de00d", func := "bringup/bringuplaw27.OrderExact", spec := "orderExact", unfollowed := true, recurses := true, apart := false, narrowed := true }
def OrderExactUptoSaid : Prop := orderExactUptoRow.holds Try.pinned (OpenSpec.upto orderExactSpec)

/-- 'bringuplaw27.OrderDecides', WHERE WHAT IT READS IS OF BULK AT MOST 1048576: true; the input reads as it did. -/
def orderDecidesUptoRow : OpenClaim := { program := "ytiggomgmncaabaa", sum := "1d35e1f70e29781e2e8f141e3da1a31dcf9f6d76b6990d668b15fed1116de00d", func := "bringup/bringuplaw27.OrderDecides", spec := "orderDecides", unfollowed := true, recurses := true, apart := false, narrowed := true }
def OrderDecidesUptoSaid : Prop := orderDecidesUptoRow.holds Try.pinned (OpenSpec.upto orderDecidesSpec)

/-- 'bringuplaw27.OrderClosed', WHERE WHAT IT READS IS OF BULK AT MOST 1048576: true; the input reads as it did. -/
def orderClosedUptoRow : OpenClaim := { program := "ytiggomgmncaabaa", sum := "1d35e1f70e29781e2e8f141e3da1a31dcf9f6d76b6990d668b15fed1116de00d", func := "bringup/bringuplaw27.OrderClosed", spec := "orderClosed", unfollowed := true, recurses := true, apart := false, narrowed := true }
def OrderClosedUptoSaid : Prop := orderClosedUptoRow.holds Try.pinned (OpenSpec.upto orderClosedSpec)

end Rows
end Go.Proofs.Ytiggomgmncaabaa
