/-
  No cell of these rows narrows 'for every input' (looked for: loops, veiled, ifaces, maps, wideKeys, modest, calm, conditions, laid).
  DERIVED. THE GIVEN ROWS OF THIS SEAT. 5 by the template 'for every input the law returns true; each argument reads behind the call as it read before'; 0 by the template 'total and deterministic' (their statements: YtkhacfcknedmbaaTotals.lean).
  GIVEN WITH THE SEED: the statements are not yours to turn. If you find one false, say at which input.
  Laid BY PROGRAM, IN A SANDBOX (cutbox-rows.mjs): the forced cells as the released guide's own fill.sh prints them over the translation cffc69012e9250f0… (all of the seat's roots in one cut). By AI agents, Wed Nov 11 2026. No macro, syntax, notation, axiom, sorry.
-/
import Derived.Test.YtkhacfcknedmbaaChecked
import GoSem.Claim
import GoSem.ClaimJoined
import GoSem.ClaimMapViews
import Derived.JoinedTies
import Derived.KernelRfl
namespace Go.Proofs.Ytkhacfcknedmbaa
/- THE CELL 'sum', in the pinned program and in every row, IS THE sha256 OF THE DUMP (.gsa) THAT YtkhacfcknedmbaaProg.lean LOADS. Nothing in Lean hashes anything: it is a label: what it is worth is what the hold of that sum in a sandbox is worth. -/
noncomputable def Try.pinned : Pinned := { name := "ytkhacfcknedmbaa", sum := "cffc69012e9250f057217a32e362238aac1c38f814dbbede7dfd7ed344dc8f4c", checked := Try.checked }
namespace Rows
def none {H : Type} : Left H := { results := [], args := [] }

/-- 'bringuplaw29.RegisterApart': WHATEVER THE INPUT: true; the input reads as it did. -/
def registerApartSpec : ChangeSpec := { name := "registerApart", fn := fun _ => fun
  | [d1, d2, d3, d4] => { results := [.lit (.bool true)], args := [d1, d2, d3, d4] }
  | _ => none }
def registerApartRow : OpenClaim := { program := "ytkhacfcknedmbaa", sum := "cffc69012e9250f057217a32e362238aac1c38f814dbbede7dfd7ed344dc8f4c", func := "bringup/bringuplaw29.RegisterApart", spec := "registerApart", unfollowed := true, recurses := true, apart := false }
def RegisterApartSaid : Prop := registerApartRow.holds Try.pinned (OpenSpec.ofChange registerApartSpec)

/-- ITS FALSE NEIGHBOUR: 'it returns false'. Refute it at one input. -/
def registerApartWrong : ChangeSpec := { name := "registerApart", fn := fun _ => fun
  | [d1, d2, d3, d4] => { results := [.lit (.bool false)], args := [d1, d2, d3, d4] }
  | _ => none }
def RegisterApartWrongFalsely : Prop := registerApartRow.holds Try.pinned (OpenSpec.ofChange registerApartWrong)

/-- 'bringuplaw29.RegisterOrder': WHATEVER THE INPUT: true; the input reads as it did. -/
def registerOrderSpec : ChangeSpec := { name := "registerOrder", fn := fun _ => fun
  | [d1, d2, d3, d4, d5] => { results := [.lit (.bool true)], args := [d1, d2, d3, d4, d5] }
  | _ => none }
def registerOrderRow : OpenClaim := { program := "ytkhacfcknedmbaa", sum := "cffc69012e9250f057217a32e362238aac1c38f814dbbede7dfd7ed344dc8f4c", func := "bringup/bringuplaw29.RegisterOrder", spec := "registerOrder", unfollowed := true, recurses := true, apart := false }
def RegisterOrderSaid : Prop := registerOrderRow.holds Try.pinned (OpenSpec.ofChange registerOrderSpec)

/-- ITS FALSE NEIGHBOUR: 'it returns false'. Refute it at one input. -/
def registerOrderWrong : ChangeSpec := { name := "registerOrder", fn := fun _ => fun
  | [d1, d2, d3, d4, d5] => { results := [.lit (.bool false)], args := [d1, d2, d3, d4, d5] }
  | _ => none }
def RegisterOrderWrongFalsely : Prop := registerOrderRow.holds Try.pinned (OpenSpec.ofChange registerOrderWrong)

/-- 'bringuplaw29.RegisterExact': WHATEVER THE INPUT: true; the input reads as it did. -/
def registerExactSpec : ChangeSpec := { name := "registerExact", fn := fun _ => fun
  | [d1, d2, d3, d4, d5, d6, d7] => { results := [.lit (.bool true)], args := [d1, d2, d3, d4, d5, d6, d7] }
  | _ => none }
def registerExactRow : OpenClaim := { program := "ytkhacfcknedmbaa", sum := "cffc69012e9250f057217a32e362238aac1c38f814dbbede7dfd7ed344dc8f4c", func := "bringup/bringuplaw29.RegisterExact", spec := "registerExact", unfollowed := true, recurses := true, apart := false }
def RegisterExactSaid : Prop := registerExactRow.holds Try.pinned (OpenSpec.ofChange registerExactSpec)

/-- ITS FALSE NEIGHBOUR: 'it returns false'. Refute it at one input. -/
def registerExactWrong : ChangeSpec := { name := "registerExact", fn := fun _ => fun
  | [d1, d2, d3, d4, d5, d6, d7] => { results := [.lit (.bool false)], args := [d1, d2, d3, d4, d5, d6, d7] }
  | _ => none }
def RegisterExactWrongFalsely : Prop := registerExactRow.holds Try.pinned (OpenSpec.ofChange registerExactWrong)

/-- 'bringuplaw29.RegisterBack': WHATEVER THE INPUT: true; the input reads as it did. -/
def registerBackSpec : ChangeSpec := { name := "registerBack", fn := fun _ => fun
  | [d1, d2, d3] => { results := [.lit (.bool true)], args := [d1, d2, d3] }
  | _ => none }
def registerBackRow : OpenClaim := { program := "ytkhacfcknedmbaa", sum := "cffc69012e9250f057217a32e362238aac1c38f814dbbede7dfd7ed344dc8f4c", func := "bringup/bringuplaw29.RegisterBack", spec := "registerBack", unfollowed := true, recurses := true, apart := false }
def RegisterBackSaid : Prop := registerBackRow.holds Try.pinned (OpenSpec.ofChange registerBackSpec)

/-- ITS FALSE NEIGHBOUR: 'it returns false'. Refute it at one input. -/
def registerBackWrong : ChangeSpec := { name := "registerBack", fn := fun _ => fun
  | [d1, d2, d3] => { results := [.lit (.bool false)], args := [d1, d2, d3] }
  | _ => none }
def RegisterBackWrongFalsely : Prop := registerBackRow.holds Try.pinned (OpenSpec.ofChange registerBackWrong)

/-- 'bringuplaw29.RegisterAll': WHATEVER THE INPUT: true; the input reads as it did. -/
def registerAllSpec : ChangeSpec := { name := "registerAll", fn := fun _ => fun
  | [d] => { results := [.lit (.bool true)], args := [d] }
  | _ => none }
def registerAllRow : OpenClaim := { program := "ytkhacfcknedmbaa", sum := "cffc69012e9250f057217a32e362238aac1c38f814dbbede7dfd7ed344dc8f4c", func := "bringup/bringuplaw29.RegisterAll", spec := "registerAll", unfollowed := true, recurses := true, apart := false }
def RegisterAllSaid : Prop := registerAllRow.holds Try.pinned (OpenSpec.ofChange registerAllSpec)

/-- ITS FALSE NEIGHBOUR: 'it returns false'. Refute it at one input. -/
def registerAllWrong : ChangeSpec := { name := "registerAll", fn := fun _ => fun
  | [d] => { results := [.lit (.bool false)], args := [d] }
  | _ => none }
def RegisterAllWrongFalsely : Prop := registerAllRow.holds Try.pinned (OpenSpec.ofChange registerAllWrong)

/- THE SECOND FORM. 'bulk': how many values and letters a reading holds, each counted each time it is reached (what is shared counts as often as it is met; a slice's spare places count too). A statement '..UptoSaid' is the law's where the arguments, and the package variables that the reading takes, are together of bulk at most 1048576: NARROWER than '..Said'. Prove '..Said' where nothing that the law and all that it calls make is longer than what came in: it says more and counts as full. Else prove '..UptoSaid'. A law counts once. -/
mutual
def uptoBulk {H : Type} : DataW H → Nat
  | .lit (.string bytes) => bytes.length + 1
  | .lit _ => 1
  | .nil => 1
  | .ptr d => uptoBulk d + 1
  | .slice elems spare => uptoBulkAll elems + uptoBulkAll spare + 1
  | .agg parts => uptoBulkAll parts + 1
  | .iface _ d => uptoBulk d + 1
  | .map entries => uptoBulkEntries entries + 1
  | .held _ => 1
def uptoBulkAll {H : Type} : List (DataW H) → Nat
  | [] => 0
  | d :: r => uptoBulk d + uptoBulkAll r
def uptoBulkEntries {H : Type} : List (Lit × DataW H) → Nat
  | [] => 0
  | x :: r => uptoBulkEntry x + uptoBulkEntries r
def uptoBulkEntry {H : Type} : Lit × DataW H → Nat
  | (.string bytes, d) => bytes.length + uptoBulk d + 1
  | (_, d) => uptoBulk d + 1
 end
def uptoSmall : (H : Type) → List (DataW H) → Bool := fun _ ds => decide (uptoBulkAll ds ≤ 1048576)
def OpenSpec.upto (s : _root_.Go.ChangeSpec) : _root_.Go.OpenSpec := { _root_.Go.OpenSpec.ofChange s with cond := some uptoSmall }

/-- 'bringuplaw29.RegisterApart', WHERE WHAT IT READS IS OF BULK AT MOST 1048576: true; the input reads as it did. -/
def registerApartUptoRow : OpenClaim := { program := "ytkhacfcknedmbaa", sum := "cffc69012e9250f057217a32e362238aac1c38f814dbbede7dfd7ed344dc8f4c", func := "bringup/bringuplaw29.RegisterApart", spec := "registerApart", unfollowed := true, recurses := true, apart := false, narrowed := true }
def RegisterApartUptoSaid : Prop := registerApartUptoRow.holds Try.pinned (OpenSpec.upto registerApartSpec)

/-- 'bringuplaw29.RegisterOrder', WHERE WHAT IT READS IS OF BULK AT MOST 1048576: true; the input reads as it did. -/
def registerOrderUptoRow : OpenClaim := { program := "ytkhacfcknedmbaa", sum := "cffc69012e9250f057217a32e362238aac1c38f814dbbede7dfd7ed344dc8f4c", func := "bringup/bringuplaw29.RegisterOrder", spec := "registerOrder", unfollowed := true, recurses := true, apart := false, narrowed := true }
def RegisterOrderUptoSaid : Prop := registerOrderUptoRow.holds Try.pinned (OpenSpec.upto registerOrderSpec)

/-- 'bringuplaw29.RegisterExact', WHERE WHAT IT READS IS OF BULK AT MOST 1048576: true; the input reads as it did. -/
def registerExactUptoRow : OpenClaim := { program := "ytkhacfcknedmbaa", sum := "cffc69012e9250f057217a32e362238aac1c38f814dbbede7dfd7ed344dc8f4c", func := "bringup/bringuplaw29.RegisterExact", spec := "registerExact", unfollowed := true, recurses := true, apart := false, narrowed := true }
def RegisterExactUptoSaid : Prop := registerExactUptoRow.holds Try.pinned (OpenSpec.upto registerExactSpec)

/-- 'bringuplaw29.RegisterBack', WHERE WHAT IT READS IS OF BULK AT MOST 1048576: true; the input reads as it did. -/
def registerBackUptoRow : OpenClaim := { program := "ytkhacfcknedmbaa", sum := "cffc69012e9250f057217a32e362238aac1c38f814dbbede7dfd7ed344dc8f4c", func := "bringup/bringuplaw29.RegisterBack", spec := "registerBack", unfollowed := true, recurses := true, apart := false, narrowed := true }
def RegisterBackUptoSaid : Prop := registerBackUptoRow.holds Try.pinned (OpenSpec.upto registerBackSpec)

/-- 'bringuplaw29.RegisterAll', WHERE WHAT IT READS IS OF BULK AT MOST 1048576: true; the input reads as it did. -/
def registerAllUptoRow : OpenClaim := { program := "ytkhacfcknedmbaa", sum := "cffc69012e9250f057217a32e362238aac1c38f814dbbede7dfd7ed344dc8f4c", func := "bringup/bringuplaw29.RegisterAll", spec := "registerAll", unfollowed := true, recurses := true, apart := false, narrowed := true }
def RegisterAllUptoSaid : Prop := registerAllUptoRow.holds Try.pinned (OpenSpec.upto registerAllSpec)

end Rows
end Go.Proofs.Ytkhacfcknedmbaa
