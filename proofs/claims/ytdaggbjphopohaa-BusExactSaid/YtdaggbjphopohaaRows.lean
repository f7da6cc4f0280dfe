/-
  No cell of these rows narrows 'for every input' (looked for: loops, veiled, ifaces, maps, wideKeys, modest, calm, conditions, laid).
  DERIVED. THE GIVEN ROWS OF THIS SEAT. 5 by the template 'for every input the law returns true; each argument reads behind the call as it read before'; 0 by the template 'total and deterministic' (their statements: YtdaggbjphopohaaTotals.lean).
  GIVEN WITH THE SEED: the statements are not yours to turn. If you find one false, say at which input.
  Laid BY PROGRAM, IN A SANDBOX (cutbox-rows.mjs): the forced cells as the released guide's own fill.sh prints them over the translation 54745509b78fd7f1… (all of the seat's roots in one cut). By AI agents, Wed Nov 11 2026. No macro, syntax, notation, axiom, sorry.
-/
import Derived.Test.YtdaggbjphopohaaChecked
import GoSem.Claim
import GoSem.ClaimJoined
import GoSem.ClaimMapViews
import Derived.JoinedTies
import Derived.KernelRfl
namespace Go.Proofs.Ytdaggbjphopohaa
/- THE CELL 'sum', in the pinned program and in every row, IS THE sha256 OF THE DUMP (.gsa) THAT YtdaggbjphopohaaProg.lean LOADS. Nothing in Lean hashes anything: it is a label: what it is worth is what the hold of that sum in a sandbox is worth. -/
noncomputable def Try.pinned : Pinned := { name := "ytdaggbjphopohaa", sum := "54745509b78fd7f13e426613878bf5e657359d7a74c0bda788738e65c76b57d1", checked := Try.checked }
namespace Rows
def none {H : Type} : Left H := { results := [], args := [] }

/-- 'bringuplaw30.BusBack': WHATEVER THE INPUT: true; the input reads as it did. -/
def busBackSpec : ChangeSpec := { name := "busBack", fn := fun _ => fun
  | [d] => { results := [.lit (.bool true)], args := [d] }
  | _ => none }
def busBackRow : OpenClaim := { program := "ytdaggbjphopohaa", sum := "54745509b78fd7f13e426613878bf5e657359d7a74c0bda788738e65c76b57d1", func := "bringup/bringuplaw30.BusBack", spec := "busBack", unfollowed := true, recurses := true, apart := false }
def BusBackSaid : Prop := busBackRow.holds Try.pinned (OpenSpec.ofChange busBackSpec)

/-- ITS FALSE NEIGHBOUR: 'it returns false'. Refute it at one input. -/
def busBackWrong : ChangeSpec := { name := "busBack", fn := fun _ => fun
  | [d] => { results := [.lit (.bool false)], args := [d] }
  | _ => none }
def BusBackWrongFalsely : Prop := busBackRow.holds Try.pinned (OpenSpec.ofChange busBackWrong)

/-- 'bringuplaw30.BusWorks': WHATEVER THE INPUT: true; the input reads as it did. -/
def busWorksSpec : ChangeSpec := { name := "busWorks", fn := fun _ => fun
  | [d] => { results := [.lit (.bool true)], args := [d] }
  | _ => none }
def busWorksRow : OpenClaim := { program := "ytdaggbjphopohaa", sum := "54745509b78fd7f13e426613878bf5e657359d7a74c0bda788738e65c76b57d1", func := "bringup/bringuplaw30.BusWorks", spec := "busWorks", unfollowed := true, recurses := true, apart := false }
def BusWorksSaid : Prop := busWorksRow.holds Try.pinned (OpenSpec.ofChange busWorksSpec)

/-- ITS FALSE NEIGHBOUR: 'it returns false'. Refute it at one input. -/
def busWorksWrong : ChangeSpec := { name := "busWorks", fn := fun _ => fun
  | [d] => { results := [.lit (.bool false)], args := [d] }
  | _ => none }
def BusWorksWrongFalsely : Prop := busWorksRow.holds Try.pinned (OpenSpec.ofChange busWorksWrong)

/-- 'bringuplaw30.BusTries': WHATEVER THE INPUT: true; the input reads as it did. -/
def busTriesSpec : ChangeSpec := { name := "busTries", fn := fun _ => fun
  | [d] => { results := [.lit (.bool true)], args := [d] }
  | _ => none }
def busTriesRow : OpenClaim := { program := "ytdaggbjphopohaa", sum := "54745509b78fd7f13e426613878bf5e657359d7a74c0bda788738e65c76b57d1", func := "bringup/bringuplaw30.BusTries", spec := "busTries", unfollowed := true, recurses := true, apart := false }
def BusTriesSaid : Prop := busTriesRow.holds Try.pinned (OpenSpec.ofChange busTriesSpec)

/-- ITS FALSE NEIGHBOUR: 'it returns false'. Refute it at one input. -/
def busTriesWrong : ChangeSpec := { name := "busTries", fn := fun _ => fun
  | [d] => { results := [.lit (.bool false)], args := [d] }
  | _ => none }
def BusTriesWrongFalsely : Prop := busTriesRow.holds Try.pinned (OpenSpec.ofChange busTriesWrong)

/-- 'bringuplaw30.BusFirst': WHATEVER THE INPUT: true; the input reads as it did. -/
def busFirstSpec : ChangeSpec := { name := "busFirst", fn := fun _ => fun
  | [d] => { results := [.lit (.bool true)], args := [d] }
  | _ => none }
def busFirstRow : OpenClaim := { program := "ytdaggbjphopohaa", sum := "54745509b78fd7f13e426613878bf5e657359d7a74c0bda788738e65c76b57d1", func := "bringup/bringuplaw30.BusFirst", spec := "busFirst", unfollowed := true, recurses := true, apart := false }
def BusFirstSaid : Prop := busFirstRow.holds Try.pinned (OpenSpec.ofChange busFirstSpec)

/-- ITS FALSE NEIGHBOUR: 'it returns false'. Refute it at one input. -/
def busFirstWrong : ChangeSpec := { name := "busFirst", fn := fun _ => fun
  | [d] => { results := [.lit (.bool false)], args := [d] }
  | _ => none }
def BusFirstWrongFalsely : Prop := busFirstRow.holds Try.pinned (OpenSpec.ofChange busFirstWrong)

/-- 'bringuplaw30.BusExact': WHATEVER THE INPUT: true; the input reads as it did. -/
def busExactSpec : ChangeSpec := { name := "busExact", fn := fun _ => fun
  | [d1, d2, d3, d4] => { results := [.lit (.bool true)], args := [d1, d2, d3, d4] }
  | _ => none }
def busExactRow : OpenClaim := { program := "ytdaggbjphopohaa", sum := "54745509b78fd7f13e426613878bf5e657359d7a74c0bda788738e65c76b57d1", func := "bringup/bringuplaw30.BusExact", spec := "busExact", unfollowed := true, recurses := true, apart := false }
def BusExactSaid : Prop := busExactRow.holds Try.pinned (OpenSpec.ofChange busExactSpec)

/-- ITS FALSE NEIGHBOUR: 'it returns false'. Refute it at one input. -/
def busExactWrong : ChangeSpec := { name := "busExact", fn := fun _ => fun
  | [d1, d2, d3, d4] => { results := [.lit (.bool false)], args := [d1, d2, d3, d4] }
  | _ => none }
def BusExactWrongFalsely : Prop := busExactRow.holds Try.pinned (OpenSpec.ofChange busExactWrong)

/- THE SECOND FORM. 'bulk': how many values and letters a reading holds, each counted each time it is reached (what is shared counts as often as it is met; a slice's spare places count too). A statement '..UptoSaid' is the law's where the arguments, and the package variables that the reading takes, are together of bulk at most 1048576: NARROWER than '..Said'. Prove '..Said' where nothing that the law and all that it calls make is longer than what came in: it says more and counts as full. Else prove '..UptoSaid'. A law counts once. -/
mutual
def uptoBulk {H : Type} : DataW H → Nat
  | .lit (.string bytes) => bytes.length + 1
  | .lit _ => 1
  | .nil => 1
  | .ptr d => uptoBulk d + 1
  | .slice elems spare => uptoBulkAll elems + uptoBulkAll spare + 1
  | .agg parts => uptoBulkAll parts + 1
  | .iface _ d => uptoBulk d + 1
  | .map entries => uptoBulkEntries entries + 1
  | .held _ => 1
def uptoBulkAll {H : Type} : List (DataW H) → Nat
  | [] => 0
  | d :: r => uptoBulk d + uptoBulkAll r
def uptoBulkEntries {H : Type} : List (Lit × DataW H) → Nat
  | [] => 0
  | x :: r => uptoBulkEntry x + uptoBulkEntries r
def uptoBulkEntry {H : Type} : Lit × DataW H → Nat
  | (.string bytes, d) => bytes.length + uptoBulk d + 1
  | (_, d) => uptoBulk d + 1
 end
def uptoSmall : (H : Type) → List (DataW H) → Bool := fun _ ds => decide (uptoBulkAll ds ≤ 1048576)
def OpenSpec.upto (s : _root_.Go.ChangeSpec) : _root_.Go.OpenSpec := { _root_.Go.OpenSpec.ofChange s with cond := some uptoSmall }

/-- 'bringuplaw30.BusBack', WHERE WHAT IT READS IS OF BULK AT MOST 1048576: true; the input reads as it did. -/
def busBackUptoRow : OpenClaim := { program := "ytdaggbjphopohaa", sum := "54745509b78fd7f13e426613878bf5e657359d7a74c0bda788738e65c76b57d1", func := "bringup/bringuplaw30.BusBack", spec := "busBack", unfollowed := true, recurses := true, apart := false, narrowed := true }
def BusBackUptoSaid : Prop := busBackUptoRow.holds Try.pinned (OpenSpec.upto busBackSpec)

/-- 'bringuplaw30.BusWorks', WHERE WHAT IT READS IS OF BULK AT MOST 1048576: true; the input reads as it did. -/
def busWorksUptoRow : OpenClaim := { program := "ytdaggbjphopohaa", sum := "54745509b78fd7f13e426613878bf5e657359d7a74c0bda788738e65c76b57d1", func := "bringup/bringuplaw30.BusWorks", spec := "busWorks", unfollowed := true, recurses := true, apart := false, narrowed := true }
def BusWorksUptoSaid : Prop := busWorksUptoRow.holds Try.pinned (OpenSpec.upto busWorksSpec)

/-- 'bringuplaw30.BusTries', WHERE WHAT IT READS IS OF BULK AT MOST 1048576: true; the input reads as it did. -/
def busTriesUptoRow : OpenClaim := { program := "ytdaggbjphopohaa", sum := "54745509b78fd7f13e426613878bf5e657359d7a74c0bda788738e65c76b57d1", func := "bringup/bringuplaw30.BusTries", spec := "busTries", unfollowed := true, recurses := true, apart := false, narrowed := true }
def BusTriesUptoSaid : Prop := busTriesUptoRow.holds Try.pinned (OpenSpec.upto busTriesSpec)

/-- 'bringuplaw30.BusFirst', WHERE WHAT IT READS IS OF BULK AT MOST 1048576: true; the input reads as it did. -/
def busFirstUptoRow : OpenClaim := { program := "ytdaggbjphopohaa", sum := "54745509b78fd7f13e426613878bf5e657359d7a74c0bda788738e65c76b57d1", func := "bringup/bringuplaw30.BusFirst", spec := "busFirst", unfollowed := true, recurses := true, apart := false, narrowed := true }
def BusFirstUptoSaid : Prop := busFirstUptoRow.holds Try.pinned (OpenSpec.upto busFirstSpec)

/-- 'bringuplaw30.BusExact', WHERE WHAT IT READS IS OF BULK AT MOST 1048576: true; the input reads as it did. -/
def busExactUptoRow : OpenClaim := { program := "ytdaggbjphopohaa", sum := "54745509b78fd7f13e426613878bf5e657359d7a74c0bda788738e65c76b57d1", func := "bringup/bringuplaw30.BusExact", spec := "busExact", unfollowed := true, recurses := true, apart := false, narrowed := true }
def BusExactUptoSaid : Prop := busExactUptoRow.holds Try.pinned (OpenSpec.upto busExactSpec)

end Rows
end Go.Proofs.Ytdaggbjphopohaa
