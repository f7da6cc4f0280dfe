/-
  No cell of these rows narrows 'for every input' (looked for: loops, veiled, ifaces, maps, wideKeys, modest, calm, conditions, laid).
  DERIVED. THE GIVEN ROWS OF THIS SEAT. 6 by the template 'for every input the law returns true; each argument reads behind the call as it read before'; 0 by the template 'total and deterministic' (their statements: YtcemickjholnaaaTotals.lean).
  GIVEN WITH THE SEED: the statements are not yours to turn. If you find one false, say at which input.
  Laid BY PROGRAM, IN A SANDBOX (cutbox-rows.mjs): the forced cells as the released guide's own fill.sh prints them over the translation e739edf827ae220f… (all of the seat's roots in one cut). By AI agents, Wed Nov 11 2026. No macro, syntax, notation, axiom, sorry.
-/
import Derived.Test.YtcemickjholnaaaChecked
import GoSem.Claim
import GoSem.ClaimJoined
import GoSem.ClaimMapViews
import Derived.JoinedTies
import Derived.KernelRfl
namespace Go.Proofs.Ytcemickjholnaaa
/- THE CELL 'sum', in the pinned program and in every row, IS THE sha256 OF THE DUMP (.gsa) THAT YtcemickjholnaaaProg.lean LOADS. Nothing in Lean hashes anything: it is a label: what it is worth is what the hold of that sum in a sandbox is worth. -/
noncomputable def Try.pinned : Pinned := { name := "ytcemickjholnaaa", sum := "e739edf827ae220fb859485b50a43214ad3cd0a94a9e9753a1de4803743eacef", checked := Try.checked }
namespace Rows
def none {H : Type} : Left H := { results := [], args := [] }

/-- 'bringuplaw22.PinsOffers': WHATEVER THE INPUT: true; the input reads as it did. -/
def pinsOffersSpec : ChangeSpec := { name := "pinsOffers", fn := fun _ => fun
  | [d] => { results := [.lit (.bool true)], args := [d] }
  | _ => none }
def pinsOffersRow : OpenClaim := { program := "ytcemickjholnaaa", sum := "e739edf827ae220fb859485b50a43214ad3cd0a94a9e9753a1de4803743eacef", func := "bringup/bringuplaw22.PinsOffers", spec := "pinsOffers", unfollowed := true, recurses := true, apart := false }
def PinsOffersSaid : Prop := pinsOffersRow.holds Try.pinned (OpenSpec.ofChange pinsOffersSpec)

/-- ITS FALSE NEIGHBOUR: 'it returns false'. Refute it at one input. -/
def pinsOffersWrong : ChangeSpec := { name := "pinsOffers", fn := fun _ => fun
  | [d] => { results := [.lit (.bool false)], args := [d] }
  | _ => none }
def PinsOffersWrongFalsely : Prop := pinsOffersRow.holds Try.pinned (OpenSpec.ofChange pinsOffersWrong)

/-- 'bringuplaw22.PinsLimits': WHATEVER THE INPUT: true; the input reads as it did. -/
def pinsLimitsSpec : ChangeSpec := { name := "pinsLimits", fn := fun _ => fun
  | [d] => { results := [.lit (.bool true)], args := [d] }
  | _ => none }
def pinsLimitsRow : OpenClaim := { program := "ytcemickjholnaaa", sum := "e739edf827ae220fb859485b50a43214ad3cd0a94a9e9753a1de4803743eacef", func := "bringup/bringuplaw22.PinsLimits", spec := "pinsLimits", unfollowed := true, recurses := true, apart := false }
def PinsLimitsSaid : Prop := pinsLimitsRow.holds Try.pinned (OpenSpec.ofChange pinsLimitsSpec)

/-- ITS FALSE NEIGHBOUR: 'it returns false'. Refute it at one input. -/
def pinsLimitsWrong : ChangeSpec := { name := "pinsLimits", fn := fun _ => fun
  | [d] => { results := [.lit (.bool false)], args := [d] }
  | _ => none }
def PinsLimitsWrongFalsely : Prop := pinsLimitsRow.holds Try.pinned (OpenSpec.ofChange pinsLimitsWrong)

/-- 'bringuplaw22.PinsWords': WHATEVER THE INPUT: true; the input reads as it did. -/
def pinsWordsSpec : ChangeSpec := { name := "pinsWords", fn := fun _ => fun
  | [d1, d2] => { results := [.lit (.bool true)], args := [d1, d2] }
  | _ => none }
def pinsWordsRow : OpenClaim := { program := "ytcemickjholnaaa", sum := "e739edf827ae220fb859485b50a43214ad3cd0a94a9e9753a1de4803743eacef", func := "bringup/bringuplaw22.PinsWords", spec := "pinsWords", unfollowed := true, recurses := true, apart := false }
def PinsWordsSaid : Prop := pinsWordsRow.holds Try.pinned (OpenSpec.ofChange pinsWordsSpec)

/-- ITS FALSE NEIGHBOUR: 'it returns false'. Refute it at one input. -/
def pinsWordsWrong : ChangeSpec := { name := "pinsWords", fn := fun _ => fun
  | [d1, d2] => { results := [.lit (.bool false)], args := [d1, d2] }
  | _ => none }
def PinsWordsWrongFalsely : Prop := pinsWordsRow.holds Try.pinned (OpenSpec.ofChange pinsWordsWrong)

/-- 'bringuplaw22.PinsExact': WHATEVER THE INPUT: true; the input reads as it did. -/
def pinsExactSpec : ChangeSpec := { name := "pinsExact", fn := fun _ => fun
  | [d1, d2, d3, d4, d5, d6] => { results := [.lit (.bool true)], args := [d1, d2, d3, d4, d5, d6] }
  | _ => none }
def pinsExactRow : OpenClaim := { program := "ytcemickjholnaaa", sum := "e739edf827ae220fb859485b50a43214ad3cd0a94a9e9753a1de4803743eacef", func := "bringup/bringuplaw22.PinsExact", spec := "pinsExact", unfollowed := true, recurses := true, apart := false }
def PinsExactSaid : Prop := pinsExactRow.holds Try.pinned (OpenSpec.ofChange pinsExactSpec)

/-- ITS FALSE NEIGHBOUR: 'it returns false'. Refute it at one input. -/
def pinsExactWrong : ChangeSpec := { name := "pinsExact", fn := fun _ => fun
  | [d1, d2, d3, d4, d5, d6] => { results := [.lit (.bool false)], args := [d1, d2, d3, d4, d5, d6] }
  | _ => none }
def PinsExactWrongFalsely : Prop := pinsExactRow.holds Try.pinned (OpenSpec.ofChange pinsExactWrong)

/-- 'bringuplaw22.PinsTogether': WHATEVER THE INPUT: true; the input reads as it did. -/
def pinsTogetherSpec : ChangeSpec := { name := "pinsTogether", fn := fun _ => fun
  | [d1, d2, d3] => { results := [.lit (.bool true)], args := [d1, d2, d3] }
  | _ => none }
def pinsTogetherRow : OpenClaim := { program := "ytcemickjholnaaa", sum := "e739edf827ae220fb859485b50a43214ad3cd0a94a9e9753a1de4803743eacef", func := "bringup/bringuplaw22.PinsTogether", spec := "pinsTogether", unfollowed := true, recurses := true, apart := false }
def PinsTogetherSaid : Prop := pinsTogetherRow.holds Try.pinned (OpenSpec.ofChange pinsTogetherSpec)

/-- ITS FALSE NEIGHBOUR: 'it returns false'. Refute it at one input. -/
def pinsTogetherWrong : ChangeSpec := { name := "pinsTogether", fn := fun _ => fun
  | [d1, d2, d3] => { results := [.lit (.bool false)], args := [d1, d2, d3] }
  | _ => none }
def PinsTogetherWrongFalsely : Prop := pinsTogetherRow.holds Try.pinned (OpenSpec.ofChange pinsTogetherWrong)

/-- 'bringuplaw22.PinsFree': WHATEVER THE INPUT: true; the input reads as it did. -/
def pinsFreeSpec : ChangeSpec := { name := "pinsFree", fn := fun _ => fun
  | [d1, d2] => { results := [.lit (.bool true)], args := [d1, d2] }
  | _ => none }
def pinsFreeRow : OpenClaim := { program := "ytcemickjholnaaa", sum := "e739edf827ae220fb859485b50a43214ad3cd0a94a9e9753a1de4803743eacef", func := "bringup/bringuplaw22.PinsFree", spec := "pinsFree", unfollowed := true, recurses := true, apart := false }
def PinsFreeSaid : Prop := pinsFreeRow.holds Try.pinned (OpenSpec.ofChange pinsFreeSpec)

/-- ITS FALSE NEIGHBOUR: 'it returns false'. Refute it at one input. -/
def pinsFreeWrong : ChangeSpec := { name := "pinsFree", fn := fun _ => fun
  | [d1, d2] => { results := [.lit (.bool false)], args := [d1, d2] }
  | _ => none }
def PinsFreeWrongFalsely : Prop := pinsFreeRow.holds Try.pinned (OpenSpec.ofChange pinsFreeWrong)

/- THE SECOND FORM. 'bulk': how many values and letters a reading holds, each counted each time it is reached (what is shared counts as often as it is met; a slice's spare places count too). A statement '..UptoSaid' is the law's where the arguments, and the package variables that the reading takes, are together of bulk at most 1048576: NARROWER than '..Said'. Prove '..Said' where nothing that the law and all that it calls make is longer than what came in: it says more and counts as full. Else prove '..UptoSaid'. A law counts once. -/
mutual
def uptoBulk {H : Type} : DataW H → Nat
  | .lit (.string bytes) => bytes.length + 1
  | .lit _ => 1
  | .nil => 1
  | .ptr d => uptoBulk d + 1
  | .slice elems spare => uptoBulkAll elems + uptoBulkAll spare + 1
  | .agg parts => uptoBulkAll parts + 1
  | .iface _ d => uptoBulk d + 1
  | .map entries => uptoBulkEntries entries + 1
  | .held _ => 1
def uptoBulkAll {H : Type} : List (DataW H) → Nat
  | [] => 0
  | d :: r => uptoBulk d + uptoBulkAll r
def uptoBulkEntries {H : Type} : List (Lit × DataW H) → Nat
  | [] => 0
  | x :: r => uptoBulkEntry x + uptoBulkEntries r
def uptoBulkEntry {H : Type} : Lit × DataW H → Nat
  | (.string bytes, d) => bytes.length + uptoBulk d + 1
  | (_, d) => uptoBulk d + 1
 end
def uptoSmall : (H : Type) → List (DataW H) → Bool := fun _ ds => decide (uptoBulkAll ds ≤ 1048576)
def OpenSpec.upto (s : _root_.Go.ChangeSpec) : _root_.Go.OpenSpec := { _root_.Go.OpenSpec.ofChange s with cond := some uptoSmall }

/-- 'bringuplaw22.PinsOffers', WHERE WHAT IT READS IS OF BULK AT MOST 1048576: true; the input reads as it did. -/
def pinsOffersUptoRow : OpenClaim := { program := "ytcemickjholnaaa", sum := "e739edf827ae220fb859485b50a43214ad3cd0a94a9e9753a1de4803743eacef", func := "bringup/bringuplaw22.PinsOffers", spec := "pinsOffers", unfollowed := true, recurses := true, apart := false, narrowed := true }
def PinsOffersUptoSaid : Prop := pinsOffersUptoRow.holds Try.pinned (OpenSpec.upto pinsOffersSpec)

/-- 'bringuplaw22.PinsLimits', WHERE WHAT IT READS IS OF BULK AT MOST 1048576: true; the input reads as it did. -/
def pinsLimitsUptoRow : OpenClaim := { program := "ytcemickjholnaaa", sum := "e739edf827ae220fb859485b50a43214ad3cd0a94a9e9753a1de4803743eacef", func := "bringup/bringuplaw22.PinsLimits", spec := "pinsLimits", unfollowed := true, recurses := true, apart := false, narrowed := true }
def PinsLimitsUptoSaid : Prop := pinsLimitsUptoRow.holds Try.pinned (OpenSpec.upto pinsLimitsSpec)

/-- 'bringuplaw22.PinsWords', WHERE WHAT IT READS IS OF BULK AT MOST 1048576: true; the input reads as it did. -/
def pinsWordsUptoRow : OpenClaim := { program := "ytcemickjholnaaa", sum := "e739edf827ae220fb859485b50a43214ad3cd0a94a9e9753a1de4803743eacef", func := "bringup/bringuplaw22.PinsWords", spec := "pinsWords", unfollowed := true, recurses := true, apart := false, narrowed := true }
def PinsWordsUptoSaid : Prop := pinsWordsUptoRow.holds Try.pinned (OpenSpec.upto pinsWordsSpec)

/-- 'bringuplaw22.PinsExact', WHERE WHAT IT READS IS OF BULK AT MOST 1048576: true; the input reads as it did. -/
def pinsExactUptoRow : OpenClaim := { program := "ytcemickjholnaaa", sum := "e739edf827ae220fb859485b50a43214ad3cd0a94a9e9753a1de4803743eacef", func := "bringup/bringuplaw22.PinsExact", spec := "pinsExact", unfollowed := true, recurses := true, apart := false, narrowed := true }
def PinsExactUptoSaid : Prop := pinsExactUptoRow.holds Try.pinned (OpenSpec.upto pinsExactSpec)

/-- 'bringuplaw22.PinsTogether', WHERE WHAT IT READS IS OF BULK AT MOST 1048576: true; the input reads as it did. -/
def pinsTogetherUptoRow : OpenClaim := { program := "ytcemickjholnaaa", sum := "e739edf827ae220fb859485b50a43214ad3cd0a94a9e9753a1de4803743eacef", func := "bringup/bringuplaw22.PinsTogether", spec := "pinsTogether", unfollowed := true, recurses := true, apart := false, narrowed := true }
def PinsTogetherUptoSaid : Prop := pinsTogetherUptoRow.holds Try.pinned (OpenSpec.upto pinsTogetherSpec)

/-- 'bringuplaw22.PinsFree', WHERE WHAT IT READS IS OF BULK AT MOST 1048576: true; the input reads as it did. -/
def pinsFreeUptoRow : OpenClaim := { program := "ytcemickjholnaaa", sum := "e739edf827ae220fb859485b50a43214ad3cd0a94a9e9753a1de4803743eacef", func := "bringup/bringuplaw22.PinsFree", spec := "pinsFree", unfollowed := true, recurses := true, apart := false, narrowed := true }
def PinsFreeUptoSaid : Prop := pinsFreeUptoRow.holds Try.pinned (OpenSpec.upto pinsFreeSpec)

end Rows
end Go.Proofs.Ytcemickjholnaaa
