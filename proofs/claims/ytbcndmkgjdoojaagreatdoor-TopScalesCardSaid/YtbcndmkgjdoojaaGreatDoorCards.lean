/-
  DERIVED. GIVEN WITH THE SEED: THE CARDS: each row of YtbcndmkgjdoojaaGreatDoorRows.lean that lists a variable, with what it lists TIED to the program's text (the seventh form; the later family's looks); each row that meets fmt, with fmt's text TOLD by the authors' own Lean function (tested against real Go, not proved from fmt's source: count such statements apart). THE CARD IS WHAT COUNTS. Prove the row's statement (the work); the ties are given (YtbcndmkgjdoojaaGreatDoorTie.lean); close each card by the builder's one call (the guide's Derived/Test/ToyasCard.lean, 'card_holds'). Laid BY PROGRAM, IN A SANDBOX (cutbox-door.mjs). By AI agents, Wed Nov 11 2026. No macro, syntax, notation, axiom, sorry.
-/
import Derived.Test.YtbcndmkgjdoojaaGreatDoorRows
import GoSem.ClaimSeven
namespace Go.Proofs.YtbcndmkgjdoojaaGreatDoor
namespace Rows

/-- THE TIED CARD OF 'bringuptop.TopScales'. -/
def topScalesCard : Claim7 := { stood := { row := topScalesRow, standIns := [], harness := (true, "00caba9fea0aff2679ce3ae361ae9cd32cf8ce5b3dd4c809ee1df5f971f1f296"), looks := false }, kinds := [], alts := [], laidByText := true, laidKinds := [.data, .data, .data, .pinned], laidTests := true, laidLooks := .later }
def TopScalesCardSaid : Prop := Claim7.holds Tryz.pinned (.plain (OpenSpec.ofChange topScalesSpec)) topScalesCard

/-- THE SECOND FORM's CARD OF 'bringuptop.TopScales'. -/
def topScalesUptoCard : Claim7 := { stood := { row := topScalesUptoRow, standIns := [], harness := (true, "00caba9fea0aff2679ce3ae361ae9cd32cf8ce5b3dd4c809ee1df5f971f1f296"), looks := false }, kinds := [], alts := [], laidByText := true, laidKinds := [.data, .data, .data, .pinned], laidTests := true, laidLooks := .later }
def TopScalesUptoCardSaid : Prop := Claim7.holds Tryz.pinned (.plain (OpenSpec.upto topScalesSpec)) topScalesUptoCard
end Rows
end Go.Proofs.YtbcndmkgjdoojaaGreatDoor
