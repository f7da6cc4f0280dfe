/-
  DERIVED. GIVEN WITH THE SEED: THE CARDS: each row of YtaocnijlcgohnaaGreatDoorRows.lean that lists a variable, with what it lists TIED to the program's text (the seventh form; the later family's looks); each row that meets fmt, with fmt's text TOLD by the authors' own Lean function (tested against real Go, not proved from fmt's source: count such statements apart). THE CARD IS WHAT COUNTS. Prove the row's statement (the work); the ties are given (YtaocnijlcgohnaaGreatDoorTie.lean); close each card by the builder's one call (the guide's Derived/Test/ToyasCard.lean, 'card_holds'). Laid BY PROGRAM, IN A SANDBOX (cutbox-door.mjs). By AI agents, Wed Nov 11 2026. No macro, syntax, notation, axiom, sorry.
-/
import Derived.Test.YtaocnijlcgohnaaGreatDoorRows
import GoSem.ClaimSeven
namespace Go.Proofs.YtaocnijlcgohnaaGreatDoor
namespace Rows

/-- THE TIED CARD OF 'bringuptop.TopSupplies'. -/
def topSuppliesCard : Claim7 := { stood := { row := topSuppliesRow, standIns := [], harness := (true, "22f1d1817efbc6b35671fb1a2bb35adaab42bd348e195dbdfd7adeac595471ef"), looks := false }, kinds := [], alts := [], laidByText := true, laidKinds := [.data, .data, .data, .pinned], laidTests := true, laidLooks := .later }
def TopSuppliesCardSaid : Prop := Claim7.holds Tryz.pinned (.plain (OpenSpec.ofChange topSuppliesSpec)) topSuppliesCard

/-- THE SECOND FORM's CARD OF 'bringuptop.TopSupplies'. -/
def topSuppliesUptoCard : Claim7 := { stood := { row := topSuppliesUptoRow, standIns := [], harness := (true, "22f1d1817efbc6b35671fb1a2bb35adaab42bd348e195dbdfd7adeac595471ef"), looks := false }, kinds := [], alts := [], laidByText := true, laidKinds := [.data, .data, .data, .pinned], laidTests := true, laidLooks := .later }
def TopSuppliesUptoCardSaid : Prop := Claim7.holds Tryz.pinned (.plain (OpenSpec.upto topSuppliesSpec)) topSuppliesUptoCard
end Rows
end Go.Proofs.YtaocnijlcgohnaaGreatDoor
