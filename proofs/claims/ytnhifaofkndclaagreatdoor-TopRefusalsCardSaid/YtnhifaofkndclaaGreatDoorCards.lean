/-
  DERIVED. GIVEN WITH THE SEED: THE CARDS: each row of YtnhifaofkndclaaGreatDoorRows.lean that lists a variable, with what it lists TIED to the program's text (the seventh form; the later family's looks); each row that meets fmt, with fmt's text TOLD by the authors' own Lean function (tested against real Go, not proved from fmt's source: count such statements apart). THE CARD IS WHAT COUNTS. Prove the row's statement (the work); the ties are given (YtnhifaofkndclaaGreatDoorTie.lean); close each card by the builder's one call (the guide's Derived/Test/ToyasCard.lean, 'card_holds'). Laid BY PROGRAM, IN A SANDBOX (cutbox-door.mjs). By AI agents, Wed Nov 11 2026. No macro, syntax, notation, axiom, sorry.
-/
import Derived.Test.YtnhifaofkndclaaGreatDoorRows
import GoSem.ClaimSeven
namespace Go.Proofs.YtnhifaofkndclaaGreatDoor
namespace Rows

/-- THE TIED CARD OF 'bringuptop.TopRefusals'. -/
def topRefusalsCard : Claim7 := { stood := { row := topRefusalsRow, standIns := [], harness := (true, "e5d7b6cbabe70d0d573396910fa6552874ca33cef2cdf90375ad6b7f92c32dbb"), looks := false }, kinds := [], alts := [], laidByText := true, laidKinds := [.data, .pinned], laidTests := true, laidLooks := .later }
def TopRefusalsCardSaid : Prop := Claim7.holds Tryz.pinned (.plain (OpenSpec.ofChange topRefusalsSpec)) topRefusalsCard

/-- THE SECOND FORM's CARD OF 'bringuptop.TopRefusals'. -/
def topRefusalsUptoCard : Claim7 := { stood := { row := topRefusalsUptoRow, standIns := [], harness := (true, "e5d7b6cbabe70d0d573396910fa6552874ca33cef2cdf90375ad6b7f92c32dbb"), looks := false }, kinds := [], alts := [], laidByText := true, laidKinds := [.data, .pinned], laidTests := true, laidLooks := .later }
def TopRefusalsUptoCardSaid : Prop := Claim7.holds Tryz.pinned (.plain (OpenSpec.upto topRefusalsSpec)) topRefusalsUptoCard
end Rows
end Go.Proofs.YtnhifaofkndclaaGreatDoor
