/-
  DERIVED. GIVEN WITH THE SEED: THE CARDS: each row of YtfflacggaebonaaGreatDoorRows.lean that lists a variable, with what it lists TIED to the program's text (the seventh form; the later family's looks); each row that meets fmt, with fmt's text TOLD by the authors' own Lean function (tested against real Go, not proved from fmt's source: count such statements apart). THE CARD IS WHAT COUNTS. Prove the row's statement (the work); the ties are given (YtfflacggaebonaaGreatDoorTie.lean); close each card by the builder's one call (the guide's Derived/Test/ToyasCard.lean, 'card_holds'). Laid BY PROGRAM, IN A SANDBOX (cutbox-door.mjs). By AI agents, Wed Nov 11 2026. No macro, syntax, notation, axiom, sorry.
-/
import Derived.Test.YtfflacggaebonaaGreatDoorRows
import GoSem.ClaimSeven
namespace Go.Proofs.YtfflacggaebonaaGreatDoor
namespace Rows

/-- THE TIED CARD OF 'turnrowlaw12.ImageActs'. -/
def imageActsCard : Claim7 := { stood := { row := imageActsRow, standIns := [], harness := (true, "893903326f8ea66d741bbd232565a8aea6f19e8c24a93eafe06e8151bdb47cdc"), looks := false }, kinds := [], alts := [], laidByText := true, laidKinds := [.data], laidTests := true, laidLooks := .later }
def ImageActsCardSaid : Prop := Claim7.holds Tryz.pinned (.plain (OpenSpec.ofChange imageActsSpec)) imageActsCard

/-- THE SECOND FORM's CARD OF 'turnrowlaw12.ImageActs'. -/
def imageActsUptoCard : Claim7 := { stood := { row := imageActsUptoRow, standIns := [], harness := (true, "893903326f8ea66d741bbd232565a8aea6f19e8c24a93eafe06e8151bdb47cdc"), looks := false }, kinds := [], alts := [], laidByText := true, laidKinds := [.data], laidTests := true, laidLooks := .later }
def ImageActsUptoCardSaid : Prop := Claim7.holds Tryz.pinned (.plain (OpenSpec.upto imageActsSpec)) imageActsUptoCard
end Rows
end Go.Proofs.YtfflacggaebonaaGreatDoor
