/-
  DERIVED. GIVEN WITH THE SEED: THE CARDS: each row of YtfflacggaebonaaDoorRows.lean that lists a variable, with what it lists TIED to the program's text (the seventh form; the later family's looks); each row that meets fmt, with fmt's text TOLD by the authors' own Lean function (tested against real Go, not proved from fmt's source: count such statements apart). THE CARD IS WHAT COUNTS. Prove the row's statement (the work); the ties are given (YtfflacggaebonaaDoorTie.lean); close each card by the builder's one call (the guide's Derived/Test/ToyasCard.lean, 'card_holds'). Laid BY PROGRAM, IN A SANDBOX (cutbox-door.mjs). By AI agents, Wed Nov 11 2026. No macro, syntax, notation, axiom, sorry.
-/
import Derived.Test.YtfflacggaebonaaDoorRows
import GoSem.ClaimSeven
namespace Go.Proofs.YtfflacggaebonaaDoor
namespace Rows

/-- THE TIED CARD OF 'turnrowlaw12.ImageBounds'. -/
def imageBoundsCard : Claim7 := { stood := { row := imageBoundsRow, standIns := [], harness := (true, "290ca537bc81ae9dadb7d6d8fc825f0cd53e94b19f593b304380ef43dbcee43f"), looks := false }, kinds := [], alts := [], laidByText := true, laidKinds := [.data], laidTests := true, laidLooks := .later }
def ImageBoundsCardSaid : Prop := Claim7.holds Tryd.pinned (.plain (OpenSpec.ofChange imageBoundsSpec)) imageBoundsCard

/-- THE TIED CARD OF 'turnrowlaw12.ImageKeeps'. -/
def imageKeepsCard : Claim7 := { stood := { row := imageKeepsRow, standIns := [], harness := (true, "290ca537bc81ae9dadb7d6d8fc825f0cd53e94b19f593b304380ef43dbcee43f"), looks := false }, kinds := [], alts := [], laidByText := true, laidKinds := [.data], laidTests := true, laidLooks := .later }
def ImageKeepsCardSaid : Prop := Claim7.holds Tryd.pinned (.plain (OpenSpec.ofChange imageKeepsSpec)) imageKeepsCard

/-- THE TIED CARD OF 'turnrowlaw12.ImageNews'. -/
def imageNewsCard : Claim7 := { stood := { row := imageNewsRow, standIns := [], harness := (true, "290ca537bc81ae9dadb7d6d8fc825f0cd53e94b19f593b304380ef43dbcee43f"), looks := false }, kinds := [], alts := [], laidByText := true, laidKinds := [.data], laidTests := true, laidLooks := .later }
def ImageNewsCardSaid : Prop := Claim7.holds Tryd.pinned (.plain (OpenSpec.ofChange imageNewsSpec)) imageNewsCard

/-- THE TIED CARD OF 'turnrowlaw12.ImageLinks'. -/
def imageLinksCard : Claim7 := { stood := { row := imageLinksRow, standIns := [], harness := (true, "290ca537bc81ae9dadb7d6d8fc825f0cd53e94b19f593b304380ef43dbcee43f"), looks := false }, kinds := [], alts := [], laidByText := true, laidKinds := [.data], laidTests := true, laidLooks := .later }
def ImageLinksCardSaid : Prop := Claim7.holds Tryd.pinned (.plain (OpenSpec.ofChange imageLinksSpec)) imageLinksCard

/-- THE SECOND FORM's CARD OF 'turnrowlaw12.ImageBounds'. -/
def imageBoundsUptoCard : Claim7 := { stood := { row := imageBoundsUptoRow, standIns := [], harness := (true, "290ca537bc81ae9dadb7d6d8fc825f0cd53e94b19f593b304380ef43dbcee43f"), looks := false }, kinds := [], alts := [], laidByText := true, laidKinds := [.data], laidTests := true, laidLooks := .later }
def ImageBoundsUptoCardSaid : Prop := Claim7.holds Tryd.pinned (.plain (OpenSpec.upto imageBoundsSpec)) imageBoundsUptoCard

/-- THE SECOND FORM's CARD OF 'turnrowlaw12.ImageKeeps'. -/
def imageKeepsUptoCard : Claim7 := { stood := { row := imageKeepsUptoRow, standIns := [], harness := (true, "290ca537bc81ae9dadb7d6d8fc825f0cd53e94b19f593b304380ef43dbcee43f"), looks := false }, kinds := [], alts := [], laidByText := true, laidKinds := [.data], laidTests := true, laidLooks := .later }
def ImageKeepsUptoCardSaid : Prop := Claim7.holds Tryd.pinned (.plain (OpenSpec.upto imageKeepsSpec)) imageKeepsUptoCard

/-- THE SECOND FORM's CARD OF 'turnrowlaw12.ImageNews'. -/
def imageNewsUptoCard : Claim7 := { stood := { row := imageNewsUptoRow, standIns := [], harness := (true, "290ca537bc81ae9dadb7d6d8fc825f0cd53e94b19f593b304380ef43dbcee43f"), looks := false }, kinds := [], alts := [], laidByText := true, laidKinds := [.data], laidTests := true, laidLooks := .later }
def ImageNewsUptoCardSaid : Prop := Claim7.holds Tryd.pinned (.plain (OpenSpec.upto imageNewsSpec)) imageNewsUptoCard

/-- THE SECOND FORM's CARD OF 'turnrowlaw12.ImageLinks'. -/
def imageLinksUptoCard : Claim7 := { stood := { row := imageLinksUptoRow, standIns := [], harness := (true, "290ca537bc81ae9dadb7d6d8fc825f0cd53e94b19f593b304380ef43dbcee43f"), looks := false }, kinds := [], alts := [], laidByText := true, laidKinds := [.data], laidTests := true, laidLooks := .later }
def ImageLinksUptoCardSaid : Prop := Claim7.holds Tryd.pinned (.plain (OpenSpec.upto imageLinksSpec)) imageLinksUptoCard
end Rows
end Go.Proofs.YtfflacggaebonaaDoor
