/-
  DERIVED. GIVEN WITH THE SEED: THE CARDS: each row of YtcffenekomiakaaDoorRows.lean that lists a variable, with what it lists TIED to the program's text (the seventh form; the later family's looks); each row that meets fmt, with fmt's text TOLD by the authors' own Lean function (tested against real Go, not proved from fmt's source: count such statements apart). THE CARD IS WHAT COUNTS. Prove the row's statement (the work); the ties are given (YtcffenekomiakaaDoorTie.lean); close each card by the builder's one call (the guide's Derived/Test/ToyasCard.lean, 'card_holds'). Laid BY PROGRAM, IN A SANDBOX (cutbox-door.mjs). By AI agents, Wed Nov 11 2026. No macro, syntax, notation, axiom, sorry.
-/
import Derived.Test.YtcffenekomiakaaDoorRows
import GoSem.ClaimSeven
namespace Go.Proofs.YtcffenekomiakaaDoor
namespace Rows

/-- THE TIED CARD OF 'turnrowlaw04.LayoutWords'. -/
def layoutWordsCard : Claim7 := { stood := { row := layoutWordsRow, standIns := [], harness := (true, "94bcbee110a512d05e4152d62a39604e0757149cff737e4a94f65ac67a71de8c"), looks := false }, kinds := [], alts := [], laidByText := true, laidKinds := [.data], laidTests := true, laidLooks := .later }
def LayoutWordsCardSaid : Prop := Claim7.holds Tryd.pinned (.plain (OpenSpec.ofChange layoutWordsSpec)) layoutWordsCard

/-- THE TIED CARD OF 'turnrowlaw04.LayoutBack'. -/
def layoutBackCard : Claim7 := { stood := { row := layoutBackRow, standIns := [], harness := (true, "94bcbee110a512d05e4152d62a39604e0757149cff737e4a94f65ac67a71de8c"), looks := false }, kinds := [], alts := [], laidByText := true, laidKinds := [.data], laidTests := true, laidLooks := .later }
def LayoutBackCardSaid : Prop := Claim7.holds Tryd.pinned (.plain (OpenSpec.ofChange layoutBackSpec)) layoutBackCard

/-- THE SECOND FORM's CARD OF 'turnrowlaw04.LayoutWords'. -/
def layoutWordsUptoCard : Claim7 := { stood := { row := layoutWordsUptoRow, standIns := [], harness := (true, "94bcbee110a512d05e4152d62a39604e0757149cff737e4a94f65ac67a71de8c"), looks := false }, kinds := [], alts := [], laidByText := true, laidKinds := [.data], laidTests := true, laidLooks := .later }
def LayoutWordsUptoCardSaid : Prop := Claim7.holds Tryd.pinned (.plain (OpenSpec.upto layoutWordsSpec)) layoutWordsUptoCard

/-- THE SECOND FORM's CARD OF 'turnrowlaw04.LayoutBack'. -/
def layoutBackUptoCard : Claim7 := { stood := { row := layoutBackUptoRow, standIns := [], harness := (true, "94bcbee110a512d05e4152d62a39604e0757149cff737e4a94f65ac67a71de8c"), looks := false }, kinds := [], alts := [], laidByText := true, laidKinds := [.data], laidTests := true, laidLooks := .later }
def LayoutBackUptoCardSaid : Prop := Claim7.holds Tryd.pinned (.plain (OpenSpec.upto layoutBackSpec)) layoutBackUptoCard
end Rows
end Go.Proofs.YtcffenekomiakaaDoor
