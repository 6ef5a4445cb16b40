/-
  DERIVED. GIVEN WITH THE SEED: THE CARDS: each row of YtkaflgbipjppmaaDoorRows.lean that lists a variable, with what it lists TIED to the program's text (the seventh form; the later family's looks); each row that meets fmt, with fmt's text TOLD by the authors' own Lean function (tested against real Go, not proved from fmt's source: count such statements apart). THE CARD IS WHAT COUNTS. Prove the row's statement (the work); the ties are given (YtkaflgbipjppmaaDoorTie.lean); close each card by the builder's one call (the guide's Derived/Test/ToyasCard.lean, 'card_holds'). Laid BY PROGRAM, IN A SANDBOX (cutbox-door.mjs). By AI agents, Wed Nov 11 2026. No macro, syntax, notation, axiom, sorry.
-/
import Derived.Test.YtkaflgbipjppmaaDoorRows
import GoSem.ClaimSeven
namespace Go.Proofs.YtkaflgbipjppmaaDoor
namespace Rows

/-- THE TIED CARD OF 'turnrowlaw09.BumpFew'. -/
def bumpFewCard : Claim7 := { stood := { row := bumpFewRow, standIns := [], harness := (true, "760efc30e101acf00668edb3230519fea7f49a32f410263b6be75b7013a8ea11"), looks := false }, kinds := [], alts := [], laidByText := true, laidKinds := [.data], laidTests := true, laidLooks := .later }
def BumpFewCardSaid : Prop := Claim7.holds Tryd.pinned (.plain (OpenSpec.ofChange bumpFewSpec)) bumpFewCard

/-- THE TIED CARD OF 'turnrowlaw03.StoreCopies'. -/
def storeCopiesCard : Claim7 := { stood := { row := storeCopiesRow, standIns := [], harness := (true, "760efc30e101acf00668edb3230519fea7f49a32f410263b6be75b7013a8ea11"), looks := false }, kinds := [], alts := [], laidByText := true, laidKinds := [.data], laidTests := true, laidLooks := .later }
def StoreCopiesCardSaid : Prop := Claim7.holds Tryd.pinned (.plain (OpenSpec.ofChange storeCopiesSpec)) storeCopiesCard

/-- THE TIED CARD OF 'turnrowlaw09.BumpApart'. -/
def bumpApartCard : Claim7 := { stood := { row := bumpApartRow, standIns := [], harness := (true, "760efc30e101acf00668edb3230519fea7f49a32f410263b6be75b7013a8ea11"), looks := false }, kinds := [], alts := [], laidByText := true, laidKinds := [.data], laidTests := true, laidLooks := .later }
def BumpApartCardSaid : Prop := Claim7.holds Tryd.pinned (.plain (OpenSpec.ofChange bumpApartSpec)) bumpApartCard

/-- THE TIED CARD OF 'turnrowlaw03.StoreTakes'. -/
def storeTakesCard : Claim7 := { stood := { row := storeTakesRow, standIns := [], harness := (true, "760efc30e101acf00668edb3230519fea7f49a32f410263b6be75b7013a8ea11"), looks := false }, kinds := [], alts := [], laidByText := true, laidKinds := [.data], laidTests := true, laidLooks := .later }
def StoreTakesCardSaid : Prop := Claim7.holds Tryd.pinned (.plain (OpenSpec.ofChange storeTakesSpec)) storeTakesCard

/-- THE TIED CARD OF 'turnrowlaw03.StoreRuns'. -/
def storeRunsCard : Claim7 := { stood := { row := storeRunsRow, standIns := [], harness := (true, "760efc30e101acf00668edb3230519fea7f49a32f410263b6be75b7013a8ea11"), looks := false }, kinds := [], alts := [], laidByText := true, laidKinds := [.data], laidTests := true, laidLooks := .later }
def StoreRunsCardSaid : Prop := Claim7.holds Tryd.pinned (.plain (OpenSpec.ofChange storeRunsSpec)) storeRunsCard

/-- THE TIED CARD OF 'turnrowlaw03.StoreGives'. -/
def storeGivesCard : Claim7 := { stood := { row := storeGivesRow, standIns := [], harness := (true, "760efc30e101acf00668edb3230519fea7f49a32f410263b6be75b7013a8ea11"), looks := false }, kinds := [], alts := [], laidByText := true, laidKinds := [.data], laidTests := true, laidLooks := .later }
def StoreGivesCardSaid : Prop := Claim7.holds Tryd.pinned (.plain (OpenSpec.ofChange storeGivesSpec)) storeGivesCard

/-- THE TIED CARD OF 'turnrowlaw03.StoreParts'. -/
def storePartsCard : Claim7 := { stood := { row := storePartsRow, standIns := [], harness := (true, "760efc30e101acf00668edb3230519fea7f49a32f410263b6be75b7013a8ea11"), looks := false }, kinds := [], alts := [], laidByText := true, laidKinds := [.data], laidTests := true, laidLooks := .later }
def StorePartsCardSaid : Prop := Claim7.holds Tryd.pinned (.plain (OpenSpec.ofChange storePartsSpec)) storePartsCard

/-- THE TIED CARD OF 'turnrowlaw09.BumpRuns'. -/
def bumpRunsCard : Claim7 := { stood := { row := bumpRunsRow, standIns := [], harness := (true, "760efc30e101acf00668edb3230519fea7f49a32f410263b6be75b7013a8ea11"), looks := false }, kinds := [], alts := [], laidByText := true, laidKinds := [.data], laidTests := true, laidLooks := .later }
def BumpRunsCardSaid : Prop := Claim7.holds Tryd.pinned (.plain (OpenSpec.ofChange bumpRunsSpec)) bumpRunsCard

/-- THE TIED CARD OF 'turnrowlaw03.StoreActs'. -/
def storeActsCard : Claim7 := { stood := { row := storeActsRow, standIns := [], harness := (true, "760efc30e101acf00668edb3230519fea7f49a32f410263b6be75b7013a8ea11"), looks := false }, kinds := [], alts := [], laidByText := true, laidKinds := [.data], laidTests := true, laidLooks := .later }
def StoreActsCardSaid : Prop := Claim7.holds Tryd.pinned (.plain (OpenSpec.ofChange storeActsSpec)) storeActsCard

/-- THE TIED CARD OF 'turnrowlaw03.StoreNews'. -/
def storeNewsCard : Claim7 := { stood := { row := storeNewsRow, standIns := [], harness := (true, "760efc30e101acf00668edb3230519fea7f49a32f410263b6be75b7013a8ea11"), looks := false }, kinds := [], alts := [], laidByText := true, laidKinds := [.data], laidTests := true, laidLooks := .later }
def StoreNewsCardSaid : Prop := Claim7.holds Tryd.pinned (.plain (OpenSpec.ofChange storeNewsSpec)) storeNewsCard

/-- THE TIED CARD OF 'turnrowlaw09.BumpNews'. -/
def bumpNewsCard : Claim7 := { stood := { row := bumpNewsRow, standIns := [], harness := (true, "760efc30e101acf00668edb3230519fea7f49a32f410263b6be75b7013a8ea11"), looks := false }, kinds := [], alts := [], laidByText := true, laidKinds := [.data], laidTests := true, laidLooks := .later }
def BumpNewsCardSaid : Prop := Claim7.holds Tryd.pinned (.plain (OpenSpec.ofChange bumpNewsSpec)) bumpNewsCard

/-- THE TIED CARD OF 'turnrowlaw09.BumpActs'. -/
def bumpActsCard : Claim7 := { stood := { row := bumpActsRow, standIns := [], harness := (true, "760efc30e101acf00668edb3230519fea7f49a32f410263b6be75b7013a8ea11"), looks := false }, kinds := [], alts := [], laidByText := true, laidKinds := [.data], laidTests := true, laidLooks := .later }
def BumpActsCardSaid : Prop := Claim7.holds Tryd.pinned (.plain (OpenSpec.ofChange bumpActsSpec)) bumpActsCard

/-- THE TIED CARD OF 'turnrowlaw09.BumpMoves'. -/
def bumpMovesCard : Claim7 := { stood := { row := bumpMovesRow, standIns := [], harness := (true, "760efc30e101acf00668edb3230519fea7f49a32f410263b6be75b7013a8ea11"), looks := false }, kinds := [], alts := [], laidByText := true, laidKinds := [.data], laidTests := true, laidLooks := .later }
def BumpMovesCardSaid : Prop := Claim7.holds Tryd.pinned (.plain (OpenSpec.ofChange bumpMovesSpec)) bumpMovesCard

/-- THE SECOND FORM's CARD OF 'turnrowlaw09.BumpFew'. -/
def bumpFewUptoCard : Claim7 := { stood := { row := bumpFewUptoRow, standIns := [], harness := (true, "760efc30e101acf00668edb3230519fea7f49a32f410263b6be75b7013a8ea11"), looks := false }, kinds := [], alts := [], laidByText := true, laidKinds := [.data], laidTests := true, laidLooks := .later }
def BumpFewUptoCardSaid : Prop := Claim7.holds Tryd.pinned (.plain (OpenSpec.upto bumpFewSpec)) bumpFewUptoCard

/-- THE SECOND FORM's CARD OF 'turnrowlaw03.StoreCopies'. -/
def storeCopiesUptoCard : Claim7 := { stood := { row := storeCopiesUptoRow, standIns := [], harness := (true, "760efc30e101acf00668edb3230519fea7f49a32f410263b6be75b7013a8ea11"), looks := false }, kinds := [], alts := [], laidByText := true, laidKinds := [.data], laidTests := true, laidLooks := .later }
def StoreCopiesUptoCardSaid : Prop := Claim7.holds Tryd.pinned (.plain (OpenSpec.upto storeCopiesSpec)) storeCopiesUptoCard

/-- THE SECOND FORM's CARD OF 'turnrowlaw09.BumpApart'. -/
def bumpApartUptoCard : Claim7 := { stood := { row := bumpApartUptoRow, standIns := [], harness := (true, "760efc30e101acf00668edb3230519fea7f49a32f410263b6be75b7013a8ea11"), looks := false }, kinds := [], alts := [], laidByText := true, laidKinds := [.data], laidTests := true, laidLooks := .later }
def BumpApartUptoCardSaid : Prop := Claim7.holds Tryd.pinned (.plain (OpenSpec.upto bumpApartSpec)) bumpApartUptoCard

/-- THE SECOND FORM's CARD OF 'turnrowlaw03.StoreTakes'. -/
def storeTakesUptoCard : Claim7 := { stood := { row := storeTakesUptoRow, standIns := [], harness := (true, "760efc30e101acf00668edb3230519fea7f49a32f410263b6be75b7013a8ea11"), looks := false }, kinds := [], alts := [], laidByText := true, laidKinds := [.data], laidTests := true, laidLooks := .later }
def StoreTakesUptoCardSaid : Prop := Claim7.holds Tryd.pinned (.plain (OpenSpec.upto storeTakesSpec)) storeTakesUptoCard

/-- THE SECOND FORM's CARD OF 'turnrowlaw03.StoreRuns'. -/
def storeRunsUptoCard : Claim7 := { stood := { row := storeRunsUptoRow, standIns := [], harness := (true, "760efc30e101acf00668edb3230519fea7f49a32f410263b6be75b7013a8ea11"), looks := false }, kinds := [], alts := [], laidByText := true, laidKinds := [.data], laidTests := true, laidLooks := .later }
def StoreRunsUptoCardSaid : Prop := Claim7.holds Tryd.pinned (.plain (OpenSpec.upto storeRunsSpec)) storeRunsUptoCard

/-- THE SECOND FORM's CARD OF 'turnrowlaw03.StoreGives'. -/
def storeGivesUptoCard : Claim7 := { stood := { row := storeGivesUptoRow, standIns := [], harness := (true, "760efc30e101acf00668edb3230519fea7f49a32f410263b6be75b7013a8ea11"), looks := false }, kinds := [], alts := [], laidByText := true, laidKinds := [.data], laidTests := true, laidLooks := .later }
def StoreGivesUptoCardSaid : Prop := Claim7.holds Tryd.pinned (.plain (OpenSpec.upto storeGivesSpec)) storeGivesUptoCard

/-- THE SECOND FORM's CARD OF 'turnrowlaw03.StoreParts'. -/
def storePartsUptoCard : Claim7 := { stood := { row := storePartsUptoRow, standIns := [], harness := (true, "760efc30e101acf00668edb3230519fea7f49a32f410263b6be75b7013a8ea11"), looks := false }, kinds := [], alts := [], laidByText := true, laidKinds := [.data], laidTests := true, laidLooks := .later }
def StorePartsUptoCardSaid : Prop := Claim7.holds Tryd.pinned (.plain (OpenSpec.upto storePartsSpec)) storePartsUptoCard

/-- THE SECOND FORM's CARD OF 'turnrowlaw09.BumpRuns'. -/
def bumpRunsUptoCard : Claim7 := { stood := { row := bumpRunsUptoRow, standIns := [], harness := (true, "760efc30e101acf00668edb3230519fea7f49a32f410263b6be75b7013a8ea11"), looks := false }, kinds := [], alts := [], laidByText := true, laidKinds := [.data], laidTests := true, laidLooks := .later }
def BumpRunsUptoCardSaid : Prop := Claim7.holds Tryd.pinned (.plain (OpenSpec.upto bumpRunsSpec)) bumpRunsUptoCard

/-- THE SECOND FORM's CARD OF 'turnrowlaw03.StoreActs'. -/
def storeActsUptoCard : Claim7 := { stood := { row := storeActsUptoRow, standIns := [], harness := (true, "760efc30e101acf00668edb3230519fea7f49a32f410263b6be75b7013a8ea11"), looks := false }, kinds := [], alts := [], laidByText := true, laidKinds := [.data], laidTests := true, laidLooks := .later }
def StoreActsUptoCardSaid : Prop := Claim7.holds Tryd.pinned (.plain (OpenSpec.upto storeActsSpec)) storeActsUptoCard

/-- THE SECOND FORM's CARD OF 'turnrowlaw03.StoreNews'. -/
def storeNewsUptoCard : Claim7 := { stood := { row := storeNewsUptoRow, standIns := [], harness := (true, "760efc30e101acf00668edb3230519fea7f49a32f410263b6be75b7013a8ea11"), looks := false }, kinds := [], alts := [], laidByText := true, laidKinds := [.data], laidTests := true, laidLooks := .later }
def StoreNewsUptoCardSaid : Prop := Claim7.holds Tryd.pinned (.plain (OpenSpec.upto storeNewsSpec)) storeNewsUptoCard

/-- THE SECOND FORM's CARD OF 'turnrowlaw09.BumpNews'. -/
def bumpNewsUptoCard : Claim7 := { stood := { row := bumpNewsUptoRow, standIns := [], harness := (true, "760efc30e101acf00668edb3230519fea7f49a32f410263b6be75b7013a8ea11"), looks := false }, kinds := [], alts := [], laidByText := true, laidKinds := [.data], laidTests := true, laidLooks := .later }
def BumpNewsUptoCardSaid : Prop := Claim7.holds Tryd.pinned (.plain (OpenSpec.upto bumpNewsSpec)) bumpNewsUptoCard

/-- THE SECOND FORM's CARD OF 'turnrowlaw09.BumpActs'. -/
def bumpActsUptoCard : Claim7 := { stood := { row := bumpActsUptoRow, standIns := [], harness := (true, "760efc30e101acf00668edb3230519fea7f49a32f410263b6be75b7013a8ea11"), looks := false }, kinds := [], alts := [], laidByText := true, laidKinds := [.data], laidTests := true, laidLooks := .later }
def BumpActsUptoCardSaid : Prop := Claim7.holds Tryd.pinned (.plain (OpenSpec.upto bumpActsSpec)) bumpActsUptoCard

/-- THE SECOND FORM's CARD OF 'turnrowlaw09.BumpMoves'. -/
def bumpMovesUptoCard : Claim7 := { stood := { row := bumpMovesUptoRow, standIns := [], harness := (true, "760efc30e101acf00668edb3230519fea7f49a32f410263b6be75b7013a8ea11"), looks := false }, kinds := [], alts := [], laidByText := true, laidKinds := [.data], laidTests := true, laidLooks := .later }
def BumpMovesUptoCardSaid : Prop := Claim7.holds Tryd.pinned (.plain (OpenSpec.upto bumpMovesSpec)) bumpMovesUptoCard
end Rows
end Go.Proofs.YtkaflgbipjppmaaDoor
