/-
  DERIVED. GIVEN WITH THE SEED: THE CARDS: each row of YtbdpbkblihaeiaaDoorRows.lean that lists a variable, with what it lists TIED to the program's text (the seventh form; the later family's looks); each row that meets fmt, with fmt's text TOLD by the authors' own Lean function (tested against real Go, not proved from fmt's source: count such statements apart). THE CARD IS WHAT COUNTS. Prove the row's statement (the work); the ties are given (YtbdpbkblihaeiaaDoorTie.lean); close each card by the builder's one call (the guide's Derived/Test/ToyasCard.lean, 'card_holds'). Laid BY PROGRAM, IN A SANDBOX (cutbox-door.mjs). By AI agents, Wed Nov 11 2026. No macro, syntax, notation, axiom, sorry.
-/
import Derived.Test.YtbdpbkblihaeiaaDoorRows
import GoSem.ClaimSeven
namespace Go.Proofs.YtbdpbkblihaeiaaDoor
namespace Rows

/-- THE TIED CARD OF 'turnrowlaw02.BitmapNews'. -/
def bitmapNewsCard : Claim7 := { stood := { row := bitmapNewsRow, standIns := [], harness := (true, "65cc9441129b44cf5a827639eda6700a07fc9503bba752b6f7dbad2a03e9cec9"), looks := false }, kinds := [], alts := [], laidByText := true, laidKinds := [.data], laidTests := true, laidLooks := .later }
def BitmapNewsCardSaid : Prop := Claim7.holds Tryd.pinned (.plain (OpenSpec.ofChange bitmapNewsSpec)) bitmapNewsCard

/-- THE TIED CARD OF 'turnrowlaw02.BitmapActs'. -/
def bitmapActsCard : Claim7 := { stood := { row := bitmapActsRow, standIns := [], harness := (true, "65cc9441129b44cf5a827639eda6700a07fc9503bba752b6f7dbad2a03e9cec9"), looks := false }, kinds := [], alts := [], laidByText := true, laidKinds := [.data], laidTests := true, laidLooks := .later }
def BitmapActsCardSaid : Prop := Claim7.holds Tryd.pinned (.plain (OpenSpec.ofChange bitmapActsSpec)) bitmapActsCard

/-- THE TIED CARD OF 'turnrowlaw02.BitmapRuns'. -/
def bitmapRunsCard : Claim7 := { stood := { row := bitmapRunsRow, standIns := [], harness := (true, "65cc9441129b44cf5a827639eda6700a07fc9503bba752b6f7dbad2a03e9cec9"), looks := false }, kinds := [], alts := [], laidByText := true, laidKinds := [.data], laidTests := true, laidLooks := .later }
def BitmapRunsCardSaid : Prop := Claim7.holds Tryd.pinned (.plain (OpenSpec.ofChange bitmapRunsSpec)) bitmapRunsCard

/-- THE TIED CARD OF 'turnrowlaw02.BitmapTurns'. -/
def bitmapTurnsCard : Claim7 := { stood := { row := bitmapTurnsRow, standIns := [], harness := (true, "65cc9441129b44cf5a827639eda6700a07fc9503bba752b6f7dbad2a03e9cec9"), looks := false }, kinds := [], alts := [], laidByText := true, laidKinds := [.data], laidTests := true, laidLooks := .later }
def BitmapTurnsCardSaid : Prop := Claim7.holds Tryd.pinned (.plain (OpenSpec.ofChange bitmapTurnsSpec)) bitmapTurnsCard

/-- THE TIED CARD OF 'turnrowlaw02.BitmapFirst'. -/
def bitmapFirstCard : Claim7 := { stood := { row := bitmapFirstRow, standIns := [], harness := (true, "65cc9441129b44cf5a827639eda6700a07fc9503bba752b6f7dbad2a03e9cec9"), looks := false }, kinds := [], alts := [], laidByText := true, laidKinds := [.data], laidTests := true, laidLooks := .later }
def BitmapFirstCardSaid : Prop := Claim7.holds Tryd.pinned (.plain (OpenSpec.ofChange bitmapFirstSpec)) bitmapFirstCard

/-- THE TIED CARD OF 'turnrowlaw02.BitmapAll'. -/
def bitmapAllCard : Claim7 := { stood := { row := bitmapAllRow, standIns := [], harness := (true, "65cc9441129b44cf5a827639eda6700a07fc9503bba752b6f7dbad2a03e9cec9"), looks := false }, kinds := [], alts := [], laidByText := true, laidKinds := [.data], laidTests := true, laidLooks := .later }
def BitmapAllCardSaid : Prop := Claim7.holds Tryd.pinned (.plain (OpenSpec.ofChange bitmapAllSpec)) bitmapAllCard

/-- THE TIED CARD OF 'turnrowlaw07.TableSets'. -/
def tableSetsCard : Claim7 := { stood := { row := tableSetsRow, standIns := [], harness := (true, "65cc9441129b44cf5a827639eda6700a07fc9503bba752b6f7dbad2a03e9cec9"), looks := false }, kinds := [], alts := [], laidByText := true, laidKinds := [.data], laidTests := true, laidLooks := .later }
def TableSetsCardSaid : Prop := Claim7.holds Tryd.pinned (.plain (OpenSpec.ofChange tableSetsSpec)) tableSetsCard

/-- THE TIED CARD OF 'turnrowlaw07.TableRetires'. -/
def tableRetiresCard : Claim7 := { stood := { row := tableRetiresRow, standIns := [], harness := (true, "65cc9441129b44cf5a827639eda6700a07fc9503bba752b6f7dbad2a03e9cec9"), looks := false }, kinds := [], alts := [], laidByText := true, laidKinds := [.data], laidTests := true, laidLooks := .later }
def TableRetiresCardSaid : Prop := Claim7.holds Tryd.pinned (.plain (OpenSpec.ofChange tableRetiresSpec)) tableRetiresCard

/-- THE TIED CARD OF 'turnrowlaw07.TableOnce'. -/
def tableOnceCard : Claim7 := { stood := { row := tableOnceRow, standIns := [], harness := (true, "65cc9441129b44cf5a827639eda6700a07fc9503bba752b6f7dbad2a03e9cec9"), looks := false }, kinds := [], alts := [], laidByText := true, laidKinds := [.data], laidTests := true, laidLooks := .later }
def TableOnceCardSaid : Prop := Claim7.holds Tryd.pinned (.plain (OpenSpec.ofChange tableOnceSpec)) tableOnceCard

/-- THE TIED CARD OF 'turnrowlaw07.TableAll'. -/
def tableAllCard : Claim7 := { stood := { row := tableAllRow, standIns := [], harness := (true, "65cc9441129b44cf5a827639eda6700a07fc9503bba752b6f7dbad2a03e9cec9"), looks := false }, kinds := [], alts := [], laidByText := true, laidKinds := [.data], laidTests := true, laidLooks := .later }
def TableAllCardSaid : Prop := Claim7.holds Tryd.pinned (.plain (OpenSpec.ofChange tableAllSpec)) tableAllCard

/-- THE TIED CARD OF 'turnrowlaw07.TableActs'. -/
def tableActsCard : Claim7 := { stood := { row := tableActsRow, standIns := [], harness := (true, "65cc9441129b44cf5a827639eda6700a07fc9503bba752b6f7dbad2a03e9cec9"), looks := false }, kinds := [], alts := [], laidByText := true, laidKinds := [.data], laidTests := true, laidLooks := .later }
def TableActsCardSaid : Prop := Claim7.holds Tryd.pinned (.plain (OpenSpec.ofChange tableActsSpec)) tableActsCard

/-- THE TIED CARD OF 'turnrowlaw07.TableNews'. -/
def tableNewsCard : Claim7 := { stood := { row := tableNewsRow, standIns := [], harness := (true, "65cc9441129b44cf5a827639eda6700a07fc9503bba752b6f7dbad2a03e9cec9"), looks := false }, kinds := [], alts := [], laidByText := true, laidKinds := [.data], laidTests := true, laidLooks := .later }
def TableNewsCardSaid : Prop := Claim7.holds Tryd.pinned (.plain (OpenSpec.ofChange tableNewsSpec)) tableNewsCard

/-- THE SECOND FORM's CARD OF 'turnrowlaw02.BitmapNews'. -/
def bitmapNewsUptoCard : Claim7 := { stood := { row := bitmapNewsUptoRow, standIns := [], harness := (true, "65cc9441129b44cf5a827639eda6700a07fc9503bba752b6f7dbad2a03e9cec9"), looks := false }, kinds := [], alts := [], laidByText := true, laidKinds := [.data], laidTests := true, laidLooks := .later }
def BitmapNewsUptoCardSaid : Prop := Claim7.holds Tryd.pinned (.plain (OpenSpec.upto bitmapNewsSpec)) bitmapNewsUptoCard

/-- THE SECOND FORM's CARD OF 'turnrowlaw02.BitmapActs'. -/
def bitmapActsUptoCard : Claim7 := { stood := { row := bitmapActsUptoRow, standIns := [], harness := (true, "65cc9441129b44cf5a827639eda6700a07fc9503bba752b6f7dbad2a03e9cec9"), looks := false }, kinds := [], alts := [], laidByText := true, laidKinds := [.data], laidTests := true, laidLooks := .later }
def BitmapActsUptoCardSaid : Prop := Claim7.holds Tryd.pinned (.plain (OpenSpec.upto bitmapActsSpec)) bitmapActsUptoCard

/-- THE SECOND FORM's CARD OF 'turnrowlaw02.BitmapRuns'. -/
def bitmapRunsUptoCard : Claim7 := { stood := { row := bitmapRunsUptoRow, standIns := [], harness := (true, "65cc9441129b44cf5a827639eda6700a07fc9503bba752b6f7dbad2a03e9cec9"), looks := false }, kinds := [], alts := [], laidByText := true, laidKinds := [.data], laidTests := true, laidLooks := .later }
def BitmapRunsUptoCardSaid : Prop := Claim7.holds Tryd.pinned (.plain (OpenSpec.upto bitmapRunsSpec)) bitmapRunsUptoCard

/-- THE SECOND FORM's CARD OF 'turnrowlaw02.BitmapTurns'. -/
def bitmapTurnsUptoCard : Claim7 := { stood := { row := bitmapTurnsUptoRow, standIns := [], harness := (true, "65cc9441129b44cf5a827639eda6700a07fc9503bba752b6f7dbad2a03e9cec9"), looks := false }, kinds := [], alts := [], laidByText := true, laidKinds := [.data], laidTests := true, laidLooks := .later }
def BitmapTurnsUptoCardSaid : Prop := Claim7.holds Tryd.pinned (.plain (OpenSpec.upto bitmapTurnsSpec)) bitmapTurnsUptoCard

/-- THE SECOND FORM's CARD OF 'turnrowlaw02.BitmapFirst'. -/
def bitmapFirstUptoCard : Claim7 := { stood := { row := bitmapFirstUptoRow, standIns := [], harness := (true, "65cc9441129b44cf5a827639eda6700a07fc9503bba752b6f7dbad2a03e9cec9"), looks := false }, kinds := [], alts := [], laidByText := true, laidKinds := [.data], laidTests := true, laidLooks := .later }
def BitmapFirstUptoCardSaid : Prop := Claim7.holds Tryd.pinned (.plain (OpenSpec.upto bitmapFirstSpec)) bitmapFirstUptoCard

/-- THE SECOND FORM's CARD OF 'turnrowlaw02.BitmapAll'. -/
def bitmapAllUptoCard : Claim7 := { stood := { row := bitmapAllUptoRow, standIns := [], harness := (true, "65cc9441129b44cf5a827639eda6700a07fc9503bba752b6f7dbad2a03e9cec9"), looks := false }, kinds := [], alts := [], laidByText := true, laidKinds := [.data], laidTests := true, laidLooks := .later }
def BitmapAllUptoCardSaid : Prop := Claim7.holds Tryd.pinned (.plain (OpenSpec.upto bitmapAllSpec)) bitmapAllUptoCard

/-- THE SECOND FORM's CARD OF 'turnrowlaw07.TableSets'. -/
def tableSetsUptoCard : Claim7 := { stood := { row := tableSetsUptoRow, standIns := [], harness := (true, "65cc9441129b44cf5a827639eda6700a07fc9503bba752b6f7dbad2a03e9cec9"), looks := false }, kinds := [], alts := [], laidByText := true, laidKinds := [.data], laidTests := true, laidLooks := .later }
def TableSetsUptoCardSaid : Prop := Claim7.holds Tryd.pinned (.plain (OpenSpec.upto tableSetsSpec)) tableSetsUptoCard

/-- THE SECOND FORM's CARD OF 'turnrowlaw07.TableRetires'. -/
def tableRetiresUptoCard : Claim7 := { stood := { row := tableRetiresUptoRow, standIns := [], harness := (true, "65cc9441129b44cf5a827639eda6700a07fc9503bba752b6f7dbad2a03e9cec9"), looks := false }, kinds := [], alts := [], laidByText := true, laidKinds := [.data], laidTests := true, laidLooks := .later }
def TableRetiresUptoCardSaid : Prop := Claim7.holds Tryd.pinned (.plain (OpenSpec.upto tableRetiresSpec)) tableRetiresUptoCard

/-- THE SECOND FORM's CARD OF 'turnrowlaw07.TableOnce'. -/
def tableOnceUptoCard : Claim7 := { stood := { row := tableOnceUptoRow, standIns := [], harness := (true, "65cc9441129b44cf5a827639eda6700a07fc9503bba752b6f7dbad2a03e9cec9"), looks := false }, kinds := [], alts := [], laidByText := true, laidKinds := [.data], laidTests := true, laidLooks := .later }
def TableOnceUptoCardSaid : Prop := Claim7.holds Tryd.pinned (.plain (OpenSpec.upto tableOnceSpec)) tableOnceUptoCard

/-- THE SECOND FORM's CARD OF 'turnrowlaw07.TableAll'. -/
def tableAllUptoCard : Claim7 := { stood := { row := tableAllUptoRow, standIns := [], harness := (true, "65cc9441129b44cf5a827639eda6700a07fc9503bba752b6f7dbad2a03e9cec9"), looks := false }, kinds := [], alts := [], laidByText := true, laidKinds := [.data], laidTests := true, laidLooks := .later }
def TableAllUptoCardSaid : Prop := Claim7.holds Tryd.pinned (.plain (OpenSpec.upto tableAllSpec)) tableAllUptoCard

/-- THE SECOND FORM's CARD OF 'turnrowlaw07.TableActs'. -/
def tableActsUptoCard : Claim7 := { stood := { row := tableActsUptoRow, standIns := [], harness := (true, "65cc9441129b44cf5a827639eda6700a07fc9503bba752b6f7dbad2a03e9cec9"), looks := false }, kinds := [], alts := [], laidByText := true, laidKinds := [.data], laidTests := true, laidLooks := .later }
def TableActsUptoCardSaid : Prop := Claim7.holds Tryd.pinned (.plain (OpenSpec.upto tableActsSpec)) tableActsUptoCard

/-- THE SECOND FORM's CARD OF 'turnrowlaw07.TableNews'. -/
def tableNewsUptoCard : Claim7 := { stood := { row := tableNewsUptoRow, standIns := [], harness := (true, "65cc9441129b44cf5a827639eda6700a07fc9503bba752b6f7dbad2a03e9cec9"), looks := false }, kinds := [], alts := [], laidByText := true, laidKinds := [.data], laidTests := true, laidLooks := .later }
def TableNewsUptoCardSaid : Prop := Claim7.holds Tryd.pinned (.plain (OpenSpec.upto tableNewsSpec)) tableNewsUptoCard
end Rows
end Go.Proofs.YtbdpbkblihaeiaaDoor
