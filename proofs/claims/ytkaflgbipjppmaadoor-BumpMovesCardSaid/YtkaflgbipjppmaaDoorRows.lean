/-
  NARROWER THAN 'FOR EVERY INPUT', by the rows' own cells (each row's printed sentence says how): BumpFew: laid · StoreCopies: laid · BumpApart: laid · StoreTakes: laid · StoreRuns: laid · StoreGives: laid · StoreParts: laid · BumpRuns: laid · StoreActs: laid · StoreNews: laid · BumpNews: laid · BumpActs: laid · BumpMoves: laid.
  DERIVED. THE GIVEN ROWS OF THIS SEAT. 13 by the template 'for every input the law returns true; each argument reads behind the call as it read before'; 0 by the template 'total and deterministic' (their statements: YtkaflgbipjppmaaDoorTotals.lean).
  GIVEN WITH THE SEED: the statements are not yours to turn. If you find one false, say at which input.
  Laid BY PROGRAM, IN A SANDBOX (cutbox-rows.mjs): the forced cells as the released guide's own fill.sh prints them over the translation 6ffb093c4f9c2d75… (all of the seat's roots in one cut). By AI agents, Wed Nov 11 2026. No macro, syntax, notation, axiom, sorry.
-/
import Derived.Test.YtkaflgbipjppmaaDoorChecked
import GoSem.Claim
import GoSem.ClaimJoined
import GoSem.ClaimMapViews
import Derived.JoinedTies
import Derived.KernelRfl
namespace Go.Proofs.YtkaflgbipjppmaaDoor
/- THE CELL 'sum', in the pinned program and in every row, IS THE sha256 OF THE DUMP (.gsa) THAT YtkaflgbipjppmaaDoorProg.lean LOADS. Nothing in Lean hashes anything: it is a label: what it is worth is what the hold of that sum in a sandbox is worth. -/
noncomputable def Tryd.pinned : Pinned := { name := "ytkaflgbipjppmaadoor", sum := "6ffb093c4f9c2d75f80d6bab990db095f26cec8f9403715dfa45771f2145dcd6", checked := Tryd.checked }
namespace Rows
def none {H : Type} : Left H := { results := [], args := [] }

/- WHAT THE LISTED PACKAGE-LEVEL VARIABLES READ AS WHEN THE CALL BEGINS. Each datum BY PROGRAM (the guide's laid-datum.mjs) off the statement by which the dump's own 'gosem.cut.vars' lays the variable. In a bare row this is a premise. The card (YtkaflgbipjppmaaDoorCards.lean) ties it to the program's text. -/
def laid_math_bits_deBruijn64tab {H : Type} : DataW H := .agg [.lit (.int .u8 0), .lit (.int .u8 1), .lit (.int .u8 56), .lit (.int .u8 2), .lit (.int .u8 57), .lit (.int .u8 49), .lit (.int .u8 28), .lit (.int .u8 3), .lit (.int .u8 61), .lit (.int .u8 58), .lit (.int .u8 42), .lit (.int .u8 50), .lit (.int .u8 38), .lit (.int .u8 29), .lit (.int .u8 17), .lit (.int .u8 4), .lit (.int .u8 62), .lit (.int .u8 47), .lit (.int .u8 59), .lit (.int .u8 36), .lit (.int .u8 45), .lit (.int .u8 43), .lit (.int .u8 51), .lit (.int .u8 22), .lit (.int .u8 53), .lit (.int .u8 39), .lit (.int .u8 33), .lit (.int .u8 30), .lit (.int .u8 24), .lit (.int .u8 18), .lit (.int .u8 12), .lit (.int .u8 5), .lit (.int .u8 63), .lit (.int .u8 55), .lit (.int .u8 48), .lit (.int .u8 27), .lit (.int .u8 60), .lit (.int .u8 41), .lit (.int .u8 37), .lit (.int .u8 16), .lit (.int .u8 46), .lit (.int .u8 35), .lit (.int .u8 44), .lit (.int .u8 21), .lit (.int .u8 52), .lit (.int .u8 32), .lit (.int .u8 23), .lit (.int .u8 11), .lit (.int .u8 54), .lit (.int .u8 26), .lit (.int .u8 40), .lit (.int .u8 15), .lit (.int .u8 34), .lit (.int .u8 20), .lit (.int .u8 31), .lit (.int .u8 10), .lit (.int .u8 25), .lit (.int .u8 14), .lit (.int .u8 19), .lit (.int .u8 9), .lit (.int .u8 13), .lit (.int .u8 8), .lit (.int .u8 7), .lit (.int .u8 6)]

/-- 'turnrowlaw09.BumpFew': WHATEVER THE INPUT: true; the input reads as it did. -/
def bumpFewSpec : ChangeSpec := { name := "bumpFew", fn := fun _ => fun
  | [d1, d2] => { results := [.lit (.bool true)], args := [d1, d2] }
  | _ => none }
def bumpFewRow : OpenClaim := { program := "ytkaflgbipjppmaadoor", sum := "6ffb093c4f9c2d75f80d6bab990db095f26cec8f9403715dfa45771f2145dcd6", func := "turnrow/turnrowlaw09.BumpFew", spec := "bumpFew", named := ["math/bits.deBruijn64tab"], apart := false, laid := [("math/bits.deBruijn64tab", laid_math_bits_deBruijn64tab)] }
def BumpFewSaid : Prop := bumpFewRow.holds Tryd.pinned (OpenSpec.ofChange bumpFewSpec)

/-- ITS FALSE NEIGHBOUR: 'it returns false'. Refute it at one input. -/
def bumpFewWrong : ChangeSpec := { name := "bumpFew", fn := fun _ => fun
  | [d1, d2] => { results := [.lit (.bool false)], args := [d1, d2] }
  | _ => none }
def BumpFewWrongFalsely : Prop := bumpFewRow.holds Tryd.pinned (OpenSpec.ofChange bumpFewWrong)

/-- 'turnrowlaw03.StoreCopies': WHATEVER THE INPUT: true; the input reads as it did. -/
def storeCopiesSpec : ChangeSpec := { name := "storeCopies", fn := fun _ => fun
  | [d1, d2, d3] => { results := [.lit (.bool true)], args := [d1, d2, d3] }
  | _ => none }
def storeCopiesRow : OpenClaim := { program := "ytkaflgbipjppmaadoor", sum := "6ffb093c4f9c2d75f80d6bab990db095f26cec8f9403715dfa45771f2145dcd6", func := "turnrow/turnrowlaw03.StoreCopies", spec := "storeCopies", named := ["math/bits.deBruijn64tab"], apart := false, laid := [("math/bits.deBruijn64tab", laid_math_bits_deBruijn64tab)] }
def StoreCopiesSaid : Prop := storeCopiesRow.holds Tryd.pinned (OpenSpec.ofChange storeCopiesSpec)

/-- ITS FALSE NEIGHBOUR: 'it returns false'. Refute it at one input. -/
def storeCopiesWrong : ChangeSpec := { name := "storeCopies", fn := fun _ => fun
  | [d1, d2, d3] => { results := [.lit (.bool false)], args := [d1, d2, d3] }
  | _ => none }
def StoreCopiesWrongFalsely : Prop := storeCopiesRow.holds Tryd.pinned (OpenSpec.ofChange storeCopiesWrong)

/-- 'turnrowlaw09.BumpApart': WHATEVER THE INPUT: true; the input reads as it did. -/
def bumpApartSpec : ChangeSpec := { name := "bumpApart", fn := fun _ => fun
  | [d1, d2] => { results := [.lit (.bool true)], args := [d1, d2] }
  | _ => none }
def bumpApartRow : OpenClaim := { program := "ytkaflgbipjppmaadoor", sum := "6ffb093c4f9c2d75f80d6bab990db095f26cec8f9403715dfa45771f2145dcd6", func := "turnrow/turnrowlaw09.BumpApart", spec := "bumpApart", named := ["math/bits.deBruijn64tab"], apart := false, laid := [("math/bits.deBruijn64tab", laid_math_bits_deBruijn64tab)] }
def BumpApartSaid : Prop := bumpApartRow.holds Tryd.pinned (OpenSpec.ofChange bumpApartSpec)

/-- ITS FALSE NEIGHBOUR: 'it returns false'. Refute it at one input. -/
def bumpApartWrong : ChangeSpec := { name := "bumpApart", fn := fun _ => fun
  | [d1, d2] => { results := [.lit (.bool false)], args := [d1, d2] }
  | _ => none }
def BumpApartWrongFalsely : Prop := bumpApartRow.holds Tryd.pinned (OpenSpec.ofChange bumpApartWrong)

/-- 'turnrowlaw03.StoreTakes': WHATEVER THE INPUT: true; the input reads as it did. -/
def storeTakesSpec : ChangeSpec := { name := "storeTakes", fn := fun _ => fun
  | [d1, d2, d3] => { results := [.lit (.bool true)], args := [d1, d2, d3] }
  | _ => none }
def storeTakesRow : OpenClaim := { program := "ytkaflgbipjppmaadoor", sum := "6ffb093c4f9c2d75f80d6bab990db095f26cec8f9403715dfa45771f2145dcd6", func := "turnrow/turnrowlaw03.StoreTakes", spec := "storeTakes", named := ["math/bits.deBruijn64tab"], apart := false, laid := [("math/bits.deBruijn64tab", laid_math_bits_deBruijn64tab)] }
def StoreTakesSaid : Prop := storeTakesRow.holds Tryd.pinned (OpenSpec.ofChange storeTakesSpec)

/-- ITS FALSE NEIGHBOUR: 'it returns false'. Refute it at one input. -/
def storeTakesWrong : ChangeSpec := { name := "storeTakes", fn := fun _ => fun
  | [d1, d2, d3] => { results := [.lit (.bool false)], args := [d1, d2, d3] }
  | _ => none }
def StoreTakesWrongFalsely : Prop := storeTakesRow.holds Tryd.pinned (OpenSpec.ofChange storeTakesWrong)

/-- 'turnrowlaw03.StoreRuns': WHATEVER THE INPUT: true; the input reads as it did. -/
def storeRunsSpec : ChangeSpec := { name := "storeRuns", fn := fun _ => fun
  | [d1, d2, d3] => { results := [.lit (.bool true)], args := [d1, d2, d3] }
  | _ => none }
def storeRunsRow : OpenClaim := { program := "ytkaflgbipjppmaadoor", sum := "6ffb093c4f9c2d75f80d6bab990db095f26cec8f9403715dfa45771f2145dcd6", func := "turnrow/turnrowlaw03.StoreRuns", spec := "storeRuns", named := ["math/bits.deBruijn64tab"], apart := false, laid := [("math/bits.deBruijn64tab", laid_math_bits_deBruijn64tab)] }
def StoreRunsSaid : Prop := storeRunsRow.holds Tryd.pinned (OpenSpec.ofChange storeRunsSpec)

/-- ITS FALSE NEIGHBOUR: 'it returns false'. Refute it at one input. -/
def storeRunsWrong : ChangeSpec := { name := "storeRuns", fn := fun _ => fun
  | [d1, d2, d3] => { results := [.lit (.bool false)], args := [d1, d2, d3] }
  | _ => none }
def StoreRunsWrongFalsely : Prop := storeRunsRow.holds Tryd.pinned (OpenSpec.ofChange storeRunsWrong)

/-- 'turnrowlaw03.StoreGives': WHATEVER THE INPUT: true; the input reads as it did. -/
def storeGivesSpec : ChangeSpec := { name := "storeGives", fn := fun _ => fun
  | [d1, d2, d3] => { results := [.lit (.bool true)], args := [d1, d2, d3] }
  | _ => none }
def storeGivesRow : OpenClaim := { program := "ytkaflgbipjppmaadoor", sum := "6ffb093c4f9c2d75f80d6bab990db095f26cec8f9403715dfa45771f2145dcd6", func := "turnrow/turnrowlaw03.StoreGives", spec := "storeGives", unfollowed := true, recurses := true, named := ["math/bits.deBruijn64tab"], apart := false, laid := [("math/bits.deBruijn64tab", laid_math_bits_deBruijn64tab)] }
def StoreGivesSaid : Prop := storeGivesRow.holds Tryd.pinned (OpenSpec.ofChange storeGivesSpec)

/-- ITS FALSE NEIGHBOUR: 'it returns false'. Refute it at one input. -/
def storeGivesWrong : ChangeSpec := { name := "storeGives", fn := fun _ => fun
  | [d1, d2, d3] => { results := [.lit (.bool false)], args := [d1, d2, d3] }
  | _ => none }
def StoreGivesWrongFalsely : Prop := storeGivesRow.holds Tryd.pinned (OpenSpec.ofChange storeGivesWrong)

/-- 'turnrowlaw03.StoreParts': WHATEVER THE INPUT: true; the input reads as it did. -/
def storePartsSpec : ChangeSpec := { name := "storeParts", fn := fun _ => fun
  | [d1, d2] => { results := [.lit (.bool true)], args := [d1, d2] }
  | _ => none }
def storePartsRow : OpenClaim := { program := "ytkaflgbipjppmaadoor", sum := "6ffb093c4f9c2d75f80d6bab990db095f26cec8f9403715dfa45771f2145dcd6", func := "turnrow/turnrowlaw03.StoreParts", spec := "storeParts", unfollowed := true, recurses := true, named := ["math/bits.deBruijn64tab"], apart := false, laid := [("math/bits.deBruijn64tab", laid_math_bits_deBruijn64tab)] }
def StorePartsSaid : Prop := storePartsRow.holds Tryd.pinned (OpenSpec.ofChange storePartsSpec)

/-- ITS FALSE NEIGHBOUR: 'it returns false'. Refute it at one input. -/
def storePartsWrong : ChangeSpec := { name := "storeParts", fn := fun _ => fun
  | [d1, d2] => { results := [.lit (.bool false)], args := [d1, d2] }
  | _ => none }
def StorePartsWrongFalsely : Prop := storePartsRow.holds Tryd.pinned (OpenSpec.ofChange storePartsWrong)

/-- 'turnrowlaw09.BumpRuns': WHATEVER THE INPUT: true; the input reads as it did. -/
def bumpRunsSpec : ChangeSpec := { name := "bumpRuns", fn := fun _ => fun
  | [d1, d2, d3] => { results := [.lit (.bool true)], args := [d1, d2, d3] }
  | _ => none }
def bumpRunsRow : OpenClaim := { program := "ytkaflgbipjppmaadoor", sum := "6ffb093c4f9c2d75f80d6bab990db095f26cec8f9403715dfa45771f2145dcd6", func := "turnrow/turnrowlaw09.BumpRuns", spec := "bumpRuns", named := ["math/bits.deBruijn64tab"], apart := false, laid := [("math/bits.deBruijn64tab", laid_math_bits_deBruijn64tab)] }
def BumpRunsSaid : Prop := bumpRunsRow.holds Tryd.pinned (OpenSpec.ofChange bumpRunsSpec)

/-- ITS FALSE NEIGHBOUR: 'it returns false'. Refute it at one input. -/
def bumpRunsWrong : ChangeSpec := { name := "bumpRuns", fn := fun _ => fun
  | [d1, d2, d3] => { results := [.lit (.bool false)], args := [d1, d2, d3] }
  | _ => none }
def BumpRunsWrongFalsely : Prop := bumpRunsRow.holds Tryd.pinned (OpenSpec.ofChange bumpRunsWrong)

/-- 'turnrowlaw03.StoreActs': WHATEVER THE INPUT: true; the input reads as it did. -/
def storeActsSpec : ChangeSpec := { name := "storeActs", fn := fun _ => fun
  | [d1, d2] => { results := [.lit (.bool true)], args := [d1, d2] }
  | _ => none }
def storeActsRow : OpenClaim := { program := "ytkaflgbipjppmaadoor", sum := "6ffb093c4f9c2d75f80d6bab990db095f26cec8f9403715dfa45771f2145dcd6", func := "turnrow/turnrowlaw03.StoreActs", spec := "storeActs", unfollowed := true, recurses := true, named := ["math/bits.deBruijn64tab"], apart := false, laid := [("math/bits.deBruijn64tab", laid_math_bits_deBruijn64tab)] }
def StoreActsSaid : Prop := storeActsRow.holds Tryd.pinned (OpenSpec.ofChange storeActsSpec)

/-- ITS FALSE NEIGHBOUR: 'it returns false'. Refute it at one input. -/
def storeActsWrong : ChangeSpec := { name := "storeActs", fn := fun _ => fun
  | [d1, d2] => { results := [.lit (.bool false)], args := [d1, d2] }
  | _ => none }
def StoreActsWrongFalsely : Prop := storeActsRow.holds Tryd.pinned (OpenSpec.ofChange storeActsWrong)

/-- 'turnrowlaw03.StoreNews': WHATEVER THE INPUT: true; the input reads as it did. -/
def storeNewsSpec : ChangeSpec := { name := "storeNews", fn := fun _ => fun
  | [d] => { results := [.lit (.bool true)], args := [d] }
  | _ => none }
def storeNewsRow : OpenClaim := { program := "ytkaflgbipjppmaadoor", sum := "6ffb093c4f9c2d75f80d6bab990db095f26cec8f9403715dfa45771f2145dcd6", func := "turnrow/turnrowlaw03.StoreNews", spec := "storeNews", unfollowed := true, recurses := true, named := ["math/bits.deBruijn64tab"], apart := false, laid := [("math/bits.deBruijn64tab", laid_math_bits_deBruijn64tab)] }
def StoreNewsSaid : Prop := storeNewsRow.holds Tryd.pinned (OpenSpec.ofChange storeNewsSpec)

/-- ITS FALSE NEIGHBOUR: 'it returns false'. Refute it at one input. -/
def storeNewsWrong : ChangeSpec := { name := "storeNews", fn := fun _ => fun
  | [d] => { results := [.lit (.bool false)], args := [d] }
  | _ => none }
def StoreNewsWrongFalsely : Prop := storeNewsRow.holds Tryd.pinned (OpenSpec.ofChange storeNewsWrong)

/-- 'turnrowlaw09.BumpNews': WHATEVER THE INPUT: true; the input reads as it did. -/
def bumpNewsSpec : ChangeSpec := { name := "bumpNews", fn := fun _ => fun
  | [d] => { results := [.lit (.bool true)], args := [d] }
  | _ => none }
def bumpNewsRow : OpenClaim := { program := "ytkaflgbipjppmaadoor", sum := "6ffb093c4f9c2d75f80d6bab990db095f26cec8f9403715dfa45771f2145dcd6", func := "turnrow/turnrowlaw09.BumpNews", spec := "bumpNews", named := ["math/bits.deBruijn64tab"], apart := false, laid := [("math/bits.deBruijn64tab", laid_math_bits_deBruijn64tab)] }
def BumpNewsSaid : Prop := bumpNewsRow.holds Tryd.pinned (OpenSpec.ofChange bumpNewsSpec)

/-- ITS FALSE NEIGHBOUR: 'it returns false'. Refute it at one input. -/
def bumpNewsWrong : ChangeSpec := { name := "bumpNews", fn := fun _ => fun
  | [d] => { results := [.lit (.bool false)], args := [d] }
  | _ => none }
def BumpNewsWrongFalsely : Prop := bumpNewsRow.holds Tryd.pinned (OpenSpec.ofChange bumpNewsWrong)

/-- 'turnrowlaw09.BumpActs': WHATEVER THE INPUT: true; the input reads as it did. -/
def bumpActsSpec : ChangeSpec := { name := "bumpActs", fn := fun _ => fun
  | [d1, d2] => { results := [.lit (.bool true)], args := [d1, d2] }
  | _ => none }
def bumpActsRow : OpenClaim := { program := "ytkaflgbipjppmaadoor", sum := "6ffb093c4f9c2d75f80d6bab990db095f26cec8f9403715dfa45771f2145dcd6", func := "turnrow/turnrowlaw09.BumpActs", spec := "bumpActs", named := ["math/bits.deBruijn64tab"], apart := false, laid := [("math/bits.deBruijn64tab", laid_math_bits_deBruijn64tab)] }
def BumpActsSaid : Prop := bumpActsRow.holds Tryd.pinned (OpenSpec.ofChange bumpActsSpec)

/-- ITS FALSE NEIGHBOUR: 'it returns false'. Refute it at one input. -/
def bumpActsWrong : ChangeSpec := { name := "bumpActs", fn := fun _ => fun
  | [d1, d2] => { results := [.lit (.bool false)], args := [d1, d2] }
  | _ => none }
def BumpActsWrongFalsely : Prop := bumpActsRow.holds Tryd.pinned (OpenSpec.ofChange bumpActsWrong)

/-- 'turnrowlaw09.BumpMoves': WHATEVER THE INPUT: true; the input reads as it did. -/
def bumpMovesSpec : ChangeSpec := { name := "bumpMoves", fn := fun _ => fun
  | [d1, d2] => { results := [.lit (.bool true)], args := [d1, d2] }
  | _ => none }
def bumpMovesRow : OpenClaim := { program := "ytkaflgbipjppmaadoor", sum := "6ffb093c4f9c2d75f80d6bab990db095f26cec8f9403715dfa45771f2145dcd6", func := "turnrow/turnrowlaw09.BumpMoves", spec := "bumpMoves", named := ["math/bits.deBruijn64tab"], apart := false, laid := [("math/bits.deBruijn64tab", laid_math_bits_deBruijn64tab)] }
def BumpMovesSaid : Prop := bumpMovesRow.holds Tryd.pinned (OpenSpec.ofChange bumpMovesSpec)

/-- ITS FALSE NEIGHBOUR: 'it returns false'. Refute it at one input. -/
def bumpMovesWrong : ChangeSpec := { name := "bumpMoves", fn := fun _ => fun
  | [d1, d2] => { results := [.lit (.bool false)], args := [d1, d2] }
  | _ => none }
def BumpMovesWrongFalsely : Prop := bumpMovesRow.holds Tryd.pinned (OpenSpec.ofChange bumpMovesWrong)

/- THE SECOND FORM. 'bulk': how many values and letters a reading holds, each counted each time it is reached (what is shared counts as often as it is met; a slice's spare places count too). A statement '..UptoSaid' is the law's where the arguments, and the package variables that the reading takes, are together of bulk at most 1048576: NARROWER than '..Said'. Prove '..Said' where nothing that the law and all that it calls make is longer than what came in: it says more and counts as full. Else prove '..UptoSaid'. A law counts once. -/
mutual
def uptoBulk {H : Type} : DataW H → Nat
  | .lit (.string bytes) => bytes.length + 1
  | .lit _ => 1
  | .nil => 1
  | .ptr d => uptoBulk d + 1
  | .slice elems spare => uptoBulkAll elems + uptoBulkAll spare + 1
  | .agg parts => uptoBulkAll parts + 1
  | .iface _ d => uptoBulk d + 1
  | .map entries => uptoBulkEntries entries + 1
  | .held _ => 1
def uptoBulkAll {H : Type} : List (DataW H) → Nat
  | [] => 0
  | d :: r => uptoBulk d + uptoBulkAll r
def uptoBulkEntries {H : Type} : List (Lit × DataW H) → Nat
  | [] => 0
  | x :: r => uptoBulkEntry x + uptoBulkEntries r
def uptoBulkEntry {H : Type} : Lit × DataW H → Nat
  | (.string bytes, d) => bytes.length + uptoBulk d + 1
  | (_, d) => uptoBulk d + 1
 end
def uptoSmall : (H : Type) → List (DataW H) → Bool := fun _ ds => decide (uptoBulkAll ds ≤ 1048576)
def OpenSpec.upto (s : _root_.Go.ChangeSpec) : _root_.Go.OpenSpec := { _root_.Go.OpenSpec.ofChange s with cond := some uptoSmall }

/-- 'turnrowlaw09.BumpFew', WHERE WHAT IT READS IS OF BULK AT MOST 1048576: true; the input reads as it did. -/
def bumpFewUptoRow : OpenClaim := { program := "ytkaflgbipjppmaadoor", sum := "6ffb093c4f9c2d75f80d6bab990db095f26cec8f9403715dfa45771f2145dcd6", func := "turnrow/turnrowlaw09.BumpFew", spec := "bumpFew", named := ["math/bits.deBruijn64tab"], apart := false, laid := [("math/bits.deBruijn64tab", laid_math_bits_deBruijn64tab)], narrowed := true }
def BumpFewUptoSaid : Prop := bumpFewUptoRow.holds Tryd.pinned (OpenSpec.upto bumpFewSpec)

/-- 'turnrowlaw03.StoreCopies', WHERE WHAT IT READS IS OF BULK AT MOST 1048576: true; the input reads as it did. -/
def storeCopiesUptoRow : OpenClaim := { program := "ytkaflgbipjppmaadoor", sum := "6ffb093c4f9c2d75f80d6bab990db095f26cec8f9403715dfa45771f2145dcd6", func := "turnrow/turnrowlaw03.StoreCopies", spec := "storeCopies", named := ["math/bits.deBruijn64tab"], apart := false, laid := [("math/bits.deBruijn64tab", laid_math_bits_deBruijn64tab)], narrowed := true }
def StoreCopiesUptoSaid : Prop := storeCopiesUptoRow.holds Tryd.pinned (OpenSpec.upto storeCopiesSpec)

/-- 'turnrowlaw09.BumpApart', WHERE WHAT IT READS IS OF BULK AT MOST 1048576: true; the input reads as it did. -/
def bumpApartUptoRow : OpenClaim := { program := "ytkaflgbipjppmaadoor", sum := "6ffb093c4f9c2d75f80d6bab990db095f26cec8f9403715dfa45771f2145dcd6", func := "turnrow/turnrowlaw09.BumpApart", spec := "bumpApart", named := ["math/bits.deBruijn64tab"], apart := false, laid := [("math/bits.deBruijn64tab", laid_math_bits_deBruijn64tab)], narrowed := true }
def BumpApartUptoSaid : Prop := bumpApartUptoRow.holds Tryd.pinned (OpenSpec.upto bumpApartSpec)

/-- 'turnrowlaw03.StoreTakes', WHERE WHAT IT READS IS OF BULK AT MOST 1048576: true; the input reads as it did. -/
def storeTakesUptoRow : OpenClaim := { program := "ytkaflgbipjppmaadoor", sum := "6ffb093c4f9c2d75f80d6bab990db095f26cec8f9403715dfa45771f2145dcd6", func := "turnrow/turnrowlaw03.StoreTakes", spec := "storeTakes", named := ["math/bits.deBruijn64tab"], apart := false, laid := [("math/bits.deBruijn64tab", laid_math_bits_deBruijn64tab)], narrowed := true }
def StoreTakesUptoSaid : Prop := storeTakesUptoRow.holds Tryd.pinned (OpenSpec.upto storeTakesSpec)

/-- 'turnrowlaw03.StoreRuns', WHERE WHAT IT READS IS OF BULK AT MOST 1048576: true; the input reads as it did. -/
def storeRunsUptoRow : OpenClaim := { program := "ytkaflgbipjppmaadoor", sum := "6ffb093c4f9c2d75f80d6bab990db095f26cec8f9403715dfa45771f2145dcd6", func := "turnrow/turnrowlaw03.StoreRuns", spec := "storeRuns", named := ["math/bits.deBruijn64tab"], apart := false, laid := [("math/bits.deBruijn64tab", laid_math_bits_deBruijn64tab)], narrowed := true }
def StoreRunsUptoSaid : Prop := storeRunsUptoRow.holds Tryd.pinned (OpenSpec.upto storeRunsSpec)

/-- 'turnrowlaw03.StoreGives', WHERE WHAT IT READS IS OF BULK AT MOST 1048576: true; the input reads as it did. -/
def storeGivesUptoRow : OpenClaim := { program := "ytkaflgbipjppmaadoor", sum := "6ffb093c4f9c2d75f80d6bab990db095f26cec8f9403715dfa45771f2145dcd6", func := "turnrow/turnrowlaw03.StoreGives", spec := "storeGives", unfollowed := true, recurses := true, named := ["math/bits.deBruijn64tab"], apart := false, laid := [("math/bits.deBruijn64tab", laid_math_bits_deBruijn64tab)], narrowed := true }
def StoreGivesUptoSaid : Prop := storeGivesUptoRow.holds Tryd.pinned (OpenSpec.upto storeGivesSpec)

/-- 'turnrowlaw03.StoreParts', WHERE WHAT IT READS IS OF BULK AT MOST 1048576: true; the input reads as it did. -/
def storePartsUptoRow : OpenClaim := { program := "ytkaflgbipjppmaadoor", sum := "6ffb093c4f9c2d75f80d6bab990db095f26cec8f9403715dfa45771f2145dcd6", func := "turnrow/turnrowlaw03.StoreParts", spec := "storeParts", unfollowed := true, recurses := true, named := ["math/bits.deBruijn64tab"], apart := false, laid := [("math/bits.deBruijn64tab", laid_math_bits_deBruijn64tab)], narrowed := true }
def StorePartsUptoSaid : Prop := storePartsUptoRow.holds Tryd.pinned (OpenSpec.upto storePartsSpec)

/-- 'turnrowlaw09.BumpRuns', WHERE WHAT IT READS IS OF BULK AT MOST 1048576: true; the input reads as it did. -/
def bumpRunsUptoRow : OpenClaim := { program := "ytkaflgbipjppmaadoor", sum := "6ffb093c4f9c2d75f80d6bab990db095f26cec8f9403715dfa45771f2145dcd6", func := "turnrow/turnrowlaw09.BumpRuns", spec := "bumpRuns", named := ["math/bits.deBruijn64tab"], apart := false, laid := [("math/bits.deBruijn64tab", laid_math_bits_deBruijn64tab)], narrowed := true }
def BumpRunsUptoSaid : Prop := bumpRunsUptoRow.holds Tryd.pinned (OpenSpec.upto bumpRunsSpec)

/-- 'turnrowlaw03.StoreActs', WHERE WHAT IT READS IS OF BULK AT MOST 1048576: true; the input reads as it did. -/
def storeActsUptoRow : OpenClaim := { program := "ytkaflgbipjppmaadoor", sum := "6ffb093c4f9c2d75f80d6bab990db095f26cec8f9403715dfa45771f2145dcd6", func := "turnrow/turnrowlaw03.StoreActs", spec := "storeActs", unfollowed := true, recurses := true, named := ["math/bits.deBruijn64tab"], apart := false, laid := [("math/bits.deBruijn64tab", laid_math_bits_deBruijn64tab)], narrowed := true }
def StoreActsUptoSaid : Prop := storeActsUptoRow.holds Tryd.pinned (OpenSpec.upto storeActsSpec)

/-- 'turnrowlaw03.StoreNews', WHERE WHAT IT READS IS OF BULK AT MOST 1048576: true; the input reads as it did. -/
def storeNewsUptoRow : OpenClaim := { program := "ytkaflgbipjppmaadoor", sum := "6ffb093c4f9c2d75f80d6bab990db095f26cec8f9403715dfa45771f2145dcd6", func := "turnrow/turnrowlaw03.StoreNews", spec := "storeNews", unfollowed := true, recurses := true, named := ["math/bits.deBruijn64tab"], apart := false, laid := [("math/bits.deBruijn64tab", laid_math_bits_deBruijn64tab)], narrowed := true }
def StoreNewsUptoSaid : Prop := storeNewsUptoRow.holds Tryd.pinned (OpenSpec.upto storeNewsSpec)

/-- 'turnrowlaw09.BumpNews', WHERE WHAT IT READS IS OF BULK AT MOST 1048576: true; the input reads as it did. -/
def bumpNewsUptoRow : OpenClaim := { program := "ytkaflgbipjppmaadoor", sum := "6ffb093c4f9c2d75f80d6bab990db095f26cec8f9403715dfa45771f2145dcd6", func := "turnrow/turnrowlaw09.BumpNews", spec := "bumpNews", named := ["math/bits.deBruijn64tab"], apart := false, laid := [("math/bits.deBruijn64tab", laid_math_bits_deBruijn64tab)], narrowed := true }
def BumpNewsUptoSaid : Prop := bumpNewsUptoRow.holds Tryd.pinned (OpenSpec.upto bumpNewsSpec)

/-- 'turnrowlaw09.BumpActs', WHERE WHAT IT READS IS OF BULK AT MOST 1048576: true; the input reads as it did. -/
def bumpActsUptoRow : OpenClaim := { program := "ytkaflgbipjppmaadoor", sum := "6ffb093c4f9c2d75f80d6bab990db095f26cec8f9403715dfa45771f2145dcd6", func := "turnrow/turnrowlaw09.BumpActs", spec := "bumpActs", named := ["math/bits.deBruijn64tab"], apart := false, laid := [("math/bits.deBruijn64tab", laid_math_bits_deBruijn64tab)], narrowed := true }
def BumpActsUptoSaid : Prop := bumpActsUptoRow.holds Tryd.pinned (OpenSpec.upto bumpActsSpec)

/-- 'turnrowlaw09.BumpMoves', WHERE WHAT IT READS IS OF BULK AT MOST 1048576: true; the input reads as it did. -/
def bumpMovesUptoRow : OpenClaim := { program := "ytkaflgbipjppmaadoor", sum := "6ffb093c4f9c2d75f80d6bab990db095f26cec8f9403715dfa45771f2145dcd6", func := "turnrow/turnrowlaw09.BumpMoves", spec := "bumpMoves", named := ["math/bits.deBruijn64tab"], apart := false, laid := [("math/bits.deBruijn64tab", laid_math_bits_deBruijn64tab)], narrowed := true }
def BumpMovesUptoSaid : Prop := bumpMovesUptoRow.holds Tryd.pinned (OpenSpec.upto bumpMovesSpec)

end Rows
end Go.Proofs.YtkaflgbipjppmaaDoor
