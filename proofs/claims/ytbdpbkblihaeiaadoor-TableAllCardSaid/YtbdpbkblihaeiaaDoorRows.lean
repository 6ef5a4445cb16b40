/-
  NARROWER THAN 'FOR EVERY INPUT', by the rows' own cells (each row's printed sentence says how): BitmapNews: laid · BitmapActs: laid · BitmapRuns: laid · BitmapTurns: laid · BitmapFirst: laid · BitmapAll: laid · TableSets: laid · TableRetires: laid · TableOnce: laid · TableAll: laid · TableActs: laid · TableNews: laid.
  DERIVED. THE GIVEN ROWS OF THIS SEAT. 12 by the template 'for every input the law returns true; each argument reads behind the call as it read before'; 0 by the template 'total and deterministic' (their statements: YtbdpbkblihaeiaaDoorTotals.lean).
  GIVEN WITH THE SEED: the statements are not yours to turn. If you find one false, say at which input.
  Laid BY PROGRAM, IN A SANDBOX (cutbox-rows.mjs): the forced cells as the released guide's own fill.sh prints them over the translation 78fa257e8de655b5… (all of the seat's roots in one cut). By AI agents, Wed Nov 11 2026. No macro, syntax, notation, axiom, sorry.
-/
import Derived.Test.YtbdpbkblihaeiaaDoorChecked
import GoSem.Claim
import GoSem.ClaimJoined
import GoSem.ClaimMapViews
import Derived.JoinedTies
import Derived.KernelRfl
namespace Go.Proofs.YtbdpbkblihaeiaaDoor
/- THE CELL 'sum', in the pinned program and in every row, IS THE sha256 OF THE DUMP (.gsa) THAT YtbdpbkblihaeiaaDoorProg.lean LOADS. Nothing in Lean hashes anything: it is a label: what it is worth is what the hold of that sum in a sandbox is worth. -/
noncomputable def Tryd.pinned : Pinned := { name := "ytbdpbkblihaeiaadoor", sum := "78fa257e8de655b5f1752a5c3f800f0ce1a2e61f70b7287dbaca02dc09cbfb64", checked := Tryd.checked }
namespace Rows
def none {H : Type} : Left H := { results := [], args := [] }

/- WHAT THE LISTED PACKAGE-LEVEL VARIABLES READ AS WHEN THE CALL BEGINS. Each datum BY PROGRAM (the guide's laid-datum.mjs) off the statement by which the dump's own 'gosem.cut.vars' lays the variable. In a bare row this is a premise. The card (YtbdpbkblihaeiaaDoorCards.lean) ties it to the program's text. -/
def laid_math_bits_deBruijn64tab {H : Type} : DataW H := .agg [.lit (.int .u8 0), .lit (.int .u8 1), .lit (.int .u8 56), .lit (.int .u8 2), .lit (.int .u8 57), .lit (.int .u8 49), .lit (.int .u8 28), .lit (.int .u8 3), .lit (.int .u8 61), .lit (.int .u8 58), .lit (.int .u8 42), .lit (.int .u8 50), .lit (.int .u8 38), .lit (.int .u8 29), .lit (.int .u8 17), .lit (.int .u8 4), .lit (.int .u8 62), .lit (.int .u8 47), .lit (.int .u8 59), .lit (.int .u8 36), .lit (.int .u8 45), .lit (.int .u8 43), .lit (.int .u8 51), .lit (.int .u8 22), .lit (.int .u8 53), .lit (.int .u8 39), .lit (.int .u8 33), .lit (.int .u8 30), .lit (.int .u8 24), .lit (.int .u8 18), .lit (.int .u8 12), .lit (.int .u8 5), .lit (.int .u8 63), .lit (.int .u8 55), .lit (.int .u8 48), .lit (.int .u8 27), .lit (.int .u8 60), .lit (.int .u8 41), .lit (.int .u8 37), .lit (.int .u8 16), .lit (.int .u8 46), .lit (.int .u8 35), .lit (.int .u8 44), .lit (.int .u8 21), .lit (.int .u8 52), .lit (.int .u8 32), .lit (.int .u8 23), .lit (.int .u8 11), .lit (.int .u8 54), .lit (.int .u8 26), .lit (.int .u8 40), .lit (.int .u8 15), .lit (.int .u8 34), .lit (.int .u8 20), .lit (.int .u8 31), .lit (.int .u8 10), .lit (.int .u8 25), .lit (.int .u8 14), .lit (.int .u8 19), .lit (.int .u8 9), .lit (.int .u8 13), .lit (.int .u8 8), .lit (.int .u8 7), .lit (.int .u8 6)]

/-- 'turnrowlaw02.BitmapNews': WHATEVER THE INPUT: true; the input reads as it did. -/
def bitmapNewsSpec : ChangeSpec := { name := "bitmapNews", fn := fun _ => fun
  | [d] => { results := [.lit (.bool true)], args := [d] }
  | _ => none }
def bitmapNewsRow : OpenClaim := { program := "ytbdpbkblihaeiaadoor", sum := "78fa257e8de655b5f1752a5c3f800f0ce1a2e61f70b7287dbaca02dc09cbfb64", func := "turnrow/turnrowlaw02.BitmapNews", spec := "bitmapNews", unfollowed := true, recurses := true, named := ["math/bits.deBruijn64tab"], plainKeys := false, apart := false, laid := [("math/bits.deBruijn64tab", laid_math_bits_deBruijn64tab)] }
def BitmapNewsSaid : Prop := bitmapNewsRow.holds Tryd.pinned (OpenSpec.ofChange bitmapNewsSpec)

/-- ITS FALSE NEIGHBOUR: 'it returns false'. Refute it at one input. -/
def bitmapNewsWrong : ChangeSpec := { name := "bitmapNews", fn := fun _ => fun
  | [d] => { results := [.lit (.bool false)], args := [d] }
  | _ => none }
def BitmapNewsWrongFalsely : Prop := bitmapNewsRow.holds Tryd.pinned (OpenSpec.ofChange bitmapNewsWrong)

/-- 'turnrowlaw02.BitmapActs': WHATEVER THE INPUT: true; the input reads as it did. -/
def bitmapActsSpec : ChangeSpec := { name := "bitmapActs", fn := fun _ => fun
  | [d1, d2, d3] => { results := [.lit (.bool true)], args := [d1, d2, d3] }
  | _ => none }
def bitmapActsRow : OpenClaim := { program := "ytbdpbkblihaeiaadoor", sum := "78fa257e8de655b5f1752a5c3f800f0ce1a2e61f70b7287dbaca02dc09cbfb64", func := "turnrow/turnrowlaw02.BitmapActs", spec := "bitmapActs", unfollowed := true, recurses := true, named := ["math/bits.deBruijn64tab"], plainKeys := false, apart := false, laid := [("math/bits.deBruijn64tab", laid_math_bits_deBruijn64tab)] }
def BitmapActsSaid : Prop := bitmapActsRow.holds Tryd.pinned (OpenSpec.ofChange bitmapActsSpec)

/-- ITS FALSE NEIGHBOUR: 'it returns false'. Refute it at one input. -/
def bitmapActsWrong : ChangeSpec := { name := "bitmapActs", fn := fun _ => fun
  | [d1, d2, d3] => { results := [.lit (.bool false)], args := [d1, d2, d3] }
  | _ => none }
def BitmapActsWrongFalsely : Prop := bitmapActsRow.holds Tryd.pinned (OpenSpec.ofChange bitmapActsWrong)

/-- 'turnrowlaw02.BitmapRuns': WHATEVER THE INPUT: true; the input reads as it did. -/
def bitmapRunsSpec : ChangeSpec := { name := "bitmapRuns", fn := fun _ => fun
  | [d1, d2, d3] => { results := [.lit (.bool true)], args := [d1, d2, d3] }
  | _ => none }
def bitmapRunsRow : OpenClaim := { program := "ytbdpbkblihaeiaadoor", sum := "78fa257e8de655b5f1752a5c3f800f0ce1a2e61f70b7287dbaca02dc09cbfb64", func := "turnrow/turnrowlaw02.BitmapRuns", spec := "bitmapRuns", unfollowed := true, recurses := true, named := ["math/bits.deBruijn64tab"], plainKeys := false, apart := false, laid := [("math/bits.deBruijn64tab", laid_math_bits_deBruijn64tab)] }
def BitmapRunsSaid : Prop := bitmapRunsRow.holds Tryd.pinned (OpenSpec.ofChange bitmapRunsSpec)

/-- ITS FALSE NEIGHBOUR: 'it returns false'. Refute it at one input. -/
def bitmapRunsWrong : ChangeSpec := { name := "bitmapRuns", fn := fun _ => fun
  | [d1, d2, d3] => { results := [.lit (.bool false)], args := [d1, d2, d3] }
  | _ => none }
def BitmapRunsWrongFalsely : Prop := bitmapRunsRow.holds Tryd.pinned (OpenSpec.ofChange bitmapRunsWrong)

/-- 'turnrowlaw02.BitmapTurns': WHATEVER THE INPUT: true; the input reads as it did. -/
def bitmapTurnsSpec : ChangeSpec := { name := "bitmapTurns", fn := fun _ => fun
  | [d1, d2, d3] => { results := [.lit (.bool true)], args := [d1, d2, d3] }
  | _ => none }
def bitmapTurnsRow : OpenClaim := { program := "ytbdpbkblihaeiaadoor", sum := "78fa257e8de655b5f1752a5c3f800f0ce1a2e61f70b7287dbaca02dc09cbfb64", func := "turnrow/turnrowlaw02.BitmapTurns", spec := "bitmapTurns", unfollowed := true, recurses := true, named := ["math/bits.deBruijn64tab"], plainKeys := false, apart := false, laid := [("math/bits.deBruijn64tab", laid_math_bits_deBruijn64tab)] }
def BitmapTurnsSaid : Prop := bitmapTurnsRow.holds Tryd.pinned (OpenSpec.ofChange bitmapTurnsSpec)

/-- ITS FALSE NEIGHBOUR: 'it returns false'. Refute it at one input. -/
def bitmapTurnsWrong : ChangeSpec := { name := "bitmapTurns", fn := fun _ => fun
  | [d1, d2, d3] => { results := [.lit (.bool false)], args := [d1, d2, d3] }
  | _ => none }
def BitmapTurnsWrongFalsely : Prop := bitmapTurnsRow.holds Tryd.pinned (OpenSpec.ofChange bitmapTurnsWrong)

/-- 'turnrowlaw02.BitmapFirst': WHATEVER THE INPUT: true; the input reads as it did. -/
def bitmapFirstSpec : ChangeSpec := { name := "bitmapFirst", fn := fun _ => fun
  | [d1, d2, d3] => { results := [.lit (.bool true)], args := [d1, d2, d3] }
  | _ => none }
def bitmapFirstRow : OpenClaim := { program := "ytbdpbkblihaeiaadoor", sum := "78fa257e8de655b5f1752a5c3f800f0ce1a2e61f70b7287dbaca02dc09cbfb64", func := "turnrow/turnrowlaw02.BitmapFirst", spec := "bitmapFirst", unfollowed := true, recurses := true, named := ["math/bits.deBruijn64tab"], plainKeys := false, apart := false, laid := [("math/bits.deBruijn64tab", laid_math_bits_deBruijn64tab)] }
def BitmapFirstSaid : Prop := bitmapFirstRow.holds Tryd.pinned (OpenSpec.ofChange bitmapFirstSpec)

/-- ITS FALSE NEIGHBOUR: 'it returns false'. Refute it at one input. -/
def bitmapFirstWrong : ChangeSpec := { name := "bitmapFirst", fn := fun _ => fun
  | [d1, d2, d3] => { results := [.lit (.bool false)], args := [d1, d2, d3] }
  | _ => none }
def BitmapFirstWrongFalsely : Prop := bitmapFirstRow.holds Tryd.pinned (OpenSpec.ofChange bitmapFirstWrong)

/-- 'turnrowlaw02.BitmapAll': WHATEVER THE INPUT: true; the input reads as it did. -/
def bitmapAllSpec : ChangeSpec := { name := "bitmapAll", fn := fun _ => fun
  | [d1, d2] => { results := [.lit (.bool true)], args := [d1, d2] }
  | _ => none }
def bitmapAllRow : OpenClaim := { program := "ytbdpbkblihaeiaadoor", sum := "78fa257e8de655b5f1752a5c3f800f0ce1a2e61f70b7287dbaca02dc09cbfb64", func := "turnrow/turnrowlaw02.BitmapAll", spec := "bitmapAll", unfollowed := true, recurses := true, named := ["math/bits.deBruijn64tab"], plainKeys := false, apart := false, laid := [("math/bits.deBruijn64tab", laid_math_bits_deBruijn64tab)] }
def BitmapAllSaid : Prop := bitmapAllRow.holds Tryd.pinned (OpenSpec.ofChange bitmapAllSpec)

/-- ITS FALSE NEIGHBOUR: 'it returns false'. Refute it at one input. -/
def bitmapAllWrong : ChangeSpec := { name := "bitmapAll", fn := fun _ => fun
  | [d1, d2] => { results := [.lit (.bool false)], args := [d1, d2] }
  | _ => none }
def BitmapAllWrongFalsely : Prop := bitmapAllRow.holds Tryd.pinned (OpenSpec.ofChange bitmapAllWrong)

/-- 'turnrowlaw07.TableSets': WHATEVER THE INPUT: true; the input reads as it did. -/
def tableSetsSpec : ChangeSpec := { name := "tableSets", fn := fun _ => fun
  | [d1, d2, d3] => { results := [.lit (.bool true)], args := [d1, d2, d3] }
  | _ => none }
def tableSetsRow : OpenClaim := { program := "ytbdpbkblihaeiaadoor", sum := "78fa257e8de655b5f1752a5c3f800f0ce1a2e61f70b7287dbaca02dc09cbfb64", func := "turnrow/turnrowlaw07.TableSets", spec := "tableSets", named := ["math/bits.deBruijn64tab"], plainKeys := false, apart := false, laid := [("math/bits.deBruijn64tab", laid_math_bits_deBruijn64tab)] }
def TableSetsSaid : Prop := tableSetsRow.holds Tryd.pinned (OpenSpec.ofChange tableSetsSpec)

/-- ITS FALSE NEIGHBOUR: 'it returns false'. Refute it at one input. -/
def tableSetsWrong : ChangeSpec := { name := "tableSets", fn := fun _ => fun
  | [d1, d2, d3] => { results := [.lit (.bool false)], args := [d1, d2, d3] }
  | _ => none }
def TableSetsWrongFalsely : Prop := tableSetsRow.holds Tryd.pinned (OpenSpec.ofChange tableSetsWrong)

/-- 'turnrowlaw07.TableRetires': WHATEVER THE INPUT: true; the input reads as it did. -/
def tableRetiresSpec : ChangeSpec := { name := "tableRetires", fn := fun _ => fun
  | [d1, d2, d3] => { results := [.lit (.bool true)], args := [d1, d2, d3] }
  | _ => none }
def tableRetiresRow : OpenClaim := { program := "ytbdpbkblihaeiaadoor", sum := "78fa257e8de655b5f1752a5c3f800f0ce1a2e61f70b7287dbaca02dc09cbfb64", func := "turnrow/turnrowlaw07.TableRetires", spec := "tableRetires", named := ["math/bits.deBruijn64tab"], plainKeys := false, apart := false, laid := [("math/bits.deBruijn64tab", laid_math_bits_deBruijn64tab)] }
def TableRetiresSaid : Prop := tableRetiresRow.holds Tryd.pinned (OpenSpec.ofChange tableRetiresSpec)

/-- ITS FALSE NEIGHBOUR: 'it returns false'. Refute it at one input. -/
def tableRetiresWrong : ChangeSpec := { name := "tableRetires", fn := fun _ => fun
  | [d1, d2, d3] => { results := [.lit (.bool false)], args := [d1, d2, d3] }
  | _ => none }
def TableRetiresWrongFalsely : Prop := tableRetiresRow.holds Tryd.pinned (OpenSpec.ofChange tableRetiresWrong)

/-- 'turnrowlaw07.TableOnce': WHATEVER THE INPUT: true; the input reads as it did. -/
def tableOnceSpec : ChangeSpec := { name := "tableOnce", fn := fun _ => fun
  | [d1, d2] => { results := [.lit (.bool true)], args := [d1, d2] }
  | _ => none }
def tableOnceRow : OpenClaim := { program := "ytbdpbkblihaeiaadoor", sum := "78fa257e8de655b5f1752a5c3f800f0ce1a2e61f70b7287dbaca02dc09cbfb64", func := "turnrow/turnrowlaw07.TableOnce", spec := "tableOnce", named := ["math/bits.deBruijn64tab"], plainKeys := false, apart := false, laid := [("math/bits.deBruijn64tab", laid_math_bits_deBruijn64tab)] }
def TableOnceSaid : Prop := tableOnceRow.holds Tryd.pinned (OpenSpec.ofChange tableOnceSpec)

/-- ITS FALSE NEIGHBOUR: 'it returns false'. Refute it at one input. -/
def tableOnceWrong : ChangeSpec := { name := "tableOnce", fn := fun _ => fun
  | [d1, d2] => { results := [.lit (.bool false)], args := [d1, d2] }
  | _ => none }
def TableOnceWrongFalsely : Prop := tableOnceRow.holds Tryd.pinned (OpenSpec.ofChange tableOnceWrong)

/-- 'turnrowlaw07.TableAll': WHATEVER THE INPUT: true; the input reads as it did. -/
def tableAllSpec : ChangeSpec := { name := "tableAll", fn := fun _ => fun
  | [d1, d2] => { results := [.lit (.bool true)], args := [d1, d2] }
  | _ => none }
def tableAllRow : OpenClaim := { program := "ytbdpbkblihaeiaadoor", sum := "78fa257e8de655b5f1752a5c3f800f0ce1a2e61f70b7287dbaca02dc09cbfb64", func := "turnrow/turnrowlaw07.TableAll", spec := "tableAll", unfollowed := true, recurses := true, named := ["math/bits.deBruijn64tab"], plainKeys := false, apart := false, laid := [("math/bits.deBruijn64tab", laid_math_bits_deBruijn64tab)] }
def TableAllSaid : Prop := tableAllRow.holds Tryd.pinned (OpenSpec.ofChange tableAllSpec)

/-- ITS FALSE NEIGHBOUR: 'it returns false'. Refute it at one input. -/
def tableAllWrong : ChangeSpec := { name := "tableAll", fn := fun _ => fun
  | [d1, d2] => { results := [.lit (.bool false)], args := [d1, d2] }
  | _ => none }
def TableAllWrongFalsely : Prop := tableAllRow.holds Tryd.pinned (OpenSpec.ofChange tableAllWrong)

/-- 'turnrowlaw07.TableActs': WHATEVER THE INPUT: true; the input reads as it did. -/
def tableActsSpec : ChangeSpec := { name := "tableActs", fn := fun _ => fun
  | [d1, d2] => { results := [.lit (.bool true)], args := [d1, d2] }
  | _ => none }
def tableActsRow : OpenClaim := { program := "ytbdpbkblihaeiaadoor", sum := "78fa257e8de655b5f1752a5c3f800f0ce1a2e61f70b7287dbaca02dc09cbfb64", func := "turnrow/turnrowlaw07.TableActs", spec := "tableActs", unfollowed := true, recurses := true, named := ["math/bits.deBruijn64tab"], plainKeys := false, apart := false, laid := [("math/bits.deBruijn64tab", laid_math_bits_deBruijn64tab)] }
def TableActsSaid : Prop := tableActsRow.holds Tryd.pinned (OpenSpec.ofChange tableActsSpec)

/-- ITS FALSE NEIGHBOUR: 'it returns false'. Refute it at one input. -/
def tableActsWrong : ChangeSpec := { name := "tableActs", fn := fun _ => fun
  | [d1, d2] => { results := [.lit (.bool false)], args := [d1, d2] }
  | _ => none }
def TableActsWrongFalsely : Prop := tableActsRow.holds Tryd.pinned (OpenSpec.ofChange tableActsWrong)

/-- 'turnrowlaw07.TableNews': WHATEVER THE INPUT: true; the input reads as it did. -/
def tableNewsSpec : ChangeSpec := { name := "tableNews", fn := fun _ => fun
  | [d] => { results := [.lit (.bool true)], args := [d] }
  | _ => none }
def tableNewsRow : OpenClaim := { program := "ytbdpbkblihaeiaadoor", sum := "78fa257e8de655b5f1752a5c3f800f0ce1a2e61f70b7287dbaca02dc09cbfb64", func := "turnrow/turnrowlaw07.TableNews", spec := "tableNews", unfollowed := true, recurses := true, named := ["math/bits.deBruijn64tab"], plainKeys := false, apart := false, laid := [("math/bits.deBruijn64tab", laid_math_bits_deBruijn64tab)] }
def TableNewsSaid : Prop := tableNewsRow.holds Tryd.pinned (OpenSpec.ofChange tableNewsSpec)

/-- ITS FALSE NEIGHBOUR: 'it returns false'. Refute it at one input. -/
def tableNewsWrong : ChangeSpec := { name := "tableNews", fn := fun _ => fun
  | [d] => { results := [.lit (.bool false)], args := [d] }
  | _ => none }
def TableNewsWrongFalsely : Prop := tableNewsRow.holds Tryd.pinned (OpenSpec.ofChange tableNewsWrong)

/- THE SECOND FORM. 'bulk': how many values and letters a reading holds, each counted each time it is reached (what is shared counts as often as it is met; a slice's spare places count too). A statement '..UptoSaid' is the law's where the arguments, and the package variables that the reading takes, are together of bulk at most 1048576: NARROWER than '..Said'. Prove '..Said' where nothing that the law and all that it calls make is longer than what came in: it says more and counts as full. Else prove '..UptoSaid'. A law counts once. -/
mutual
def uptoBulk {H : Type} : DataW H → Nat
  | .lit (.string bytes) => bytes.length + 1
  | .lit _ => 1
  | .nil => 1
  | .ptr d => uptoBulk d + 1
  | .slice elems spare => uptoBulkAll elems + uptoBulkAll spare + 1
  | .agg parts => uptoBulkAll parts + 1
  | .iface _ d => uptoBulk d + 1
  | .map entries => uptoBulkEntries entries + 1
  | .held _ => 1
def uptoBulkAll {H : Type} : List (DataW H) → Nat
  | [] => 0
  | d :: r => uptoBulk d + uptoBulkAll r
def uptoBulkEntries {H : Type} : List (Lit × DataW H) → Nat
  | [] => 0
  | x :: r => uptoBulkEntry x + uptoBulkEntries r
def uptoBulkEntry {H : Type} : Lit × DataW H → Nat
  | (.string bytes, d) => bytes.length + uptoBulk d + 1
  | (_, d) => uptoBulk d + 1
 end
def uptoSmall : (H : Type) → List (DataW H) → Bool := fun _ ds => decide (uptoBulkAll ds ≤ 1048576)
def OpenSpec.upto (s : _root_.Go.ChangeSpec) : _root_.Go.OpenSpec := { _root_.Go.OpenSpec.ofChange s with cond := some uptoSmall }

/-- 'turnrowlaw02.BitmapNews', WHERE WHAT IT READS IS OF BULK AT MOST 1048576: true; the input reads as it did. -/
def bitmapNewsUptoRow : OpenClaim := { program := "ytbdpbkblihaeiaadoor", sum := "78fa257e8de655b5f1752a5c3f800f0ce1a2e61f70b7287dbaca02dc09cbfb64", func := "turnrow/turnrowlaw02.BitmapNews", spec := "bitmapNews", unfollowed := true, recurses := true, named := ["math/bits.deBruijn64tab"], plainKeys := false, apart := false, laid := [("math/bits.deBruijn64tab", laid_math_bits_deBruijn64tab)], narrowed := true }
def BitmapNewsUptoSaid : Prop := bitmapNewsUptoRow.holds Tryd.pinned (OpenSpec.upto bitmapNewsSpec)

/-- 'turnrowlaw02.BitmapActs', WHERE WHAT IT READS IS OF BULK AT MOST 1048576: true; the input reads as it did. -/
def bitmapActsUptoRow : OpenClaim := { program := "ytbdpbkblihaeiaadoor", sum := "78fa257e8de655b5f1752a5c3f800f0ce1a2e61f70b7287dbaca02dc09cbfb64", func := "turnrow/turnrowlaw02.BitmapActs", spec := "bitmapActs", unfollowed := true, recurses := true, named := ["math/bits.deBruijn64tab"], plainKeys := false, apart := false, laid := [("math/bits.deBruijn64tab", laid_math_bits_deBruijn64tab)], narrowed := true }
def BitmapActsUptoSaid : Prop := bitmapActsUptoRow.holds Tryd.pinned (OpenSpec.upto bitmapActsSpec)

/-- 'turnrowlaw02.BitmapRuns', WHERE WHAT IT READS IS OF BULK AT MOST 1048576: true; the input reads as it did. -/
def bitmapRunsUptoRow : OpenClaim := { program := "ytbdpbkblihaeiaadoor", sum := "78fa257e8de655b5f1752a5c3f800f0ce1a2e61f70b7287dbaca02dc09cbfb64", func := "turnrow/turnrowlaw02.BitmapRuns", spec := "bitmapRuns", unfollowed := true, recurses := true, named := ["math/bits.deBruijn64tab"], plainKeys := false, apart := false, laid := [("math/bits.deBruijn64tab", laid_math_bits_deBruijn64tab)], narrowed := true }
def BitmapRunsUptoSaid : Prop := bitmapRunsUptoRow.holds Tryd.pinned (OpenSpec.upto bitmapRunsSpec)

/-- 'turnrowlaw02.BitmapTurns', WHERE WHAT IT READS IS OF BULK AT MOST 1048576: true; the input reads as it did. -/
def bitmapTurnsUptoRow : OpenClaim := { program := "ytbdpbkblihaeiaadoor", sum := "78fa257e8de655b5f1752a5c3f800f0ce1a2e61f70b7287dbaca02dc09cbfb64", func := "turnrow/turnrowlaw02.BitmapTurns", spec := "bitmapTurns", unfollowed := true, recurses := true, named := ["math/bits.deBruijn64tab"], plainKeys := false, apart := false, laid := [("math/bits.deBruijn64tab", laid_math_bits_deBruijn64tab)], narrowed := true }
def BitmapTurnsUptoSaid : Prop := bitmapTurnsUptoRow.holds Tryd.pinned (OpenSpec.upto bitmapTurnsSpec)

/-- 'turnrowlaw02.BitmapFirst', WHERE WHAT IT READS IS OF BULK AT MOST 1048576: true; the input reads as it did. -/
def bitmapFirstUptoRow : OpenClaim := { program := "ytbdpbkblihaeiaadoor", sum := "78fa257e8de655b5f1752a5c3f800f0ce1a2e61f70b7287dbaca02dc09cbfb64", func := "turnrow/turnrowlaw02.BitmapFirst", spec := "bitmapFirst", unfollowed := true, recurses := true, named := ["math/bits.deBruijn64tab"], plainKeys := false, apart := false, laid := [("math/bits.deBruijn64tab", laid_math_bits_deBruijn64tab)], narrowed := true }
def BitmapFirstUptoSaid : Prop := bitmapFirstUptoRow.holds Tryd.pinned (OpenSpec.upto bitmapFirstSpec)

/-- 'turnrowlaw02.BitmapAll', WHERE WHAT IT READS IS OF BULK AT MOST 1048576: true; the input reads as it did. -/
def bitmapAllUptoRow : OpenClaim := { program := "ytbdpbkblihaeiaadoor", sum := "78fa257e8de655b5f1752a5c3f800f0ce1a2e61f70b7287dbaca02dc09cbfb64", func := "turnrow/turnrowlaw02.BitmapAll", spec := "bitmapAll", unfollowed := true, recurses := true, named := ["math/bits.deBruijn64tab"], plainKeys := false, apart := false, laid := [("math/bits.deBruijn64tab", laid_math_bits_deBruijn64tab)], narrowed := true }
def BitmapAllUptoSaid : Prop := bitmapAllUptoRow.holds Tryd.pinned (OpenSpec.upto bitmapAllSpec)

/-- 'turnrowlaw07.TableSets', WHERE WHAT IT READS IS OF BULK AT MOST 1048576: true; the input reads as it did. -/
def tableSetsUptoRow : OpenClaim := { program := "ytbdpbkblihaeiaadoor", sum := "78fa257e8de655b5f1752a5c3f800f0ce1a2e61f70b7287dbaca02dc09cbfb64", func := "turnrow/turnrowlaw07.TableSets", spec := "tableSets", named := ["math/bits.deBruijn64tab"], plainKeys := false, apart := false, laid := [("math/bits.deBruijn64tab", laid_math_bits_deBruijn64tab)], narrowed := true }
def TableSetsUptoSaid : Prop := tableSetsUptoRow.holds Tryd.pinned (OpenSpec.upto tableSetsSpec)

/-- 'turnrowlaw07.TableRetires', WHERE WHAT IT READS IS OF BULK AT MOST 1048576: true; the input reads as it did. -/
def tableRetiresUptoRow : OpenClaim := { program := "ytbdpbkblihaeiaadoor", sum := "78fa257e8de655b5f1752a5c3f800f0ce1a2e61f70b7287dbaca02dc09cbfb64", func := "turnrow/turnrowlaw07.TableRetires", spec := "tableRetires", named := ["math/bits.deBruijn64tab"], plainKeys := false, apart := false, laid := [("math/bits.deBruijn64tab", laid_math_bits_deBruijn64tab)], narrowed := true }
def TableRetiresUptoSaid : Prop := tableRetiresUptoRow.holds Tryd.pinned (OpenSpec.upto tableRetiresSpec)

/-- 'turnrowlaw07.TableOnce', WHERE WHAT IT READS IS OF BULK AT MOST 1048576: true; the input reads as it did. -/
def tableOnceUptoRow : OpenClaim := { program := "ytbdpbkblihaeiaadoor", sum := "78fa257e8de655b5f1752a5c3f800f0ce1a2e61f70b7287dbaca02dc09cbfb64", func := "turnrow/turnrowlaw07.TableOnce", spec := "tableOnce", named := ["math/bits.deBruijn64tab"], plainKeys := false, apart := false, laid := [("math/bits.deBruijn64tab", laid_math_bits_deBruijn64tab)], narrowed := true }
def TableOnceUptoSaid : Prop := tableOnceUptoRow.holds Tryd.pinned (OpenSpec.upto tableOnceSpec)

/-- 'turnrowlaw07.TableAll', WHERE WHAT IT READS IS OF BULK AT MOST 1048576: true; the input reads as it did. -/
def tableAllUptoRow : OpenClaim := { program := "ytbdpbkblihaeiaadoor", sum := "78fa257e8de655b5f1752a5c3f800f0ce1a2e61f70b7287dbaca02dc09cbfb64", func := "turnrow/turnrowlaw07.TableAll", spec := "tableAll", unfollowed := true, recurses := true, named := ["math/bits.deBruijn64tab"], plainKeys := false, apart := false, laid := [("math/bits.deBruijn64tab", laid_math_bits_deBruijn64tab)], narrowed := true }
def TableAllUptoSaid : Prop := tableAllUptoRow.holds Tryd.pinned (OpenSpec.upto tableAllSpec)

/-- 'turnrowlaw07.TableActs', WHERE WHAT IT READS IS OF BULK AT MOST 1048576: true; the input reads as it did. -/
def tableActsUptoRow : OpenClaim := { program := "ytbdpbkblihaeiaadoor", sum := "78fa257e8de655b5f1752a5c3f800f0ce1a2e61f70b7287dbaca02dc09cbfb64", func := "turnrow/turnrowlaw07.TableActs", spec := "tableActs", unfollowed := true, recurses := true, named := ["math/bits.deBruijn64tab"], plainKeys := false, apart := false, laid := [("math/bits.deBruijn64tab", laid_math_bits_deBruijn64tab)], narrowed := true }
def TableActsUptoSaid : Prop := tableActsUptoRow.holds Tryd.pinned (OpenSpec.upto tableActsSpec)

/-- 'turnrowlaw07.TableNews', WHERE WHAT IT READS IS OF BULK AT MOST 1048576: true; the input reads as it did. -/
def tableNewsUptoRow : OpenClaim := { program := "ytbdpbkblihaeiaadoor", sum := "78fa257e8de655b5f1752a5c3f800f0ce1a2e61f70b7287dbaca02dc09cbfb64", func := "turnrow/turnrowlaw07.TableNews", spec := "tableNews", unfollowed := true, recurses := true, named := ["math/bits.deBruijn64tab"], plainKeys := false, apart := false, laid := [("math/bits.deBruijn64tab", laid_math_bits_deBruijn64tab)], narrowed := true }
def TableNewsUptoSaid : Prop := tableNewsUptoRow.holds Tryd.pinned (OpenSpec.upto tableNewsSpec)

end Rows
end Go.Proofs.YtbdpbkblihaeiaaDoor
