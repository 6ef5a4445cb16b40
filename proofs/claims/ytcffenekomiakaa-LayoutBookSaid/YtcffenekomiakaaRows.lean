/-
  No cell of these rows narrows 'for every input' (looked for: loops, veiled, ifaces, maps, wideKeys, modest, calm, conditions, laid).
  DERIVED. THE GIVEN ROWS OF THIS SEAT. 4 by the template 'for every input the law returns true; each argument reads behind the call as it read before'; 0 by the template 'total and deterministic' (their statements: YtcffenekomiakaaTotals.lean).
  GIVEN WITH THE SEED: the statements are not yours to turn. If you find one false, say at which input.
  Laid BY PROGRAM, IN A SANDBOX (cutbox-rows.mjs): the forced cells as the released guide's own fill.sh prints them over the translation 9cf754cba0d65fc1… (all of the seat's roots in one cut). By AI agents, Wed Nov 11 2026. No macro, syntax, notation, axiom, sorry.
-/
import Derived.Test.YtcffenekomiakaaChecked
import GoSem.Claim
import GoSem.ClaimJoined
import GoSem.ClaimMapViews
import Derived.JoinedTies
import Derived.KernelRfl
namespace Go.Proofs.Ytcffenekomiakaa
/- THE CELL 'sum', in the pinned program and in every row, IS THE sha256 OF THE DUMP (.gsa) THAT YtcffenekomiakaaProg.lean LOADS. Nothing in Lean hashes anything: it is a label: what it is worth is what the hold of that sum in a sandbox is worth. -/
noncomputable def Try.pinned : Pinned := { name := "ytcffenekomiakaa", sum := "9cf754cba0d65fc17475f8084287210897b92b5caa091eded49e641e7496acc8", checked := Try.checked }
namespace Rows
def none {H : Type} : Left H := { results := [], args := [] }

/-- 'turnrowlaw04.LayoutGrows': WHATEVER THE INPUT: true; the input reads as it did. -/
def layoutGrowsSpec : ChangeSpec := { name := "layoutGrows", fn := fun _ => fun
  | [d1, d2] => { results := [.lit (.bool true)], args := [d1, d2] }
  | _ => none }
def layoutGrowsRow : OpenClaim := { program := "ytcffenekomiakaa", sum := "9cf754cba0d65fc17475f8084287210897b92b5caa091eded49e641e7496acc8", func := "turnrow/turnrowlaw04.LayoutGrows", spec := "layoutGrows", unfollowed := true, recurses := true, apart := false }
def LayoutGrowsSaid : Prop := layoutGrowsRow.holds Try.pinned (OpenSpec.ofChange layoutGrowsSpec)

/-- ITS FALSE NEIGHBOUR: 'it returns false'. Refute it at one input. -/
def layoutGrowsWrong : ChangeSpec := { name := "layoutGrows", fn := fun _ => fun
  | [d1, d2] => { results := [.lit (.bool false)], args := [d1, d2] }
  | _ => none }
def LayoutGrowsWrongFalsely : Prop := layoutGrowsRow.holds Try.pinned (OpenSpec.ofChange layoutGrowsWrong)

/-- 'turnrowlaw04.LayoutBook': WHATEVER THE INPUT: true; the input reads as it did. -/
def layoutBookSpec : ChangeSpec := { name := "layoutBook", fn := fun _ => fun
  | [d1, d2] => { results := [.lit (.bool true)], args := [d1, d2] }
  | _ => none }
def layoutBookRow : OpenClaim := { program := "ytcffenekomiakaa", sum := "9cf754cba0d65fc17475f8084287210897b92b5caa091eded49e641e7496acc8", func := "turnrow/turnrowlaw04.LayoutBook", spec := "layoutBook", unfollowed := true, recurses := true, apart := false }
def LayoutBookSaid : Prop := layoutBookRow.holds Try.pinned (OpenSpec.ofChange layoutBookSpec)

/-- ITS FALSE NEIGHBOUR: 'it returns false'. Refute it at one input. -/
def layoutBookWrong : ChangeSpec := { name := "layoutBook", fn := fun _ => fun
  | [d1, d2] => { results := [.lit (.bool false)], args := [d1, d2] }
  | _ => none }
def LayoutBookWrongFalsely : Prop := layoutBookRow.holds Try.pinned (OpenSpec.ofChange layoutBookWrong)

/-- 'turnrowlaw04.LayoutPlaces': WHATEVER THE INPUT: true; the input reads as it did. -/
def layoutPlacesSpec : ChangeSpec := { name := "layoutPlaces", fn := fun _ => fun
  | [d1, d2, d3] => { results := [.lit (.bool true)], args := [d1, d2, d3] }
  | _ => none }
def layoutPlacesRow : OpenClaim := { program := "ytcffenekomiakaa", sum := "9cf754cba0d65fc17475f8084287210897b92b5caa091eded49e641e7496acc8", func := "turnrow/turnrowlaw04.LayoutPlaces", spec := "layoutPlaces", unfollowed := true, recurses := true, apart := false }
def LayoutPlacesSaid : Prop := layoutPlacesRow.holds Try.pinned (OpenSpec.ofChange layoutPlacesSpec)

/-- ITS FALSE NEIGHBOUR: 'it returns false'. Refute it at one input. -/
def layoutPlacesWrong : ChangeSpec := { name := "layoutPlaces", fn := fun _ => fun
  | [d1, d2, d3] => { results := [.lit (.bool false)], args := [d1, d2, d3] }
  | _ => none }
def LayoutPlacesWrongFalsely : Prop := layoutPlacesRow.holds Try.pinned (OpenSpec.ofChange layoutPlacesWrong)

/-- 'turnrowlaw04.LayoutSlots': WHATEVER THE INPUT: true; the input reads as it did. -/
def layoutSlotsSpec : ChangeSpec := { name := "layoutSlots", fn := fun _ => fun
  | [d1, d2] => { results := [.lit (.bool true)], args := [d1, d2] }
  | _ => none }
def layoutSlotsRow : OpenClaim := { program := "ytcffenekomiakaa", sum := "9cf754cba0d65fc17475f8084287210897b92b5caa091eded49e641e7496acc8", func := "turnrow/turnrowlaw04.LayoutSlots", spec := "layoutSlots", unfollowed := true, recurses := true, apart := false }
def LayoutSlotsSaid : Prop := layoutSlotsRow.holds Try.pinned (OpenSpec.ofChange layoutSlotsSpec)

/-- ITS FALSE NEIGHBOUR: 'it returns false'. Refute it at one input. -/
def layoutSlotsWrong : ChangeSpec := { name := "layoutSlots", fn := fun _ => fun
  | [d1, d2] => { results := [.lit (.bool false)], args := [d1, d2] }
  | _ => none }
def LayoutSlotsWrongFalsely : Prop := layoutSlotsRow.holds Try.pinned (OpenSpec.ofChange layoutSlotsWrong)

/- THE SECOND FORM. 'bulk': how many values and letters a reading holds, each counted each time it is reached (what is shared counts as often as it is met; a slice's spare places count too). A statement '..UptoSaid' is the law's where the arguments, and the package variables that the reading takes, are together of bulk at most 1048576: NARROWER than '..Said'. Prove '..Said' where nothing that the law and all that it calls make is longer than what came in: it says more and counts as full. Else prove '..UptoSaid'. A law counts once. -/
mutual
def uptoBulk {H : Type} : DataW H → Nat
  | .lit (.string bytes) => bytes.length + 1
  | .lit _ => 1
  | .nil => 1
  | .ptr d => uptoBulk d + 1
  | .slice elems spare => uptoBulkAll elems + uptoBulkAll spare + 1
  | .agg parts => uptoBulkAll parts + 1
  | .iface _ d => uptoBulk d + 1
  | .map entries => uptoBulkEntries entries + 1
  | .held _ => 1
def uptoBulkAll {H : Type} : List (DataW H) → Nat
  | [] => 0
  | d :: r => uptoBulk d + uptoBulkAll r
def uptoBulkEntries {H : Type} : List (Lit × DataW H) → Nat
  | [] => 0
  | x :: r => uptoBulkEntry x + uptoBulkEntries r
def uptoBulkEntry {H : Type} : Lit × DataW H → Nat
  | (.string bytes, d) => bytes.length + uptoBulk d + 1
  | (_, d) => uptoBulk d + 1
 end
def uptoSmall : (H : Type) → List (DataW H) → Bool := fun _ ds => decide (uptoBulkAll ds ≤ 1048576)
def OpenSpec.upto (s : _root_.Go.ChangeSpec) : _root_.Go.OpenSpec := { _root_.Go.OpenSpec.ofChange s with cond := some uptoSmall }

/-- 'turnrowlaw04.LayoutGrows', WHERE WHAT IT READS IS OF BULK AT MOST 1048576: true; the input reads as it did. -/
def layoutGrowsUptoRow : OpenClaim := { program := "ytcffenekomiakaa", sum := "9cf754cba0d65fc17475f8084287210897b92b5caa091eded49e641e7496acc8", func := "turnrow/turnrowlaw04.LayoutGrows", spec := "layoutGrows", unfollowed := true, recurses := true, apart := false, narrowed := true }
def LayoutGrowsUptoSaid : Prop := layoutGrowsUptoRow.holds Try.pinned (OpenSpec.upto layoutGrowsSpec)

/-- 'turnrowlaw04.LayoutBook', WHERE WHAT IT READS IS OF BULK AT MOST 1048576: true; the input reads as it did. -/
def layoutBookUptoRow : OpenClaim := { program := "ytcffenekomiakaa", sum := "9cf754cba0d65fc17475f8084287210897b92b5caa091eded49e641e7496acc8", func := "turnrow/turnrowlaw04.LayoutBook", spec := "layoutBook", unfollowed := true, recurses := true, apart := false, narrowed := true }
def LayoutBookUptoSaid : Prop := layoutBookUptoRow.holds Try.pinned (OpenSpec.upto layoutBookSpec)

/-- 'turnrowlaw04.LayoutPlaces', WHERE WHAT IT READS IS OF BULK AT MOST 1048576: true; the input reads as it did. -/
def layoutPlacesUptoRow : OpenClaim := { program := "ytcffenekomiakaa", sum := "9cf754cba0d65fc17475f8084287210897b92b5caa091eded49e641e7496acc8", func := "turnrow/turnrowlaw04.LayoutPlaces", spec := "layoutPlaces", unfollowed := true, recurses := true, apart := false, narrowed := true }
def LayoutPlacesUptoSaid : Prop := layoutPlacesUptoRow.holds Try.pinned (OpenSpec.upto layoutPlacesSpec)

/-- 'turnrowlaw04.LayoutSlots', WHERE WHAT IT READS IS OF BULK AT MOST 1048576: true; the input reads as it did. -/
def layoutSlotsUptoRow : OpenClaim := { program := "ytcffenekomiakaa", sum := "9cf754cba0d65fc17475f8084287210897b92b5caa091eded49e641e7496acc8", func := "turnrow/turnrowlaw04.LayoutSlots", spec := "layoutSlots", unfollowed := true, recurses := true, apart := false, narrowed := true }
def LayoutSlotsUptoSaid : Prop := layoutSlotsUptoRow.holds Try.pinned (OpenSpec.upto layoutSlotsSpec)

end Rows
end Go.Proofs.Ytcffenekomiakaa
