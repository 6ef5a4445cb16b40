/-
  No cell of these rows narrows 'for every input' (looked for: loops, veiled, ifaces, maps, wideKeys, modest, calm, conditions, laid).
  DERIVED. THE GIVEN ROWS OF THIS SEAT. 13 by the template 'for every input the law returns true; each argument reads behind the call as it read before'; 0 by the template 'total and deterministic' (their statements: YtagccnjkgnaimaaTotals.lean).
  GIVEN WITH THE SEED: the statements are not yours to turn. If you find one false, say at which input.
  Laid BY PROGRAM, IN A SANDBOX (cutbox-rows.mjs): the forced cells as the released guide's own fill.sh prints them over the translation a57d8d9517800275… (all of the seat's roots in one cut). By AI agents, Wed Nov 11 2026. No macro, syntax, notation, axiom, sorry.
-/
import Derived.Test.YtagccnjkgnaimaaChecked
import GoSem.Claim
import GoSem.ClaimJoined
import GoSem.ClaimMapViews
import Derived.JoinedTies
import Derived.KernelRfl
namespace Go.Proofs.Ytagccnjkgnaimaa
/- THE CELL 'sum', in the pinned program and in every row, IS THE sha256 OF THE DUMP (.gsa) THAT YtagccnjkgnaimaaProg.lean LOADS. Nothing in Lean hashes anything: it is a label: what it is worth is what the hold of that sum in a sandbox is worth. -/
noncomputable def Try.pinned : Pinned := { name := "ytagccnjkgnaimaa", sum := "a57d8d95178002753c63ff901df02364df64d6adfa87f3a2feb4ad2a5b775a51", checked := Try.checked }
namespace Rows
def none {H : Type} : Left H := { results := [], args := [] }

/-- 'turnrowlaw01.FieldPuts': WHATEVER THE INPUT: true; the input reads as it did. -/
def fieldPutsSpec : ChangeSpec := { name := "fieldPuts", fn := fun _ => fun
  | [d1, d2, d3] => { results := [.lit (.bool true)], args := [d1, d2, d3] }
  | _ => none }
def fieldPutsRow : OpenClaim := { program := "ytagccnjkgnaimaa", sum := "a57d8d95178002753c63ff901df02364df64d6adfa87f3a2feb4ad2a5b775a51", func := "turnrow/turnrowlaw01.FieldPuts", spec := "fieldPuts", apart := false }
def FieldPutsSaid : Prop := fieldPutsRow.holds Try.pinned (OpenSpec.ofChange fieldPutsSpec)

/-- ITS FALSE NEIGHBOUR: 'it returns false'. Refute it at one input. -/
def fieldPutsWrong : ChangeSpec := { name := "fieldPuts", fn := fun _ => fun
  | [d1, d2, d3] => { results := [.lit (.bool false)], args := [d1, d2, d3] }
  | _ => none }
def FieldPutsWrongFalsely : Prop := fieldPutsRow.holds Try.pinned (OpenSpec.ofChange fieldPutsWrong)

/-- 'turnrowlaw01.FieldPacks': WHATEVER THE INPUT: true; the input reads as it did. -/
def fieldPacksSpec : ChangeSpec := { name := "fieldPacks", fn := fun _ => fun
  | [d1, d2] => { results := [.lit (.bool true)], args := [d1, d2] }
  | _ => none }
def fieldPacksRow : OpenClaim := { program := "ytagccnjkgnaimaa", sum := "a57d8d95178002753c63ff901df02364df64d6adfa87f3a2feb4ad2a5b775a51", func := "turnrow/turnrowlaw01.FieldPacks", spec := "fieldPacks", apart := false }
def FieldPacksSaid : Prop := fieldPacksRow.holds Try.pinned (OpenSpec.ofChange fieldPacksSpec)

/-- ITS FALSE NEIGHBOUR: 'it returns false'. Refute it at one input. -/
def fieldPacksWrong : ChangeSpec := { name := "fieldPacks", fn := fun _ => fun
  | [d1, d2] => { results := [.lit (.bool false)], args := [d1, d2] }
  | _ => none }
def FieldPacksWrongFalsely : Prop := fieldPacksRow.holds Try.pinned (OpenSpec.ofChange fieldPacksWrong)

/-- 'turnrowlaw01.FieldGets': WHATEVER THE INPUT: true; the input reads as it did. -/
def fieldGetsSpec : ChangeSpec := { name := "fieldGets", fn := fun _ => fun
  | [d1, d2, d3] => { results := [.lit (.bool true)], args := [d1, d2, d3] }
  | _ => none }
def fieldGetsRow : OpenClaim := { program := "ytagccnjkgnaimaa", sum := "a57d8d95178002753c63ff901df02364df64d6adfa87f3a2feb4ad2a5b775a51", func := "turnrow/turnrowlaw01.FieldGets", spec := "fieldGets", apart := false }
def FieldGetsSaid : Prop := fieldGetsRow.holds Try.pinned (OpenSpec.ofChange fieldGetsSpec)

/-- ITS FALSE NEIGHBOUR: 'it returns false'. Refute it at one input. -/
def fieldGetsWrong : ChangeSpec := { name := "fieldGets", fn := fun _ => fun
  | [d1, d2, d3] => { results := [.lit (.bool false)], args := [d1, d2, d3] }
  | _ => none }
def FieldGetsWrongFalsely : Prop := fieldGetsRow.holds Try.pinned (OpenSpec.ofChange fieldGetsWrong)

/-- 'turnrowlaw01.FieldKeeps': WHATEVER THE INPUT: true; the input reads as it did. -/
def fieldKeepsSpec : ChangeSpec := { name := "fieldKeeps", fn := fun _ => fun
  | [d1, d2, d3] => { results := [.lit (.bool true)], args := [d1, d2, d3] }
  | _ => none }
def fieldKeepsRow : OpenClaim := { program := "ytagccnjkgnaimaa", sum := "a57d8d95178002753c63ff901df02364df64d6adfa87f3a2feb4ad2a5b775a51", func := "turnrow/turnrowlaw01.FieldKeeps", spec := "fieldKeeps", apart := false }
def FieldKeepsSaid : Prop := fieldKeepsRow.holds Try.pinned (OpenSpec.ofChange fieldKeepsSpec)

/-- ITS FALSE NEIGHBOUR: 'it returns false'. Refute it at one input. -/
def fieldKeepsWrong : ChangeSpec := { name := "fieldKeeps", fn := fun _ => fun
  | [d1, d2, d3] => { results := [.lit (.bool false)], args := [d1, d2, d3] }
  | _ => none }
def FieldKeepsWrongFalsely : Prop := fieldKeepsRow.holds Try.pinned (OpenSpec.ofChange fieldKeepsWrong)

/-- 'turnrowlaw01.FieldHalves': WHATEVER THE INPUT: true; the input reads as it did. -/
def fieldHalvesSpec : ChangeSpec := { name := "fieldHalves", fn := fun _ => fun
  | [d1, d2, d3] => { results := [.lit (.bool true)], args := [d1, d2, d3] }
  | _ => none }
def fieldHalvesRow : OpenClaim := { program := "ytagccnjkgnaimaa", sum := "a57d8d95178002753c63ff901df02364df64d6adfa87f3a2feb4ad2a5b775a51", func := "turnrow/turnrowlaw01.FieldHalves", spec := "fieldHalves", apart := false }
def FieldHalvesSaid : Prop := fieldHalvesRow.holds Try.pinned (OpenSpec.ofChange fieldHalvesSpec)

/-- ITS FALSE NEIGHBOUR: 'it returns false'. Refute it at one input. -/
def fieldHalvesWrong : ChangeSpec := { name := "fieldHalves", fn := fun _ => fun
  | [d1, d2, d3] => { results := [.lit (.bool false)], args := [d1, d2, d3] }
  | _ => none }
def FieldHalvesWrongFalsely : Prop := fieldHalvesRow.holds Try.pinned (OpenSpec.ofChange fieldHalvesWrong)

/-- 'turnrowlaw01.FieldBack': WHATEVER THE INPUT: true; the input reads as it did. -/
def fieldBackSpec : ChangeSpec := { name := "fieldBack", fn := fun _ => fun
  | [d1, d2] => { results := [.lit (.bool true)], args := [d1, d2] }
  | _ => none }
def fieldBackRow : OpenClaim := { program := "ytagccnjkgnaimaa", sum := "a57d8d95178002753c63ff901df02364df64d6adfa87f3a2feb4ad2a5b775a51", func := "turnrow/turnrowlaw01.FieldBack", spec := "fieldBack", apart := false }
def FieldBackSaid : Prop := fieldBackRow.holds Try.pinned (OpenSpec.ofChange fieldBackSpec)

/-- ITS FALSE NEIGHBOUR: 'it returns false'. Refute it at one input. -/
def fieldBackWrong : ChangeSpec := { name := "fieldBack", fn := fun _ => fun
  | [d1, d2] => { results := [.lit (.bool false)], args := [d1, d2] }
  | _ => none }
def FieldBackWrongFalsely : Prop := fieldBackRow.holds Try.pinned (OpenSpec.ofChange fieldBackWrong)

/-- 'turnrowlaw01.FieldWhole': WHATEVER THE INPUT: true; the input reads as it did. -/
def fieldWholeSpec : ChangeSpec := { name := "fieldWhole", fn := fun _ => fun
  | [d1, d2] => { results := [.lit (.bool true)], args := [d1, d2] }
  | _ => none }
def fieldWholeRow : OpenClaim := { program := "ytagccnjkgnaimaa", sum := "a57d8d95178002753c63ff901df02364df64d6adfa87f3a2feb4ad2a5b775a51", func := "turnrow/turnrowlaw01.FieldWhole", spec := "fieldWhole", apart := false }
def FieldWholeSaid : Prop := fieldWholeRow.holds Try.pinned (OpenSpec.ofChange fieldWholeSpec)

/-- ITS FALSE NEIGHBOUR: 'it returns false'. Refute it at one input. -/
def fieldWholeWrong : ChangeSpec := { name := "fieldWhole", fn := fun _ => fun
  | [d1, d2] => { results := [.lit (.bool false)], args := [d1, d2] }
  | _ => none }
def FieldWholeWrongFalsely : Prop := fieldWholeRow.holds Try.pinned (OpenSpec.ofChange fieldWholeWrong)

/-- 'turnrowlaw05.HeaderParts': WHATEVER THE INPUT: true; the input reads as it did. -/
def headerPartsSpec : ChangeSpec := { name := "headerParts", fn := fun _ => fun
  | [d1, d2] => { results := [.lit (.bool true)], args := [d1, d2] }
  | _ => none }
def headerPartsRow : OpenClaim := { program := "ytagccnjkgnaimaa", sum := "a57d8d95178002753c63ff901df02364df64d6adfa87f3a2feb4ad2a5b775a51", func := "turnrow/turnrowlaw05.HeaderParts", spec := "headerParts", apart := false }
def HeaderPartsSaid : Prop := headerPartsRow.holds Try.pinned (OpenSpec.ofChange headerPartsSpec)

/-- ITS FALSE NEIGHBOUR: 'it returns false'. Refute it at one input. -/
def headerPartsWrong : ChangeSpec := { name := "headerParts", fn := fun _ => fun
  | [d1, d2] => { results := [.lit (.bool false)], args := [d1, d2] }
  | _ => none }
def HeaderPartsWrongFalsely : Prop := headerPartsRow.holds Try.pinned (OpenSpec.ofChange headerPartsWrong)

/-- 'turnrowlaw05.HeaderRefs': WHATEVER THE INPUT: true; the input reads as it did. -/
def headerRefsSpec : ChangeSpec := { name := "headerRefs", fn := fun _ => fun
  | [d] => { results := [.lit (.bool true)], args := [d] }
  | _ => none }
def headerRefsRow : OpenClaim := { program := "ytagccnjkgnaimaa", sum := "a57d8d95178002753c63ff901df02364df64d6adfa87f3a2feb4ad2a5b775a51", func := "turnrow/turnrowlaw05.HeaderRefs", spec := "headerRefs", apart := false }
def HeaderRefsSaid : Prop := headerRefsRow.holds Try.pinned (OpenSpec.ofChange headerRefsSpec)

/-- ITS FALSE NEIGHBOUR: 'it returns false'. Refute it at one input. -/
def headerRefsWrong : ChangeSpec := { name := "headerRefs", fn := fun _ => fun
  | [d] => { results := [.lit (.bool false)], args := [d] }
  | _ => none }
def HeaderRefsWrongFalsely : Prop := headerRefsRow.holds Try.pinned (OpenSpec.ofChange headerRefsWrong)

/-- 'turnrowlaw05.HeaderWords': WHATEVER THE INPUT: true; the input reads as it did. -/
def headerWordsSpec : ChangeSpec := { name := "headerWords", fn := fun _ => fun
  | [d1, d2] => { results := [.lit (.bool true)], args := [d1, d2] }
  | _ => none }
def headerWordsRow : OpenClaim := { program := "ytagccnjkgnaimaa", sum := "a57d8d95178002753c63ff901df02364df64d6adfa87f3a2feb4ad2a5b775a51", func := "turnrow/turnrowlaw05.HeaderWords", spec := "headerWords", apart := false }
def HeaderWordsSaid : Prop := headerWordsRow.holds Try.pinned (OpenSpec.ofChange headerWordsSpec)

/-- ITS FALSE NEIGHBOUR: 'it returns false'. Refute it at one input. -/
def headerWordsWrong : ChangeSpec := { name := "headerWords", fn := fun _ => fun
  | [d1, d2] => { results := [.lit (.bool false)], args := [d1, d2] }
  | _ => none }
def HeaderWordsWrongFalsely : Prop := headerWordsRow.holds Try.pinned (OpenSpec.ofChange headerWordsWrong)

/-- 'turnrowlaw05.HeaderLinks': WHATEVER THE INPUT: true; the input reads as it did. -/
def headerLinksSpec : ChangeSpec := { name := "headerLinks", fn := fun _ => fun
  | [d1, d2] => { results := [.lit (.bool true)], args := [d1, d2] }
  | _ => none }
def headerLinksRow : OpenClaim := { program := "ytagccnjkgnaimaa", sum := "a57d8d95178002753c63ff901df02364df64d6adfa87f3a2feb4ad2a5b775a51", func := "turnrow/turnrowlaw05.HeaderLinks", spec := "headerLinks", apart := false }
def HeaderLinksSaid : Prop := headerLinksRow.holds Try.pinned (OpenSpec.ofChange headerLinksSpec)

/-- ITS FALSE NEIGHBOUR: 'it returns false'. Refute it at one input. -/
def headerLinksWrong : ChangeSpec := { name := "headerLinks", fn := fun _ => fun
  | [d1, d2] => { results := [.lit (.bool false)], args := [d1, d2] }
  | _ => none }
def HeaderLinksWrongFalsely : Prop := headerLinksRow.holds Try.pinned (OpenSpec.ofChange headerLinksWrong)

/-- 'turnrowlaw05.HeaderApart': WHATEVER THE INPUT: true; the input reads as it did. -/
def headerApartSpec : ChangeSpec := { name := "headerApart", fn := fun _ => fun
  | [d1, d2, d3] => { results := [.lit (.bool true)], args := [d1, d2, d3] }
  | _ => none }
def headerApartRow : OpenClaim := { program := "ytagccnjkgnaimaa", sum := "a57d8d95178002753c63ff901df02364df64d6adfa87f3a2feb4ad2a5b775a51", func := "turnrow/turnrowlaw05.HeaderApart", spec := "headerApart", apart := false }
def HeaderApartSaid : Prop := headerApartRow.holds Try.pinned (OpenSpec.ofChange headerApartSpec)

/-- ITS FALSE NEIGHBOUR: 'it returns false'. Refute it at one input. -/
def headerApartWrong : ChangeSpec := { name := "headerApart", fn := fun _ => fun
  | [d1, d2, d3] => { results := [.lit (.bool false)], args := [d1, d2, d3] }
  | _ => none }
def HeaderApartWrongFalsely : Prop := headerApartRow.holds Try.pinned (OpenSpec.ofChange headerApartWrong)

/-- 'turnrowlaw05.HeaderBack': WHATEVER THE INPUT: true; the input reads as it did. -/
def headerBackSpec : ChangeSpec := { name := "headerBack", fn := fun _ => fun
  | [d1, d2, d3] => { results := [.lit (.bool true)], args := [d1, d2, d3] }
  | _ => none }
def headerBackRow : OpenClaim := { program := "ytagccnjkgnaimaa", sum := "a57d8d95178002753c63ff901df02364df64d6adfa87f3a2feb4ad2a5b775a51", func := "turnrow/turnrowlaw05.HeaderBack", spec := "headerBack", apart := false }
def HeaderBackSaid : Prop := headerBackRow.holds Try.pinned (OpenSpec.ofChange headerBackSpec)

/-- ITS FALSE NEIGHBOUR: 'it returns false'. Refute it at one input. -/
def headerBackWrong : ChangeSpec := { name := "headerBack", fn := fun _ => fun
  | [d1, d2, d3] => { results := [.lit (.bool false)], args := [d1, d2, d3] }
  | _ => none }
def HeaderBackWrongFalsely : Prop := headerBackRow.holds Try.pinned (OpenSpec.ofChange headerBackWrong)

/- THE SECOND FORM. 'bulk': how many values and letters a reading holds, each counted each time it is reached (what is shared counts as often as it is met; a slice's spare places count too). A statement '..UptoSaid' is the law's where the arguments, and the package variables that the reading takes, are together of bulk at most 1048576: NARROWER than '..Said'. Prove '..Said' where nothing that the law and all that it calls make is longer than what came in: it says more and counts as full. Else prove '..UptoSaid'. A law counts once. -/
mutual
def uptoBulk {H : Type} : DataW H → Nat
  | .lit (.string bytes) => bytes.length + 1
  | .lit _ => 1
  | .nil => 1
  | .ptr d => uptoBulk d + 1
  | .slice elems spare => uptoBulkAll elems + uptoBulkAll spare + 1
  | .agg parts => uptoBulkAll parts + 1
  | .iface _ d => uptoBulk d + 1
  | .map entries => uptoBulkEntries entries + 1
  | .held _ => 1
def uptoBulkAll {H : Type} : List (DataW H) → Nat
  | [] => 0
  | d :: r => uptoBulk d + uptoBulkAll r
def uptoBulkEntries {H : Type} : List (Lit × DataW H) → Nat
  | [] => 0
  | x :: r => uptoBulkEntry x + uptoBulkEntries r
def uptoBulkEntry {H : Type} : Lit × DataW H → Nat
  | (.string bytes, d) => bytes.length + uptoBulk d + 1
  | (_, d) => uptoBulk d + 1
 end
def uptoSmall : (H : Type) → List (DataW H) → Bool := fun _ ds => decide (uptoBulkAll ds ≤ 1048576)
def OpenSpec.upto (s : _root_.Go.ChangeSpec) : _root_.Go.OpenSpec := { _root_.Go.OpenSpec.ofChange s with cond := some uptoSmall }

/-- 'turnrowlaw01.FieldPuts', WHERE WHAT IT READS IS OF BULK AT MOST 1048576: true; the input reads as it did. -/
def fieldPutsUptoRow : OpenClaim := { program := "ytagccnjkgnaimaa", sum := "a57d8d95178002753c63ff901df02364df64d6adfa87f3a2feb4ad2a5b775a51", func := "turnrow/turnrowlaw01.FieldPuts", spec := "fieldPuts", apart := false, narrowed := true }
def FieldPutsUptoSaid : Prop := fieldPutsUptoRow.holds Try.pinned (OpenSpec.upto fieldPutsSpec)

/-- 'turnrowlaw01.FieldPacks', WHERE WHAT IT READS IS OF BULK AT MOST 1048576: true; the input reads as it did. -/
def fieldPacksUptoRow : OpenClaim := { program := "ytagccnjkgnaimaa", sum := "a57d8d95178002753c63ff901df02364df64d6adfa87f3a2feb4ad2a5b775a51", func := "turnrow/turnrowlaw01.FieldPacks", spec := "fieldPacks", apart := false, narrowed := true }
def FieldPacksUptoSaid : Prop := fieldPacksUptoRow.holds Try.pinned (OpenSpec.upto fieldPacksSpec)

/-- 'turnrowlaw01.FieldGets', WHERE WHAT IT READS IS OF BULK AT MOST 1048576: true; the input reads as it did. -/
def fieldGetsUptoRow : OpenClaim := { program := "ytagccnjkgnaimaa", sum := "a57d8d95178002753c63ff901df02364df64d6adfa87f3a2feb4ad2a5b775a51", func := "turnrow/turnrowlaw01.FieldGets", spec := "fieldGets", apart := false, narrowed := true }
def FieldGetsUptoSaid : Prop := fieldGetsUptoRow.holds Try.pinned (OpenSpec.upto fieldGetsSpec)

/-- 'turnrowlaw01.FieldKeeps', WHERE WHAT IT READS IS OF BULK AT MOST 1048576: true; the input reads as it did. -/
def fieldKeepsUptoRow : OpenClaim := { program := "ytagccnjkgnaimaa", sum := "a57d8d95178002753c63ff901df02364df64d6adfa87f3a2feb4ad2a5b775a51", func := "turnrow/turnrowlaw01.FieldKeeps", spec := "fieldKeeps", apart := false, narrowed := true }
def FieldKeepsUptoSaid : Prop := fieldKeepsUptoRow.holds Try.pinned (OpenSpec.upto fieldKeepsSpec)

/-- 'turnrowlaw01.FieldHalves', WHERE WHAT IT READS IS OF BULK AT MOST 1048576: true; the input reads as it did. -/
def fieldHalvesUptoRow : OpenClaim := { program := "ytagccnjkgnaimaa", sum := "a57d8d95178002753c63ff901df02364df64d6adfa87f3a2feb4ad2a5b775a51", func := "turnrow/turnrowlaw01.FieldHalves", spec := "fieldHalves", apart := false, narrowed := true }
def FieldHalvesUptoSaid : Prop := fieldHalvesUptoRow.holds Try.pinned (OpenSpec.upto fieldHalvesSpec)

/-- 'turnrowlaw01.FieldBack', WHERE WHAT IT READS IS OF BULK AT MOST 1048576: true; the input reads as it did. -/
def fieldBackUptoRow : OpenClaim := { program := "ytagccnjkgnaimaa", sum := "a57d8d95178002753c63ff901df02364df64d6adfa87f3a2feb4ad2a5b775a51", func := "turnrow/turnrowlaw01.FieldBack", spec := "fieldBack", apart := false, narrowed := true }
def FieldBackUptoSaid : Prop := fieldBackUptoRow.holds Try.pinned (OpenSpec.upto fieldBackSpec)

/-- 'turnrowlaw01.FieldWhole', WHERE WHAT IT READS IS OF BULK AT MOST 1048576: true; the input reads as it did. -/
def fieldWholeUptoRow : OpenClaim := { program := "ytagccnjkgnaimaa", sum := "a57d8d95178002753c63ff901df02364df64d6adfa87f3a2feb4ad2a5b775a51", func := "turnrow/turnrowlaw01.FieldWhole", spec := "fieldWhole", apart := false, narrowed := true }
def FieldWholeUptoSaid : Prop := fieldWholeUptoRow.holds Try.pinned (OpenSpec.upto fieldWholeSpec)

/-- 'turnrowlaw05.HeaderParts', WHERE WHAT IT READS IS OF BULK AT MOST 1048576: true; the input reads as it did. -/
def headerPartsUptoRow : OpenClaim := { program := "ytagccnjkgnaimaa", sum := "a57d8d95178002753c63ff901df02364df64d6adfa87f3a2feb4ad2a5b775a51", func := "turnrow/turnrowlaw05.HeaderParts", spec := "headerParts", apart := false, narrowed := true }
def HeaderPartsUptoSaid : Prop := headerPartsUptoRow.holds Try.pinned (OpenSpec.upto headerPartsSpec)

/-- 'turnrowlaw05.HeaderRefs', WHERE WHAT IT READS IS OF BULK AT MOST 1048576: true; the input reads as it did. -/
def headerRefsUptoRow : OpenClaim := { program := "ytagccnjkgnaimaa", sum := "a57d8d95178002753c63ff901df02364df64d6adfa87f3a2feb4ad2a5b775a51", func := "turnrow/turnrowlaw05.HeaderRefs", spec := "headerRefs", apart := false, narrowed := true }
def HeaderRefsUptoSaid : Prop := headerRefsUptoRow.holds Try.pinned (OpenSpec.upto headerRefsSpec)

/-- 'turnrowlaw05.HeaderWords', WHERE WHAT IT READS IS OF BULK AT MOST 1048576: true; the input reads as it did. -/
def headerWordsUptoRow : OpenClaim := { program := "ytagccnjkgnaimaa", sum := "a57d8d95178002753c63ff901df02364df64d6adfa87f3a2feb4ad2a5b775a51", func := "turnrow/turnrowlaw05.HeaderWords", spec := "headerWords", apart := false, narrowed := true }
def HeaderWordsUptoSaid : Prop := headerWordsUptoRow.holds Try.pinned (OpenSpec.upto headerWordsSpec)

/-- 'turnrowlaw05.HeaderLinks', WHERE WHAT IT READS IS OF BULK AT MOST 1048576: true; the input reads as it did. -/
def headerLinksUptoRow : OpenClaim := { program := "ytagccnjkgnaimaa", sum := "a57d8d95178002753c63ff901df02364df64d6adfa87f3a2feb4ad2a5b775a51", func := "turnrow/turnrowlaw05.HeaderLinks", spec := "headerLinks", apart := false, narrowed := true }
def HeaderLinksUptoSaid : Prop := headerLinksUptoRow.holds Try.pinned (OpenSpec.upto headerLinksSpec)

/-- 'turnrowlaw05.HeaderApart', WHERE WHAT IT READS IS OF BULK AT MOST 1048576: true; the input reads as it did. -/
def headerApartUptoRow : OpenClaim := { program := "ytagccnjkgnaimaa", sum := "a57d8d95178002753c63ff901df02364df64d6adfa87f3a2feb4ad2a5b775a51", func := "turnrow/turnrowlaw05.HeaderApart", spec := "headerApart", apart := false, narrowed := true }
def HeaderApartUptoSaid : Prop := headerApartUptoRow.holds Try.pinned (OpenSpec.upto headerApartSpec)

/-- 'turnrowlaw05.HeaderBack', WHERE WHAT IT READS IS OF BULK AT MOST 1048576: true; the input reads as it did. -/
def headerBackUptoRow : OpenClaim := { program := "ytagccnjkgnaimaa", sum := "a57d8d95178002753c63ff901df02364df64d6adfa87f3a2feb4ad2a5b775a51", func := "turnrow/turnrowlaw05.HeaderBack", spec := "headerBack", apart := false, narrowed := true }
def HeaderBackUptoSaid : Prop := headerBackUptoRow.holds Try.pinned (OpenSpec.upto headerBackSpec)

end Rows
end Go.Proofs.Ytagccnjkgnaimaa
