/- What the arguments of the laws of bump read as. -/
import Derived.Test.YtkaflgbipjppmaaDoorBA
import Derived.OpenShut
import Derived.ChangeSame
import Derived.ChangeArms
import Derived.ProofKit
import Derived.Lib.SmallJoins
namespace Go.Proofs.YtkaflgbipjppmaaDoor
open Go.RowKit Go.ChangeShapes Go.WideShapes Go.ChangeAt Go.Joins
set_option linter.unusedVariables false
section
variable {H : Type} {enc0 : TypeId × Value → H} {w : World} {base : Nat} {spare : Nat → Bool} {held : Bool}
set_option maxRecDepth 100000 in
theorem dec_act9 (fuel : Nat) (cs : List Value) (x : DataW H × List MemPlace) (hl : cs.length = 4) (h : DataW.trod enc0 Tryd.prog w base spare held fuel 83 cs = some x) : ∃ a, cs = act9Enc a ∧ True := by
  match cs, hl with
  | [c0, c1, c2, c3], _ =>
    obtain ⟨xs, n, _, _, _, hlen, hf⟩ := DataW.trod_struct Tryd.underlying83 h
    match xs, hlen with
    | [y0, y1, y2, y3], _ =>
      have h0 : DataW.trod enc0 Tryd.prog w base spare held n 3 [c0] = some y0 := hf 0 _ rfl
      have h1 : DataW.trod enc0 Tryd.prog w base spare held n 3 [c1] = some y1 := hf 1 _ rfl
      have h2 : DataW.trod enc0 Tryd.prog w base spare held n 3 [c2] = some y2 := hf 2 _ rfl
      have h3 : DataW.trod enc0 Tryd.prog w base spare held n 4 [c3] = some y3 := hf 3 _ rfl
      obtain ⟨a, e0, _, w0⟩ := DataW.trod_int Tryd.underlying3 h0
      obtain ⟨b, e1, _, w1⟩ := DataW.trod_int Tryd.underlying3 h1
      obtain ⟨c, e2, _, w2⟩ := DataW.trod_int Tryd.underlying3 h2
      obtain ⟨d, e3, _⟩ := DataW.trod_bool Tryd.underlying4 h3
      have e3' : [c3] = [Value.bool d] := e3
      cases e0
      cases e1
      cases e2
      cases e3'
      exact ⟨⟨a, b, c, d⟩, rfl, trivial⟩
end
end Go.Proofs.YtkaflgbipjppmaaDoor
