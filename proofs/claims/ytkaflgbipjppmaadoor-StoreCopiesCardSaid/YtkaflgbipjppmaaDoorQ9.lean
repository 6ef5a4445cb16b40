/- What the arguments of the store's laws read as. -/
import Derived.Test.YtkaflgbipjppmaaDoorGo
import Derived.OpenShut
import Derived.ChangeSame
import Derived.ChangeArms
import Derived.ProofKit
import Derived.Lib.SmallJoins
namespace Go.Proofs.YtkaflgbipjppmaaDoor
open Go.RowKit Go.ChangeShapes Go.WideShapes Go.ChangeAt Go.Joins
set_option linter.unusedVariables false
section
variable {H : Type} {enc0 : TypeId × Value → H} {w : World} {base : Nat} {spare : Nat → Bool} {held : Bool}
theorem i64B_of {x : Int} (h : (Lit.int .i64 x).wf = true) : i64B x := i64_of h
set_option maxRecDepth 100000 in
theorem dec_act3 (fuel : Nat) (cs : List Value) (x : DataW H × List MemPlace) (hl : cs.length = 5) (h : DataW.trod enc0 Tryd.prog w base spare held fuel 67 cs = some x) : ∃ a, cs = act3Enc a ∧ good3 a := by
  match cs, hl with
  | [c0, c1, c2, c3, c4], _ =>
    obtain ⟨xs, n, _, _, _, hlen, hf⟩ := DataW.trod_struct Tryd.underlying67 h
    match xs, hlen with
    | [y0, y1, y2, y3, y4], _ =>
      have h0 : DataW.trod enc0 Tryd.prog w base spare held n 3 [c0] = some y0 := hf 0 _ rfl
      have h1 : DataW.trod enc0 Tryd.prog w base spare held n 3 [c1] = some y1 := hf 1 _ rfl
      have h2 : DataW.trod enc0 Tryd.prog w base spare held n 3 [c2] = some y2 := hf 2 _ rfl
      have h3 : DataW.trod enc0 Tryd.prog w base spare held n 3 [c3] = some y3 := hf 3 _ rfl
      have h4 : DataW.trod enc0 Tryd.prog w base spare held n 46 [c4] = some y4 := hf 4 _ rfl
      obtain ⟨a, e0, _, w0⟩ := DataW.trod_int Tryd.underlying3 h0
      obtain ⟨b, e1, _, w1⟩ := DataW.trod_int Tryd.underlying3 h1
      obtain ⟨c, e2, _, w2⟩ := DataW.trod_int Tryd.underlying3 h2
      obtain ⟨d, e3, _, w3⟩ := DataW.trod_int Tryd.underlying3 h3
      obtain ⟨f, e4, _, w4⟩ := DataW.trod_int Tryd.underlying46 h4
      cases e0
      cases e1
      cases e2
      cases e3
      cases e4
      exact ⟨⟨a, b, c, d, f⟩, rfl, i64B_of w1, i64B_of w2, i64B_of w3, i64B_of w0⟩
set_option maxRecDepth 100000 in
theorem dec_a3 (fuel : Nat) (cs : List Value) (x : DataW H × List MemPlace) (hl : cs.length = 3) (h : DataW.trod enc0 Tryd.prog w base spare held fuel 38 cs = some x) : ∃ a b c, cs = [.int .i64 a, .int .i64 b, .int .i64 c] := by
  match cs, hl with
  | [c0, c1, c2], _ =>
    obtain ⟨xs, m, rfl, _, _, hxl, hx⟩ := DataW.trod_array Tryd.underlying38 h
    match xs, hxl with
    | [x0, x1, x2], _ =>
      have h0 : DataW.trod enc0 Tryd.prog w base spare held m 3 [c0] = some x0 := hx 0 (by decide)
      have h1 : DataW.trod enc0 Tryd.prog w base spare held m 3 [c1] = some x1 := hx 1 (by decide)
      have h2 : DataW.trod enc0 Tryd.prog w base spare held m 3 [c2] = some x2 := hx 2 (by decide)
      obtain ⟨a, e0, _, _⟩ := DataW.trod_int Tryd.underlying3 h0
      obtain ⟨b, e1, _, _⟩ := DataW.trod_int Tryd.underlying3 h1
      obtain ⟨c, e2, _, _⟩ := DataW.trod_int Tryd.underlying3 h2
      cases e0
      cases e1
      cases e2
      exact ⟨a, b, c, rfl⟩
set_option maxRecDepth 100000 in
theorem dec_a2 (fuel : Nat) (cs : List Value) (x : DataW H × List MemPlace) (hl : cs.length = 2) (h : DataW.trod enc0 Tryd.prog w base spare held fuel 57 cs = some x) : ∃ a b, cs = [.int .i64 a, .int .i64 b] ∧ ((Lit.int .i64 a).wf = true ∧ (Lit.int .i64 b).wf = true) := by
  match cs, hl with
  | [c0, c1], _ =>
    obtain ⟨xs, m, rfl, _, _, hxl, hx⟩ := DataW.trod_array Tryd.underlying57 h
    match xs, hxl with
    | [x0, x1], _ =>
      have h0 : DataW.trod enc0 Tryd.prog w base spare held m 3 [c0] = some x0 := hx 0 (by decide)
      have h1 : DataW.trod enc0 Tryd.prog w base spare held m 3 [c1] = some x1 := hx 1 (by decide)
      obtain ⟨a, e0, _, w0⟩ := DataW.trod_int Tryd.underlying3 h0
      obtain ⟨b, e1, _, w1⟩ := DataW.trod_int Tryd.underlying3 h1
      cases e0
      cases e1
      exact ⟨a, b, rfl, w0, w1⟩
end
end Go.Proofs.YtkaflgbipjppmaaDoor
