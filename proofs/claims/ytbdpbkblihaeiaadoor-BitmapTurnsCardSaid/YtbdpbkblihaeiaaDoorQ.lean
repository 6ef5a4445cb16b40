/- What the arguments of the bitmap laws read as. -/
import Derived.Test.YtbdpbkblihaeiaaDoorGr
import Derived.OpenShut
import Derived.ChangeSame
import Derived.ChangeArms
import Derived.ProofKit
import Derived.Lib.SmallJoins
namespace Go.Proofs.YtbdpbkblihaeiaaDoor
open Go.RowKit Go.ChangeShapes Go.WideShapes Go.ChangeAt Go.Joins
set_option linter.unusedVariables false
section
variable {H : Type} {enc0 : TypeId × Value → H} {w : World} {base : Nat} {spare : Nat → Bool} {held : Bool}
set_option maxRecDepth 100000 in
theorem dec_act (fuel : Nat) (cs : List Value) (x : DataW H × List MemPlace) (hl : cs.length = 4) (h : DataW.trod enc0 Tryd.prog w base spare held fuel 97 cs = some x) : ∃ a, cs = actEnc a ∧ True := by
  match cs, hl with
  | [c0, c1, c2, c3], _ =>
    obtain ⟨y0, y1, y2, y3, n, _, _, h0, h1, h2, h3⟩ := trod_struct4 Tryd.underlying97 h
    obtain ⟨a, e0, _, w0⟩ := DataW.trod_int Tryd.underlying3 h0
    obtain ⟨b, e1, _, w1⟩ := DataW.trod_int Tryd.underlying3 h1
    obtain ⟨c, e2, _, w2⟩ := DataW.trod_int Tryd.underlying3 h2
    obtain ⟨d, e3, _⟩ := DataW.trod_bool Tryd.underlying4 h3
    have e0' : [c0] = [Value.int .i64 a] := e0
    have e1' : [c1] = [Value.int .i64 b] := e1
    have e2' : [c2] = [Value.int .i64 c] := e2
    have e3' : [c3] = [Value.bool d] := e3
    cases e0'
    cases e1'
    cases e2'
    cases e3'
    exact ⟨⟨a, b, c, d⟩, rfl, trivial⟩
set_option maxRecDepth 100000 in
theorem dec_a3 (fuel : Nat) (cs : List Value) (x : DataW H × List MemPlace) (hl : cs.length = 3) (h : DataW.trod enc0 Tryd.prog w base spare held fuel 36 cs = some x) : ∃ a b c, cs = [.int .i64 a, .int .i64 b, .int .i64 c] := by
  match cs, hl with
  | [c0, c1, c2], _ =>
    obtain ⟨xs, m, rfl, _, _, hxl, hx⟩ := DataW.trod_array Tryd.underlying36 h
    match xs, hxl with
    | [x0, x1, x2], _ =>
      have h0 : DataW.trod enc0 Tryd.prog w base spare held m 3 [c0] = some x0 := hx 0 (by decide)
      have h1 : DataW.trod enc0 Tryd.prog w base spare held m 3 [c1] = some x1 := hx 1 (by decide)
      have h2 : DataW.trod enc0 Tryd.prog w base spare held m 3 [c2] = some x2 := hx 2 (by decide)
      obtain ⟨a, e0, _, _⟩ := DataW.trod_int Tryd.underlying3 h0
      obtain ⟨b, e1, _, _⟩ := DataW.trod_int Tryd.underlying3 h1
      obtain ⟨c, e2, _, _⟩ := DataW.trod_int Tryd.underlying3 h2
      cases e0
      cases e1
      cases e2
      exact ⟨a, b, c, rfl⟩
set_option maxRecDepth 100000 in
theorem dec_a2 (fuel : Nat) (cs : List Value) (x : DataW H × List MemPlace) (hl : cs.length = 2) (h : DataW.trod enc0 Tryd.prog w base spare held fuel 45 cs = some x) : ∃ a b, cs = [.int .i64 a, .int .i64 b] ∧ ((Lit.int .i64 a).wf = true ∧ (Lit.int .i64 b).wf = true) := by
  match cs, hl with
  | [c0, c1], _ =>
    obtain ⟨xs, m, rfl, _, _, hxl, hx⟩ := DataW.trod_array Tryd.underlying45 h
    match xs, hxl with
    | [x0, x1], _ =>
      have h0 : DataW.trod enc0 Tryd.prog w base spare held m 3 [c0] = some x0 := hx 0 (by decide)
      have h1 : DataW.trod enc0 Tryd.prog w base spare held m 3 [c1] = some x1 := hx 1 (by decide)
      obtain ⟨a, e0, _, w0⟩ := DataW.trod_int Tryd.underlying3 h0
      obtain ⟨b, e1, _, w1⟩ := DataW.trod_int Tryd.underlying3 h1
      cases e0
      cases e1
      exact ⟨a, b, rfl, w0, w1⟩
end
end Go.Proofs.YtbdpbkblihaeiaaDoor
