/- What the arguments of the header laws read as. -/
import Derived.Test.YtagccnjkgnaimaaK
import Derived.Test.YtagccnjkgnaimaaProg
import Derived.OpenShut
import Derived.ChangeSame
import Derived.ChangeArms
import Derived.ProofKit
namespace Go.Proofs.Ytagccnjkgnaimaa
open Go.RowKit Go.ChangeShapes Go.WideShapes Go.ChangeAt
set_option linter.unusedVariables false
section
variable {H : Type} {enc0 : TypeId × Value → H} {w : World} {base : Nat} {spare : Nat → Bool} {held : Bool}
theorem dec60 (fuel : Nat) (cs : List Value) (x : DataW H × List MemPlace) (hl : cs.length = 2) (h : DataW.trod enc0 Try.prog w base spare held fuel 60 cs = some x) : ∃ a b, cs = [.int .i64 a, .int .i64 b] := by
  match cs, hl with
  | [c0, c1], _ =>
    obtain ⟨y0, y1, n, _, _, h0, h1⟩ := trod_struct2 Try.underlying60 h
    obtain ⟨a, e0, _, _⟩ := DataW.trod_int Try.underlying3 h0
    obtain ⟨b, e1, _, _⟩ := DataW.trod_int Try.underlying3 h1
    have e0' : [c0] = [Value.int .i64 a] := e0
    have e1' : [c1] = [Value.int .i64 b] := e1
    cases e0'
    cases e1'
    exact ⟨a, b, rfl⟩
theorem dec63 (fuel : Nat) (cs : List Value) (x : DataW H × List MemPlace) (hl : cs.length = 3) (h : DataW.trod enc0 Try.prog w base spare held fuel 63 cs = some x) : ∃ a b c, cs = [.int .i64 a, .int .i64 b, .int .i64 c] := by
  match cs, hl with
  | [c0, c1, c2], _ =>
    obtain ⟨y0, y1, n, _, _, h0, h1⟩ := trod_struct2 Try.underlying63 h
    obtain ⟨a, e0, _, _⟩ := DataW.trod_int Try.underlying3 h0
    have e0' : [c0] = [Value.int .i64 a] := e0
    have h1' : DataW.trod enc0 Try.prog w base spare held n 60 [c1, c2] = some y1 := h1
    obtain ⟨b, c, e1⟩ := dec60 _ _ _ rfl h1'
    cases e0'
    cases e1
    exact ⟨a, b, c, rfl⟩
theorem dec78 (fuel : Nat) (cs : List Value) (x : DataW H × List MemPlace) (hl : cs.length = 6) (h : DataW.trod enc0 Try.prog w base spare held fuel 78 cs = some x) : ∃ a b c d e f, cs = [.int .i64 a, .int .i64 b, .int .i64 c, .int .i64 d, .int .i64 e, .int .i64 f] := by
  match cs, hl with
  | [c0, c1, c2, c3, c4, c5], _ =>
    obtain ⟨xs, m, rfl, _, _, hxl, hx⟩ := DataW.trod_array Try.underlying78 h
    match xs, hxl with
    | [x0, x1], _ =>
      have h0 : DataW.trod enc0 Try.prog w base spare held m 63 [c0, c1, c2] = some x0 := hx 0 (by decide)
      have h1 : DataW.trod enc0 Try.prog w base spare held m 63 [c3, c4, c5] = some x1 := hx 1 (by decide)
      obtain ⟨a, b, c, e0⟩ := dec63 _ _ _ rfl h0
      obtain ⟨d, e, f, e1⟩ := dec63 _ _ _ rfl h1
      cases e0
      cases e1
      exact ⟨a, b, c, d, e, f, rfl⟩
end
end Go.Proofs.Ytagccnjkgnaimaa
