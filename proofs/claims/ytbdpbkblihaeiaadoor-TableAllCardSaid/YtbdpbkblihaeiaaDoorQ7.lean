/- What the arguments of the table laws read as. -/
import Derived.Test.YtbdpbkblihaeiaaDoorTg
import Derived.OpenShut
import Derived.ChangeSame
import Derived.ChangeArms
import Derived.ProofKit
import Derived.Lib.SmallJoins
namespace Go.Proofs.YtbdpbkblihaeiaaDoor
open Go.RowKit Go.ChangeShapes Go.WideShapes Go.ChangeAt Go.Joins
set_option linter.unusedVariables false
section
variable {H : Type} {enc0 : TypeId × Value → H} {w : World} {base : Nat} {spare : Nat → Bool} {held : Bool}
set_option maxRecDepth 100000 in
theorem dec_ent (fuel : Nat) (cs : List Value) (x : DataW H × List MemPlace) (hl : cs.length = 4) (h : DataW.trod enc0 Tryd.prog w base spare held fuel 51 cs = some x) : ∃ a b c d, cs = [.int .i64 a, .int .i64 b, .bool c, .bool d] := by
  match cs, hl with
  | [c0, c1, c2, c3], _ =>
    obtain ⟨y0, y1, y2, y3, n, _, _, h0, h1, h2, h3⟩ := trod_struct4 Tryd.underlying51 h
    obtain ⟨a, e0, _, w0⟩ := DataW.trod_int Tryd.underlying3 h0
    obtain ⟨b, e1, _, w1⟩ := DataW.trod_int Tryd.underlying3 h1
    obtain ⟨c, e2, _⟩ := DataW.trod_bool Tryd.underlying4 h2
    obtain ⟨d, e3, _⟩ := DataW.trod_bool Tryd.underlying4 h3
    have e0' : [c0] = [Value.int .i64 a] := e0
    have e1' : [c1] = [Value.int .i64 b] := e1
    have e2' : [c2] = [Value.bool c] := e2
    have e3' : [c3] = [Value.bool d] := e3
    cases e0'
    cases e1'
    cases e2'
    cases e3'
    exact ⟨a, b, c, d, rfl⟩
set_option maxRecDepth 100000 in
theorem dec_tok (fuel : Nat) (cs : List Value) (x : DataW H × List MemPlace) (hl : cs.length = 2) (h : DataW.trod enc0 Tryd.prog w base spare held fuel 57 cs = some x) : ∃ a b, cs = [.int .i64 a, .int .i64 b] := by
  match cs, hl with
  | [c0, c1], _ =>
    obtain ⟨y0, y1, n, _, _, h0, h1⟩ := trod_struct2 Tryd.underlying57 h
    obtain ⟨a, e0, _, w0⟩ := DataW.trod_int Tryd.underlying3 h0
    obtain ⟨b, e1, _, w1⟩ := DataW.trod_int Tryd.underlying3 h1
    have e0' : [c0] = [Value.int .i64 a] := e0
    have e1' : [c1] = [Value.int .i64 b] := e1
    cases e0'
    cases e1'
    exact ⟨a, b, rfl⟩
set_option maxRecDepth 100000 in
theorem dec_act7 (fuel : Nat) (cs : List Value) (x : DataW H × List MemPlace) (hl : cs.length = 9) (h : DataW.trod enc0 Tryd.prog w base spare held fuel 70 cs = some x) : ∃ a, cs = act7Enc a ∧ True := by
  match cs, hl with
  | [c0, c1, c2, c3, c4, c5, c6, c7, c8], _ =>
    obtain ⟨xs, n, _, _, _, hlen, hf⟩ := DataW.trod_struct Tryd.underlying70 h
    match xs, hlen with
    | [y0, y1, y2, y3, y4], _ =>
      have h0 : DataW.trod enc0 Tryd.prog w base spare held n 3 [c0] = some y0 := hf 0 _ rfl
      have h1 : DataW.trod enc0 Tryd.prog w base spare held n 3 [c1] = some y1 := hf 1 _ rfl
      have h2 : DataW.trod enc0 Tryd.prog w base spare held n 4 [c2] = some y2 := hf 2 _ rfl
      have h3 : DataW.trod enc0 Tryd.prog w base spare held n 57 [c3, c4] = some y3 := hf 3 _ rfl
      have h4 : DataW.trod enc0 Tryd.prog w base spare held n 51 [c5, c6, c7, c8] = some y4 := hf 4 _ rfl
      obtain ⟨a, e0, _, _⟩ := DataW.trod_int Tryd.underlying3 h0
      obtain ⟨b, e1, _, _⟩ := DataW.trod_int Tryd.underlying3 h1
      obtain ⟨c, e2, _⟩ := DataW.trod_bool Tryd.underlying4 h2
      obtain ⟨t1, t2, e3⟩ := dec_tok _ _ _ rfl h3
      obtain ⟨a1, a2, a3, a4, e4⟩ := dec_ent _ _ _ rfl h4
      cases e0
      cases e1
      cases e2
      cases e3
      cases e4
      exact ⟨⟨a, b, c, t1, t2, ⟨a1, a2, a3, a4⟩⟩, rfl, trivial⟩
end
end Go.Proofs.YtbdpbkblihaeiaaDoor
