/- What the arguments of the field laws read as. -/
import Derived.Test.YtagccnjkgnaimaaE2
import Derived.Test.YtagccnjkgnaimaaO
import Derived.OpenShut
import Derived.ChangeSame
import Derived.ChangeArms
import Derived.ProofKit
namespace Go.Proofs.Ytagccnjkgnaimaa
open Go.RowKit Go.ChangeShapes Go.WideShapes Go.ChangeAt
set_option linter.unusedVariables false
section
variable {H : Type} {enc0 : TypeId × Value → H} {w : World} {base : Nat} {spare : Nat → Bool} {held : Bool}
theorem dec_int {P : Program} {t : TypeId} {k : IntKind} (ht : P.underlying t = some (.int k)) (fuel : Nat) (cs : List Value) (x : DataW H × List MemPlace) (hl : cs.length = 1) (h : DataW.trod enc0 P w base spare held fuel t cs = some x) : ∃ a, cs = [.int k a] ∧ (Lit.int k a).wf = true := by
  obtain ⟨n, rfl, _, hw⟩ := DataW.trod_int ht h
  exact ⟨n, rfl, hw⟩
theorem dec24 (fuel : Nat) (cs : List Value) (x : DataW H × List MemPlace) (hl : cs.length = 2) (h : DataW.trod enc0 Try.prog w base spare held fuel 24 cs = some x) : ∃ a, cs = enc2 a ∧ ((Lit.int .i64 a.1).wf = true ∧ (Lit.int .i64 a.2).wf = true) := by
  match cs, hl with
  | [c0, c1], _ =>
    obtain ⟨y0, y1, n, _, _, h0, h1⟩ := trod_struct2 Try.underlying24 h
    obtain ⟨a, e0, _, w0⟩ := DataW.trod_int Try.underlying3 h0
    obtain ⟨b, e1, _, w1⟩ := DataW.trod_int Try.underlying3 h1
    have e0' : [c0] = [Value.int .i64 a] := e0
    have e1' : [c1] = [Value.int .i64 b] := e1
    cases e0'
    cases e1'
    exact ⟨(a, b), rfl, w0, w1⟩
theorem dec46 (fuel : Nat) (cs : List Value) (x : DataW H × List MemPlace) (hl : cs.length = 2) (h : DataW.trod enc0 Try.prog w base spare held fuel 46 cs = some x) : ∃ a b, cs = [.int .u64 a, .int .u64 b] ∧ ((Lit.int .u64 a).wf = true ∧ (Lit.int .u64 b).wf = true) := by
  match cs, hl with
  | [c0, c1], _ =>
    obtain ⟨xs, m, rfl, _, _, hxl, hx⟩ := DataW.trod_array Try.underlying46 h
    match xs, hxl with
    | [x0, x1], _ =>
      have h0 : DataW.trod enc0 Try.prog w base spare held m 22 [c0] = some x0 := hx 0 (by decide)
      have h1 : DataW.trod enc0 Try.prog w base spare held m 22 [c1] = some x1 := hx 1 (by decide)
      obtain ⟨a, e0, _, w0⟩ := DataW.trod_int Try.underlying22 h0
      obtain ⟨b, e1, _, w1⟩ := DataW.trod_int Try.underlying22 h1
      cases e0
      cases e1
      exact ⟨a, b, rfl, w0, w1⟩
end
end Go.Proofs.Ytagccnjkgnaimaa
