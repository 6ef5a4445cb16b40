/- What the arguments of the layout laws read as. -/
import Derived.Test.YtcffenekomiakaaSz
import Derived.OpenShut
import Derived.ChangeSame
import Derived.ChangeArms
import Derived.ProofKit
import Derived.Lib.SmallJoins
namespace Go.Proofs.Ytcffenekomiakaa
open Go.RowKit Go.ChangeShapes Go.WideShapes Go.ChangeAt Go.Joins
set_option linter.unusedVariables false
section
variable {H : Type} {enc0 : TypeId × Value → H} {w : World} {base : Nat} {spare : Nat → Bool} {held : Bool}
theorem dec_encI (fuel : Nat) (cs : List Value) (x : DataW H × List MemPlace) (hl : cs.length = 1) (h : DataW.trod enc0 Try.prog w base spare held fuel 3 cs = some x) : ∃ a, cs = encI a ∧ True := by
  obtain ⟨n, rfl, _, hw⟩ := DataW.trod_int Try.underlying3 h
  exact ⟨n, rfl, trivial⟩
theorem dec_ints (fuel : Nat) (c : Value) (x : DataW H × List MemPlace) (h : DataW.trod enc0 Try.prog w base spare held fuel 22 [c] = some x) : ∃ (l : List Int) (A : Option Addr) (n : Nat), c = .slice A l.length n ∧ l.length ≤ n ∧ l.length ≤ maxLen ∧ SliceOf w A 1 encI 0 l := by
  have key : ∀ (A : Option Addr) (len cap : Nat), c = .slice A len cap → ∃ (l : List Int) (A : Option Addr) (n : Nat), c = .slice A l.length n ∧ l.length ≤ n ∧ l.length ≤ maxLen ∧ SliceOf w A 1 encI 0 l := by
    rintro A len cap rfl
    obtain ⟨l, rfl, h1, h2, _, h3⟩ := open_sliceOf (w := w) (D := x.1) (p := x.2) encI (fun _ => True) 0 Try.underlying22 (by kernel_rfl) (by decide) (fun _ => rfl) (fun fu cs x hl h => dec_encI fu cs x hl h) ⟨fuel, h⟩
    exact ⟨l, A, cap, rfl, h1, h2, h3⟩
  rcases Deep.open_slice Try.underlying22 h with ⟨hcs, _⟩ | ⟨a, len', cap', m, n, D', Pl, hcs, _⟩
  · simp only [List.cons.injEq, and_true] at hcs
    exact key _ _ _ hcs
  · simp only [List.cons.injEq, and_true] at hcs
    exact key _ _ _ hcs
set_option maxRecDepth 100000 in
theorem dec_lay (fuel : Nat) (cs : List Value) (x : DataW H × List MemPlace) (hl : cs.length = 4) (h : DataW.trod enc0 Try.prog w base spare held fuel 24 cs = some x) : ∃ (y : Lay) (A1 : Option Addr) (c1 : Nat) (A2 : Option Addr) (c2 : Nat), cs = (layCells y A1 c1 A2 c2).toList ∧ LayIs w y A1 c1 A2 c2 := by
  match cs, hl with
  | [c0, c1, c2, c3], _ =>
    obtain ⟨y0, y1, y2, y3, n, _, _, h0, h1, h2, h3⟩ := trod_struct4 Try.underlying24 h
    obtain ⟨F, e0, _, _⟩ := DataW.trod_int Try.underlying3 h0
    obtain ⟨R, e2, _, _⟩ := DataW.trod_int Try.underlying3 h2
    obtain ⟨l1, A1, n1, rfl, p1, p2, p3⟩ := dec_ints _ _ _ h1
    obtain ⟨l2, A2, n2, rfl, q1, q2, q3⟩ := dec_ints _ _ _ h3
    have e0' : [c0] = [Value.int .i64 F] := e0
    have e2' : [c2] = [Value.int .i64 R] := e2
    cases e0'
    cases e2'
    exact ⟨⟨F, l1, R, l2⟩, A1, n1, A2, n2, rfl, ⟨p3, p1, p2, q3, q1, q2⟩⟩
end
end Go.Proofs.Ytcffenekomiakaa
