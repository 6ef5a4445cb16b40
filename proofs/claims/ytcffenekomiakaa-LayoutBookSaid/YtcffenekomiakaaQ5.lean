/- What a slice of layouts reads as. -/
import Derived.Test.YtcffenekomiakaaQ4
import Derived.Test.YtcffenekomiakaaBa
namespace Go.Proofs.Ytcffenekomiakaa
open Go.RowKit Go.ChangeShapes Go.WideShapes Go.ChangeAt
set_option linter.unusedVariables false
section
variable {H : Type} {enc0 : TypeId × Value → H} {w : World} {base : Nat} {spare : Nat → Bool} {held : Bool}
theorem dec_layR (fuel : Nat) (cs : List Value) (x : DataW H × List MemPlace) (hl : cs.length = 4) (h : DataW.trod enc0 Try.prog w base spare held fuel 24 cs = some x) : ∃ a : LayR, cs = layREnc a ∧ LayIs w a.x a.A1 a.c1 a.A2 a.c2 := by
  obtain ⟨y, A1, c1, A2, c2, he, hL⟩ := dec_lay fuel cs x hl h
  exact ⟨⟨y, A1, c1, A2, c2⟩, he, hL⟩
end
end Go.Proofs.Ytcffenekomiakaa
