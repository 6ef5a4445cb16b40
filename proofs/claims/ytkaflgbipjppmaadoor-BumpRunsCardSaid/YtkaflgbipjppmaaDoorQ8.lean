/- What the arguments of the laws of store and bump read as. -/
import Derived.Test.YtkaflgbipjppmaaDoorBw
import Derived.OpenShut
import Derived.ChangeSame
import Derived.ChangeArms
import Derived.ProofKit
import Derived.Lib.SmallJoins
namespace Go.Proofs.YtkaflgbipjppmaaDoor
open Go.RowKit Go.ChangeShapes Go.WideShapes Go.ChangeAt Go.Joins
set_option linter.unusedVariables false
section
variable {H : Type} {enc0 : TypeId × Value → H} {w : World} {base : Nat} {spare : Nat → Bool} {held : Bool}
theorem dec_one (fuel : Nat) (cs : List Value) (x : DataW H × List MemPlace) (hl : cs.length = 1) (h : DataW.trod enc0 Tryd.prog w base spare held fuel 3 cs = some x) : ∃ a : Int, cs = [.int .i64 a] ∧ True := by
  obtain ⟨n, rfl, _, hw⟩ := DataW.trod_int Tryd.underlying3 h
  exact ⟨n, rfl, trivial⟩
end
end Go.Proofs.YtkaflgbipjppmaaDoor
