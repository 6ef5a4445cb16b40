/- What slices of words read as. -/
import Derived.Test.YtcffenekomiakaaDoorQ4
import Derived.Test.YtcffenekomiakaaDoorU
import Derived.OpenShut
import Derived.ChangeSame
import Derived.ChangeArms
import Derived.ProofKit
namespace Go.Proofs.YtcffenekomiakaaDoor
open Go.RowKit Go.ChangeShapes Go.WideShapes Go.ChangeAt
set_option linter.unusedVariables false
section
variable {H : Type} {enc0 : TypeId × Value → H} {w : World} {base : Nat} {spare : Nat → Bool} {held : Bool}
theorem dec_u64 (fuel : Nat) (cs : List Value) (x : DataW H × List MemPlace) (hl : cs.length = 1) (h : DataW.trod enc0 Tryd.prog w base spare held fuel 32 cs = some x) : ∃ a, cs = enc1 .u64 a ∧ (0 ≤ a ∧ a < 18446744073709551616) := by
  obtain ⟨n, rfl, _, hw⟩ := DataW.trod_int Tryd.underlying32 h
  refine ⟨n, rfl, ?_⟩
  simp [Lit.wf, IntKind.min, IntKind.max, IntKind.bits, IntKind.signed] at hw
  omega
end
end Go.Proofs.YtcffenekomiakaaDoor
