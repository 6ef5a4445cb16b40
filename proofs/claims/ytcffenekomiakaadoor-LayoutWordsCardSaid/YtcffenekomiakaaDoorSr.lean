/- The document's slots: a walk. -/
import Derived.Maps.AppendAt
import Derived.Deep.AppendLies
import Derived.Test.YtcffenekomiakaaDoorIr
namespace Go.Proofs.YtcffenekomiakaaDoor
open Go.RowKit
set_option linter.unusedVariables false
set_option linter.unusedSimpArgs false
variable {w w' : World}
theorem infoInt : (Tryd.prog.info? 3).map (fun i => (i.zero, i.size, i.bytes)) = some (some (.int .i64 0), 1, 8) := by kernel_rfl
def SlotsPost (l : List Int) (w : World) (e : Ending) (W' : World) : Prop := ∃ v, e = .returned v ∧ Ints W' v l ∧ Below w.heap.size w W'
end Go.Proofs.YtcffenekomiakaaDoor
