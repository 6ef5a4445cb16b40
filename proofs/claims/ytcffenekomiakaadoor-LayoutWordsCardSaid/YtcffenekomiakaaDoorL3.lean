/- LayoutSlots: a walk. -/
import Derived.Test.YtcffenekomiakaaDoorEn
namespace Go.Proofs.YtcffenekomiakaaDoor
open Go.RowKit
set_option linter.unusedVariables false
set_option linter.unusedSimpArgs false
variable {w w' : World}
def shortB (x : Lay) : Bool := decide (x.refs.length ≤ 100) && decide (x.recs.length ≤ 100)
set_option maxRecDepth 100000 in
theorem short_any (x : Lay) (A1 : Option Addr) (c1 : Nat) (A2 : Option Addr) (c2 : Nat) (w : World) : Calls Tryd.prog 5 #[layV x A1 c1 A2 c2] w fun e w' => e = .returned (.bool (shortB x)) ∧ Below w.heap.size w w' := by
  unfold layV shortB
  generalize x.refs.length = n1
  generalize x.recs.length = n2
  by_cases h1 : n1 ≤ 100
  · by_cases h2 : n2 ≤ 100
    · have d1 : decide ((n1 : Int) ≤ 100) = true := decide_eq_true (by omega)
      have d2 : decide ((n2 : Int) ≤ 100) = true := decide_eq_true (by omega)
      rw [decide_eq_true h1, decide_eq_true h2]
      clear h1 h2
      go_enter Tryd.func5, Tryd.ntmps5
      go_wp2
      go_ret
      exact ⟨rfl, below1 _ _⟩
    · have d1 : decide ((n1 : Int) ≤ 100) = true := decide_eq_true (by omega)
      have d2 : decide ((n2 : Int) ≤ 100) = false := decide_eq_false (by omega)
      rw [decide_eq_true h1, decide_eq_false h2]
      clear h1 h2
      go_enter Tryd.func5, Tryd.ntmps5
      go_wp2
      go_ret
      exact ⟨rfl, below1 _ _⟩
  · have d1 : decide ((n1 : Int) ≤ 100) = false := decide_eq_false (by omega)
    rw [decide_eq_false h1]
    clear h1
    go_enter Tryd.func5, Tryd.ntmps5
    go_wp2
    go_ret
    exact ⟨rfl, below1 _ _⟩
end Go.Proofs.YtcffenekomiakaaDoor
