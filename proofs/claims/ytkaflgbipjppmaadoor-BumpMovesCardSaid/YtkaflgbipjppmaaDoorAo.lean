/- The bitmap's All as it is called; slices of numbers that a call made. -/
import Derived.Test.YtkaflgbipjppmaaDoorBg
namespace Go.Proofs.YtkaflgbipjppmaaDoor
open Go.RowKit Go.Shelf
set_option linter.unusedVariables false
set_option linter.unusedSimpArgs false
attribute [local go_sem] Oper.semAt_some
variable {w : World} {p q : Nat} {bits : List Bool} {ws : List Nat} {T T' : TypeId}
theorem infoInt : (Tryd.prog.info? 3).map (fun i => (i.zero, i.size, i.bytes)) = some (some (.int .i64 0), 1, 8) := by kernel_rfl
def intV (x : Nat) : Value := .int .i64 x
def AllPost (l : List Nat) (w : World) (e : Ending) (W' : World) : Prop := ∃ v, e = .returned v ∧ W'.ownsRow w.heap.size 3 1 v l.length (l.map intV) ∧ (v = .slice none 0 0 ↔ l = []) ∧ Below w.heap.size w W'
set_option maxHeartbeats 1000000 in
theorem all_in (n : Nat) (m : Option Addr) (w : World) : CallsIn Fence.wide n Tryd.prog 60 #[.pointer m] w fun e w' => e = .returned (.func (.func 80) #[] #[.pointer (some ⟨w.heap.size, 0, none⟩)]) ∧ w' = w.alloc (.cells #[.pointer m] 94) := by
  refine callsIn_of_wp Tryd.func60 rfl trivial ?_ rfl
  simp only [Tryd.ntmps60, List.size_toArray, List.length_cons, List.length_nil, Nat.reduceAdd, Nat.reduceSub, Array.replicate_succ, Array.replicate_zero, List.push_toArray, List.append_toArray, List.nil_append, List.cons_append]
  gi_wp2
  go_ret
  exact ⟨rfl, rfl⟩
end Go.Proofs.YtkaflgbipjppmaaDoor
