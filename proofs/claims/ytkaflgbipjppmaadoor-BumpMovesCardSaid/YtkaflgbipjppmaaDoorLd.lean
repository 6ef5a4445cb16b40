/- The laid table: what the row's condition gives the walks; the door's own heap meets it. -/
import Derived.Test.YtkaflgbipjppmaaDoorRows
import Derived.Test.YtkaflgbipjppmaaDoorTz
import Derived.ProofKit
import Derived.LaidMore
import Derived.OpenShut
import Derived.Stop.Joined
namespace Go.Proofs.YtkaflgbipjppmaaDoor
open Go.ChangeShapes Go.WideShapes Go.ChangeAt Go.WideMaps Go.WideElems Go.RowKit
set_option linter.unusedVariables false
abbrev laid1 {H : Type} : List (String × DataW H) := [("math/bits.deBruijn64tab", Rows.laid_math_bits_deBruijn64tab)]
theorem own : ownKnob Tryd.prog.godebug = none := by kernel_rfl
theorem laidOut : laidOutB Tryd.prog = true := by kernel_rfl
theorem gTab : Tryd.prog.globalNamed "math/bits.deBruijn64tab" = some 0 := by kernel_rfl
theorem tTab : (Tryd.prog.globals[0]?).map (·.type) = some 129 := by kernel_rfl
theorem door_met (os : Os) (args : Array Value) : laidMetH Tryd.prog laid1 ((World.doorLaid Tryd.prog 400 os).forCall (fun _ _ => 0) ⟨#[], args, []⟩).memory :=
  laidMetH_of_parts3 (fuel := 8) (laidMet_of_run' 8 (by kernel_rfl) (by kernel_rfl)) (by kernel_rfl) (by kernel_rfl)
theorem tab_list {H : Type} : (Rows.laid_math_bits_deBruijn64tab : DataW H) = .agg (Lib.deBruijn64tab.map fun n => .lit (.int .u8 (n : Nat))) := by rfl
theorem tab_of_laid {W : World} (h : laidMetH Tryd.prog laid1 W) : Tab W := by
  rw [MakeChecks.laidMetH_plain _ _ _ (by kernel_rfl)] at h
  obtain ⟨ps, ⟨g0, t0, cs0, f0, p0, q0, hg0, ht0, hv0, hd0, _⟩, _, _⟩ := h
  obtain rfl := Option.some.inj (gTab.symm.trans hg0)
  obtain rfl := Option.some.inj (tTab.symm.trans ht0)
  obtain ⟨xs, m1, rfl, hx1, hlen, hn3, hel⟩ := DataW.trod_array Tryd.underlying129 hd0
  have c3 : Tryd.prog.cellsOf 5 = 1 := by kernel_rfl
  have hl64 : Lib.deBruijn64tab.length = 64 := by decide
  rw [tab_list] at hx1
  simp only [Prod.mk.injEq, DataW.agg.injEq] at hx1
  intro j hj
  have h0 := hel j (by omega)
  have hjx : j < xs.length := by omega
  rw [List.getElem?_eq_getElem hjx] at h0
  obtain ⟨k, e1, e2, _⟩ := DataW.trod_int Tryd.underlying5 h0
  have hk : k = ((Lib.deBruijn64tab.getD j 0 : Nat) : Int) := by
    have h2 := congrArg (fun l => l[j]?) hx1.1
    simp only [List.getElem?_map, List.getElem?_eq_getElem hjx, List.getElem?_eq_getElem hj, Option.map_some, Option.some.injEq] at h2
    rw [e2] at h2
    simp only [DataW.lit.injEq, Lit.int.injEq, true_and] at h2
    rw [← h2]; simp [List.getD, hj]
  subst hk
  have hv := World.var?_cell hg0 hv0 j
  rw [hv]
  rw [c3, Nat.mul_one] at e1
  have h3 := congrArg (fun l => l[0]?) e1
  simp only [List.getElem?_take, List.getElem?_drop, Nat.add_zero] at h3
  simpa using h3
end Go.Proofs.YtkaflgbipjppmaaDoor
