/- HeaderRefs: the walk. -/
import Derived.Test.YtagccnjkgnaimaaH3
namespace Go.Proofs.Ytagccnjkgnaimaa
open Go.RowKit Go.Proofs.YtagccnjkgnaimaaW.PrintWords
set_option linter.unusedVariables false
set_option linter.unusedSimpArgs false
theorem hrefs_walk (i g : Int) (w : World) :
    Calls Try.prog 11 #[.agg #[.int .i64 i, .int .i64 g]] w fun e w' => e = .returned (.bool true) ∧ Below w.heap.size w w' := by
  by_cases ha : aliveB i g = true
  · have HM := Lib.hid ha
    obtain ⟨h1, h2, h3, h4⟩ := aliveB_iff.1 ha
    have hgt : 1 < g * 4294967296 + i + 2 := by omega
    generalize hz : g * 4294967296 + i + 2 = z at hgt
    have HZ := Lib.hid hz
    clear ha hz h1 h2 h3 h4
    go_enter Try.func11, Try.ntmps11
    go_wp2_with fail
    refine (word_null _).mono ?_
    rintro e w1 ⟨rfl, hbx⟩
    have d0 : w1.cell? ⟨w.heap.size, 0, none⟩ = some (.int .i64 i) := cell_on hbx (by go_simp); have d1 : w1.cell? ⟨w.heap.size, 1, none⟩ = some (.int .i64 g) := cell_on hbx (by go_simp)
    have B1 := (below1 w _).on hbx
    clear hbx
    go_wp2_with fail
    refine (word_tomb _).mono ?_
    rintro e w2 ⟨rfl, hbx⟩
    replace d0 := cell_on hbx d0; replace d1 := cell_on hbx d1
    replace B1 := B1.on hbx
    clear hbx
    go_wp2_with fail
    refine (word_alive i g _ HM.out).mono ?_
    rintro e w3 ⟨rfl, hbx⟩
    replace B1 := B1.on hbx
    clear hbx
    rw [HZ.out]
    go_wp2_with fail
    refine (alive5law_any _).mono ?_
    rintro e w4 ⟨rfl, hbx⟩
    replace B1 := B1.on hbx
    clear hbx
    go_wp2
    go_ret
    exact ⟨rfl, B1⟩
  · have HM := Lib.hid (Bool.eq_false_iff.2 ha)
    clear ha
    go_enter Try.func11, Try.ntmps11
    go_wp2_with fail
    refine (word_null _).mono ?_
    rintro e w1 ⟨rfl, hbx⟩
    have d0 : w1.cell? ⟨w.heap.size, 0, none⟩ = some (.int .i64 i) := cell_on hbx (by go_simp); have d1 : w1.cell? ⟨w.heap.size, 1, none⟩ = some (.int .i64 g) := cell_on hbx (by go_simp)
    have B1 := (below1 w _).on hbx
    clear hbx
    go_wp2_with fail
    refine (word_tomb _).mono ?_
    rintro e w2 ⟨rfl, hbx⟩
    replace d0 := cell_on hbx d0; replace d1 := cell_on hbx d1
    replace B1 := B1.on hbx
    clear hbx
    go_wp2_with fail
    refine (word_dead i g _ HM.out).mono ?_
    rintro e w3 ⟨rfl, hbx⟩
    replace B1 := B1.on hbx
    clear hbx
    go_wp2_with fail
    refine (alive5law_any _).mono ?_
    rintro e w4 ⟨rfl, hbx⟩
    replace B1 := B1.on hbx
    clear hbx
    go_wp2
    go_ret
    exact ⟨rfl, B1⟩
end Go.Proofs.Ytagccnjkgnaimaa
