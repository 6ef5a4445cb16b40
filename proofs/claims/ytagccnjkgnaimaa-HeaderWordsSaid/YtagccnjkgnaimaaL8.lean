/- HeaderWords: the walk. -/
import Derived.Test.YtagccnjkgnaimaaH3
namespace Go.Proofs.Ytagccnjkgnaimaa
open Go.RowKit Go.Proofs.YtagccnjkgnaimaaW.PrintWords
set_option linter.unusedVariables false
set_option linter.unusedSimpArgs false
theorem dec_err (x : Int) : (decOK x = true ∧ (decI x).2.2.2 = 0) ∨ (decOK x = false ∧ (decI x).2.2.2 = 4) := by
  unfold decI
  by_cases h : decOK x = true
  · left; rw [if_pos h]; exact ⟨h, rfl⟩
  · right; rw [if_neg h]; exact ⟨Bool.eq_false_iff.2 h, rfl⟩
set_option maxHeartbeats 1000000 in
theorem hwords_walk (l c s x : Int) (w : World) (hx0 : 0 ≤ x) (hx1 : x < 18446744073709551616) :
    Calls Try.prog 12 #[.agg #[.int .i64 l, .int .i64 c, .int .i64 s], .int .u64 x] w fun e w' => e = .returned (.bool true) ∧ Below w.heap.size w w' := by
  have HDE := Lib.hid (dec_err x)
  by_cases hm : mayB l c s = true
  · have HM := Lib.hid hm
    clear hm
    go_enter Try.func12, Try.ntmps12
    go_wp2_with fail
    refine (encode_yes l c s _ HM.out).mono ?_
    rintro e w1 ⟨rfl, hbx⟩
    have d0 : w1.cell? ⟨w.heap.size, 0, none⟩ = some (.int .i64 l) := cell_on hbx (by go_simp); have d1 : w1.cell? ⟨w.heap.size, 1, none⟩ = some (.int .i64 c) := cell_on hbx (by go_simp); have d2 : w1.cell? ⟨w.heap.size, 2, none⟩ = some (.int .i64 s) := cell_on hbx (by go_simp)
    have B1 := (below1 w _).on hbx
    clear hbx
    go_wp2_with fail
    refine (refmay_any l c s _).mono ?_
    rintro e w2 ⟨rfl, hbx⟩
    replace d0 := cell_on hbx d0; replace d1 := cell_on hbx d1; replace d2 := cell_on hbx d2
    replace B1 := B1.on hbx
    clear hbx
    rw [HM.out]
    go_wp2_with fail
    refine (refenc_any l c s _ HM.out).mono ?_
    rintro e w3 ⟨rfl, hbx⟩
    replace d0 := cell_on hbx d0; replace d1 := cell_on hbx d1; replace d2 := cell_on hbx d2
    replace B1 := B1.on hbx
    clear hbx
    go_wp2_with fail
    refine (decode_any x _ hx0 hx1).mono ?_
    rintro e w4 ⟨rfl, hbx⟩
    replace B1 := B1.on hbx
    clear hbx d0 d1 d2
    go_wp2_with fail
    refine (refdecode_any x _ hx0 hx1).mono ?_
    rintro e w5 ⟨rfl, hbx⟩
    have hde := HDE.out
    generalize hdd : decI x = dd at hde hbx ⊢
    generalize hok : decOK x = ok at hde ⊢
    obtain ⟨y0, y1, y2, y3⟩ := dd
    clear hdd hok HDE
    have f0 : w5.cell? ⟨w4.heap.size, 0, none⟩ = some (.int .i64 y0) := cell_on hbx (by go_simp); have f1 : w5.cell? ⟨w4.heap.size, 1, none⟩ = some (.int .i64 y1) := cell_on hbx (by go_simp); have f2 : w5.cell? ⟨w4.heap.size, 2, none⟩ = some (.int .i64 y2) := cell_on hbx (by go_simp)
    replace B1 := (B1.on (below1 _ _)).on hbx
    clear hbx
    simp only at hde
    rcases hde with ⟨rfl, rfl⟩ | ⟨rfl, rfl⟩
    all_goals
      go_wp2_with fail
      refine (alive5law_any _).mono ?_
      rintro e w6 ⟨rfl, hbx⟩
      have e0 : w6.cell? ⟨w5.heap.size, 0, none⟩ = some (.int .i64 y0) := cell_on hbx (by go_simp); have e1 : w6.cell? ⟨w5.heap.size, 1, none⟩ = some (.int .i64 y1) := cell_on hbx (by go_simp); have e2 : w6.cell? ⟨w5.heap.size, 2, none⟩ = some (.int .i64 y2) := cell_on hbx (by go_simp)
      have bz := below1 w5 (.cells #[.int .i64 y0, .int .i64 y1, .int .i64 y2] 55)
      replace f0 := cell_on hbx (cell_on bz f0); replace f1 := cell_on hbx (cell_on bz f1); replace f2 := cell_on hbx (cell_on bz f2)
      replace B1 := (B1.on bz).on hbx
      clear hbx bz
      go_wp2
      go_ret
      exact ⟨rfl, B1⟩
  · have HM := Lib.hid (Bool.eq_false_iff.2 hm)
    clear hm
    go_enter Try.func12, Try.ntmps12
    go_wp2_with fail
    refine (encode_no l c s _ HM.out).mono ?_
    rintro e w1 ⟨rfl, hbx⟩
    have d0 : w1.cell? ⟨w.heap.size, 0, none⟩ = some (.int .i64 l) := cell_on hbx (by go_simp); have d1 : w1.cell? ⟨w.heap.size, 1, none⟩ = some (.int .i64 c) := cell_on hbx (by go_simp); have d2 : w1.cell? ⟨w.heap.size, 2, none⟩ = some (.int .i64 s) := cell_on hbx (by go_simp)
    have B1 := (below1 w _).on hbx
    clear hbx
    go_wp2_with fail
    refine (refmay_any l c s _).mono ?_
    rintro e w2 ⟨rfl, hbx⟩
    replace d0 := cell_on hbx d0; replace d1 := cell_on hbx d1; replace d2 := cell_on hbx d2
    replace B1 := B1.on hbx
    clear hbx
    rw [HM.out]
    go_wp2_with fail
    refine (decode_any x _ hx0 hx1).mono ?_
    rintro e w4 ⟨rfl, hbx⟩
    replace B1 := B1.on hbx
    clear hbx d0 d1 d2
    go_wp2_with fail
    refine (refdecode_any x _ hx0 hx1).mono ?_
    rintro e w5 ⟨rfl, hbx⟩
    have hde := HDE.out
    generalize hdd : decI x = dd at hde hbx ⊢
    generalize hok : decOK x = ok at hde ⊢
    obtain ⟨y0, y1, y2, y3⟩ := dd
    clear hdd hok HDE
    have f0 : w5.cell? ⟨w4.heap.size, 0, none⟩ = some (.int .i64 y0) := cell_on hbx (by go_simp); have f1 : w5.cell? ⟨w4.heap.size, 1, none⟩ = some (.int .i64 y1) := cell_on hbx (by go_simp); have f2 : w5.cell? ⟨w4.heap.size, 2, none⟩ = some (.int .i64 y2) := cell_on hbx (by go_simp)
    replace B1 := (B1.on (below1 _ _)).on hbx
    clear hbx
    simp only at hde
    rcases hde with ⟨rfl, rfl⟩ | ⟨rfl, rfl⟩
    all_goals
      go_wp2_with fail
      refine (alive5law_any _).mono ?_
      rintro e w6 ⟨rfl, hbx⟩
      have e0 : w6.cell? ⟨w5.heap.size, 0, none⟩ = some (.int .i64 y0) := cell_on hbx (by go_simp); have e1 : w6.cell? ⟨w5.heap.size, 1, none⟩ = some (.int .i64 y1) := cell_on hbx (by go_simp); have e2 : w6.cell? ⟨w5.heap.size, 2, none⟩ = some (.int .i64 y2) := cell_on hbx (by go_simp)
      have bz := below1 w5 (.cells #[.int .i64 y0, .int .i64 y1, .int .i64 y2] 55)
      replace f0 := cell_on hbx (cell_on bz f0); replace f1 := cell_on hbx (cell_on bz f1); replace f2 := cell_on hbx (cell_on bz f2)
      replace B1 := (B1.on bz).on hbx
      clear hbx bz
      go_wp2
      go_ret
      exact ⟨rfl, B1⟩
end Go.Proofs.Ytagccnjkgnaimaa
