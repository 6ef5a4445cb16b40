/- HeaderApart: the walk. -/
import Derived.Test.YtagccnjkgnaimaaH4
namespace Go.Proofs.Ytagccnjkgnaimaa
open Go.RowKit Go.Proofs.YtagccnjkgnaimaaW.PrintWords
set_option linter.unusedVariables false
set_option linter.unusedSimpArgs false
set_option maxHeartbeats 1000000 in
theorem hapart_nn (l c s m d t k i g k2 i2 g2 : Int) (w : World) (hm : mayB l c s = false) (hm2 : mayB m d t = false)  :
    Calls Try.prog 14 #[.agg #[.int .i64 l, .int .i64 c, .int .i64 s], .agg #[.int .i64 m, .int .i64 d, .int .i64 t], .agg #[.int .i64 k, .int .i64 i, .int .i64 g, .int .i64 k2, .int .i64 i2, .int .i64 g2]] w fun e w' => e = .returned (.bool true) ∧ Below w.heap.size w w' := by
  have HM := Lib.hid hm
  have HM2 := Lib.hid hm2
  clear hm hm2
  go_enter Try.func14, Try.ntmps14
  go_wp2_with fail
  refine (encode_no l c s _ HM.out).mono ?_
  rintro e w1 ⟨rfl, hbx⟩
  have d0 : w1.cell? ⟨w.heap.size, 0, none⟩ = some (.int .i64 l) := cell_on hbx (by go_simp); have d1 : w1.cell? ⟨w.heap.size, 1, none⟩ = some (.int .i64 c) := cell_on hbx (by go_simp); have d2 : w1.cell? ⟨w.heap.size, 2, none⟩ = some (.int .i64 s) := cell_on hbx (by go_simp)
  have q0 : w1.cell? ⟨w.heap.size + 1, 0, none⟩ = some (.int .i64 m) := cell_on hbx (by go_simp); have q1 : w1.cell? ⟨w.heap.size + 1, 1, none⟩ = some (.int .i64 d) := cell_on hbx (by go_simp); have q2 : w1.cell? ⟨w.heap.size + 1, 2, none⟩ = some (.int .i64 t) := cell_on hbx (by go_simp)
  have z0 : w1.cell? ⟨w.heap.size + 1 + 1, 0, none⟩ = some (.int .i64 k) := cell_on hbx (by go_simp); have z1 : w1.cell? ⟨w.heap.size + 1 + 1, 1, none⟩ = some (.int .i64 i) := cell_on hbx (by go_simp); have z2 : w1.cell? ⟨w.heap.size + 1 + 1, 2, none⟩ = some (.int .i64 g) := cell_on hbx (by go_simp); have z3 : w1.cell? ⟨w.heap.size + 1 + 1, 3, none⟩ = some (.int .i64 k2) := cell_on hbx (by go_simp); have z4 : w1.cell? ⟨w.heap.size + 1 + 1, 4, none⟩ = some (.int .i64 i2) := cell_on hbx (by go_simp); have z5 : w1.cell? ⟨w.heap.size + 1 + 1, 5, none⟩ = some (.int .i64 g2) := cell_on hbx (by go_simp)
  have B1 := (((below1 w _).on (below1 _ _)).on (below1 _ _)).on hbx
  clear hbx
  go_wp2_with fail
  refine (encode_no m d t _ HM2.out).mono ?_
  rintro e w2 ⟨rfl, hbx⟩
  replace d0 := cell_on hbx d0
  replace d1 := cell_on hbx d1
  replace d2 := cell_on hbx d2
  replace q0 := cell_on hbx q0
  replace q1 := cell_on hbx q1
  replace q2 := cell_on hbx q2
  replace z0 := cell_on hbx z0
  replace z1 := cell_on hbx z1
  replace z2 := cell_on hbx z2
  replace z3 := cell_on hbx z3
  replace z4 := cell_on hbx z4
  replace z5 := cell_on hbx z5
  replace B1 := B1.on hbx
  clear hbx
  cases hk : mayLinkB k i g
  · have HK := Lib.hid hk
    clear hk
    cases hk2 : mayLinkB k2 i2 g2
    · have HK2 := Lib.hid hk2
      clear hk2
      go_wp2_with fail
      refine (word_no k i g _ HK.out).mono ?_
      rintro e w4 ⟨rfl, hbx⟩
      replace z0 := cell_on hbx z0
      replace z1 := cell_on hbx z1
      replace z2 := cell_on hbx z2
      replace z3 := cell_on hbx z3
      replace z4 := cell_on hbx z4
      replace z5 := cell_on hbx z5
      replace B1 := B1.on hbx
      clear hbx
      go_wp2_with fail
      refine (word_no k2 i2 g2 _ HK2.out).mono ?_
      rintro e w5 ⟨rfl, hbx⟩
      replace z0 := cell_on hbx z0
      replace z1 := cell_on hbx z1
      replace z2 := cell_on hbx z2
      replace z3 := cell_on hbx z3
      replace z4 := cell_on hbx z4
      replace z5 := cell_on hbx z5
      replace B1 := B1.on hbx
      clear hbx
      go_wp2_with fail
      refine (alive5law_any _).mono ?_
      rintro e w6 ⟨rfl, hbx⟩
      replace z0 := cell_on hbx z0
      replace z1 := cell_on hbx z1
      replace z2 := cell_on hbx z2
      replace z3 := cell_on hbx z3
      replace z4 := cell_on hbx z4
      replace z5 := cell_on hbx z5
      replace B1 := B1.on hbx
      clear hbx
      go_wp2
      go_ret
      exact ⟨rfl, B1⟩
    · have HK2 := Lib.hid hk2
      clear hk2
      go_wp2_with fail
      refine (word_no k i g _ HK.out).mono ?_
      rintro e w4 ⟨rfl, hbx⟩
      replace z0 := cell_on hbx z0
      replace z1 := cell_on hbx z1
      replace z2 := cell_on hbx z2
      replace z3 := cell_on hbx z3
      replace z4 := cell_on hbx z4
      replace z5 := cell_on hbx z5
      replace B1 := B1.on hbx
      clear hbx
      go_wp2_with fail
      refine (word_yes k2 i2 g2 _ HK2.out).mono ?_
      rintro e w5 ⟨rfl, hbx⟩
      replace z0 := cell_on hbx z0
      replace z1 := cell_on hbx z1
      replace z2 := cell_on hbx z2
      replace z3 := cell_on hbx z3
      replace z4 := cell_on hbx z4
      replace z5 := cell_on hbx z5
      replace B1 := B1.on hbx
      clear hbx
      go_wp2_with fail
      refine (alive5law_any _).mono ?_
      rintro e w6 ⟨rfl, hbx⟩
      replace z0 := cell_on hbx z0
      replace z1 := cell_on hbx z1
      replace z2 := cell_on hbx z2
      replace z3 := cell_on hbx z3
      replace z4 := cell_on hbx z4
      replace z5 := cell_on hbx z5
      replace B1 := B1.on hbx
      clear hbx
      go_wp2
      go_ret
      exact ⟨rfl, B1⟩
  · have HK := Lib.hid hk
    clear hk
    cases hk2 : mayLinkB k2 i2 g2
    · have HK2 := Lib.hid hk2
      clear hk2
      go_wp2_with fail
      refine (word_yes k i g _ HK.out).mono ?_
      rintro e w4 ⟨rfl, hbx⟩
      replace z0 := cell_on hbx z0
      replace z1 := cell_on hbx z1
      replace z2 := cell_on hbx z2
      replace z3 := cell_on hbx z3
      replace z4 := cell_on hbx z4
      replace z5 := cell_on hbx z5
      replace B1 := B1.on hbx
      clear hbx
      go_wp2_with fail
      refine (word_no k2 i2 g2 _ HK2.out).mono ?_
      rintro e w5 ⟨rfl, hbx⟩
      replace z0 := cell_on hbx z0
      replace z1 := cell_on hbx z1
      replace z2 := cell_on hbx z2
      replace z3 := cell_on hbx z3
      replace z4 := cell_on hbx z4
      replace z5 := cell_on hbx z5
      replace B1 := B1.on hbx
      clear hbx
      go_wp2_with fail
      refine (alive5law_any _).mono ?_
      rintro e w6 ⟨rfl, hbx⟩
      replace z0 := cell_on hbx z0
      replace z1 := cell_on hbx z1
      replace z2 := cell_on hbx z2
      replace z3 := cell_on hbx z3
      replace z4 := cell_on hbx z4
      replace z5 := cell_on hbx z5
      replace B1 := B1.on hbx
      clear hbx
      go_wp2
      go_ret
      exact ⟨rfl, B1⟩
    · have HK2 := Lib.hid hk2
      have HWI := Lib.hid (fun e => word_inj (k := k) (i := i) (g := g) (k' := k2) (i' := i2) (g' := g2) HK.out HK2.out e)
      clear hk2
      go_wp2_with fail
      refine (word_yes k i g _ HK.out).mono ?_
      rintro e w4 ⟨rfl, hbx⟩
      replace z0 := cell_on hbx z0
      replace z1 := cell_on hbx z1
      replace z2 := cell_on hbx z2
      replace z3 := cell_on hbx z3
      replace z4 := cell_on hbx z4
      replace z5 := cell_on hbx z5
      replace B1 := B1.on hbx
      clear hbx
      go_wp2_with fail
      refine (word_yes k2 i2 g2 _ HK2.out).mono ?_
      rintro e w5 ⟨rfl, hbx⟩
      replace z0 := cell_on hbx z0
      replace z1 := cell_on hbx z1
      replace z2 := cell_on hbx z2
      replace z3 := cell_on hbx z3
      replace z4 := cell_on hbx z4
      replace z5 := cell_on hbx z5
      replace B1 := B1.on hbx
      clear hbx
      go_wp2_with fail
      refine (alive5law_any _).mono ?_
      rintro e w6 ⟨rfl, hbx⟩
      replace z0 := cell_on hbx z0
      replace z1 := cell_on hbx z1
      replace z2 := cell_on hbx z2
      replace z3 := cell_on hbx z3
      replace z4 := cell_on hbx z4
      replace z5 := cell_on hbx z5
      replace B1 := B1.on hbx
      clear hbx
      go_wp2
      all_goals
        go_ret
        refine ⟨ret_bool ?_, B1⟩
        first
          | (simp; done)
          | (simp; intro e; have h := HWI.out (by first | exact e | (simp only [*]; done) | (simp [*]; done)); first | exact absurd h.2.2 (by assumption) | exact absurd h.2.1 (by assumption) | exact absurd h.1 (by assumption))
set_option maxHeartbeats 1000000 in
theorem hapart_ny (l c s m d t k i g k2 i2 g2 : Int) (w : World) (hm : mayB l c s = false) (hm2 : mayB m d t = true)  :
    Calls Try.prog 14 #[.agg #[.int .i64 l, .int .i64 c, .int .i64 s], .agg #[.int .i64 m, .int .i64 d, .int .i64 t], .agg #[.int .i64 k, .int .i64 i, .int .i64 g, .int .i64 k2, .int .i64 i2, .int .i64 g2]] w fun e w' => e = .returned (.bool true) ∧ Below w.heap.size w w' := by
  have HM := Lib.hid hm
  have HM2 := Lib.hid hm2
  clear hm hm2
  go_enter Try.func14, Try.ntmps14
  go_wp2_with fail
  refine (encode_no l c s _ HM.out).mono ?_
  rintro e w1 ⟨rfl, hbx⟩
  have d0 : w1.cell? ⟨w.heap.size, 0, none⟩ = some (.int .i64 l) := cell_on hbx (by go_simp); have d1 : w1.cell? ⟨w.heap.size, 1, none⟩ = some (.int .i64 c) := cell_on hbx (by go_simp); have d2 : w1.cell? ⟨w.heap.size, 2, none⟩ = some (.int .i64 s) := cell_on hbx (by go_simp)
  have q0 : w1.cell? ⟨w.heap.size + 1, 0, none⟩ = some (.int .i64 m) := cell_on hbx (by go_simp); have q1 : w1.cell? ⟨w.heap.size + 1, 1, none⟩ = some (.int .i64 d) := cell_on hbx (by go_simp); have q2 : w1.cell? ⟨w.heap.size + 1, 2, none⟩ = some (.int .i64 t) := cell_on hbx (by go_simp)
  have z0 : w1.cell? ⟨w.heap.size + 1 + 1, 0, none⟩ = some (.int .i64 k) := cell_on hbx (by go_simp); have z1 : w1.cell? ⟨w.heap.size + 1 + 1, 1, none⟩ = some (.int .i64 i) := cell_on hbx (by go_simp); have z2 : w1.cell? ⟨w.heap.size + 1 + 1, 2, none⟩ = some (.int .i64 g) := cell_on hbx (by go_simp); have z3 : w1.cell? ⟨w.heap.size + 1 + 1, 3, none⟩ = some (.int .i64 k2) := cell_on hbx (by go_simp); have z4 : w1.cell? ⟨w.heap.size + 1 + 1, 4, none⟩ = some (.int .i64 i2) := cell_on hbx (by go_simp); have z5 : w1.cell? ⟨w.heap.size + 1 + 1, 5, none⟩ = some (.int .i64 g2) := cell_on hbx (by go_simp)
  have B1 := (((below1 w _).on (below1 _ _)).on (below1 _ _)).on hbx
  clear hbx
  go_wp2_with fail
  refine (encode_yes m d t _ HM2.out).mono ?_
  rintro e w2 ⟨rfl, hbx⟩
  replace d0 := cell_on hbx d0
  replace d1 := cell_on hbx d1
  replace d2 := cell_on hbx d2
  replace q0 := cell_on hbx q0
  replace q1 := cell_on hbx q1
  replace q2 := cell_on hbx q2
  replace z0 := cell_on hbx z0
  replace z1 := cell_on hbx z1
  replace z2 := cell_on hbx z2
  replace z3 := cell_on hbx z3
  replace z4 := cell_on hbx z4
  replace z5 := cell_on hbx z5
  replace B1 := B1.on hbx
  clear hbx
  cases hk : mayLinkB k i g
  · have HK := Lib.hid hk
    clear hk
    cases hk2 : mayLinkB k2 i2 g2
    · have HK2 := Lib.hid hk2
      clear hk2
      go_wp2_with fail
      refine (word_no k i g _ HK.out).mono ?_
      rintro e w4 ⟨rfl, hbx⟩
      replace z0 := cell_on hbx z0
      replace z1 := cell_on hbx z1
      replace z2 := cell_on hbx z2
      replace z3 := cell_on hbx z3
      replace z4 := cell_on hbx z4
      replace z5 := cell_on hbx z5
      replace B1 := B1.on hbx
      clear hbx
      go_wp2_with fail
      refine (word_no k2 i2 g2 _ HK2.out).mono ?_
      rintro e w5 ⟨rfl, hbx⟩
      replace z0 := cell_on hbx z0
      replace z1 := cell_on hbx z1
      replace z2 := cell_on hbx z2
      replace z3 := cell_on hbx z3
      replace z4 := cell_on hbx z4
      replace z5 := cell_on hbx z5
      replace B1 := B1.on hbx
      clear hbx
      go_wp2_with fail
      refine (alive5law_any _).mono ?_
      rintro e w6 ⟨rfl, hbx⟩
      replace z0 := cell_on hbx z0
      replace z1 := cell_on hbx z1
      replace z2 := cell_on hbx z2
      replace z3 := cell_on hbx z3
      replace z4 := cell_on hbx z4
      replace z5 := cell_on hbx z5
      replace B1 := B1.on hbx
      clear hbx
      go_wp2
      go_ret
      exact ⟨rfl, B1⟩
    · have HK2 := Lib.hid hk2
      clear hk2
      go_wp2_with fail
      refine (word_no k i g _ HK.out).mono ?_
      rintro e w4 ⟨rfl, hbx⟩
      replace z0 := cell_on hbx z0
      replace z1 := cell_on hbx z1
      replace z2 := cell_on hbx z2
      replace z3 := cell_on hbx z3
      replace z4 := cell_on hbx z4
      replace z5 := cell_on hbx z5
      replace B1 := B1.on hbx
      clear hbx
      go_wp2_with fail
      refine (word_yes k2 i2 g2 _ HK2.out).mono ?_
      rintro e w5 ⟨rfl, hbx⟩
      replace z0 := cell_on hbx z0
      replace z1 := cell_on hbx z1
      replace z2 := cell_on hbx z2
      replace z3 := cell_on hbx z3
      replace z4 := cell_on hbx z4
      replace z5 := cell_on hbx z5
      replace B1 := B1.on hbx
      clear hbx
      go_wp2_with fail
      refine (alive5law_any _).mono ?_
      rintro e w6 ⟨rfl, hbx⟩
      replace z0 := cell_on hbx z0
      replace z1 := cell_on hbx z1
      replace z2 := cell_on hbx z2
      replace z3 := cell_on hbx z3
      replace z4 := cell_on hbx z4
      replace z5 := cell_on hbx z5
      replace B1 := B1.on hbx
      clear hbx
      go_wp2
      go_ret
      exact ⟨rfl, B1⟩
  · have HK := Lib.hid hk
    clear hk
    cases hk2 : mayLinkB k2 i2 g2
    · have HK2 := Lib.hid hk2
      clear hk2
      go_wp2_with fail
      refine (word_yes k i g _ HK.out).mono ?_
      rintro e w4 ⟨rfl, hbx⟩
      replace z0 := cell_on hbx z0
      replace z1 := cell_on hbx z1
      replace z2 := cell_on hbx z2
      replace z3 := cell_on hbx z3
      replace z4 := cell_on hbx z4
      replace z5 := cell_on hbx z5
      replace B1 := B1.on hbx
      clear hbx
      go_wp2_with fail
      refine (word_no k2 i2 g2 _ HK2.out).mono ?_
      rintro e w5 ⟨rfl, hbx⟩
      replace z0 := cell_on hbx z0
      replace z1 := cell_on hbx z1
      replace z2 := cell_on hbx z2
      replace z3 := cell_on hbx z3
      replace z4 := cell_on hbx z4
      replace z5 := cell_on hbx z5
      replace B1 := B1.on hbx
      clear hbx
      go_wp2_with fail
      refine (alive5law_any _).mono ?_
      rintro e w6 ⟨rfl, hbx⟩
      replace z0 := cell_on hbx z0
      replace z1 := cell_on hbx z1
      replace z2 := cell_on hbx z2
      replace z3 := cell_on hbx z3
      replace z4 := cell_on hbx z4
      replace z5 := cell_on hbx z5
      replace B1 := B1.on hbx
      clear hbx
      go_wp2
      go_ret
      exact ⟨rfl, B1⟩
    · have HK2 := Lib.hid hk2
      have HWI := Lib.hid (fun e => word_inj (k := k) (i := i) (g := g) (k' := k2) (i' := i2) (g' := g2) HK.out HK2.out e)
      clear hk2
      go_wp2_with fail
      refine (word_yes k i g _ HK.out).mono ?_
      rintro e w4 ⟨rfl, hbx⟩
      replace z0 := cell_on hbx z0
      replace z1 := cell_on hbx z1
      replace z2 := cell_on hbx z2
      replace z3 := cell_on hbx z3
      replace z4 := cell_on hbx z4
      replace z5 := cell_on hbx z5
      replace B1 := B1.on hbx
      clear hbx
      go_wp2_with fail
      refine (word_yes k2 i2 g2 _ HK2.out).mono ?_
      rintro e w5 ⟨rfl, hbx⟩
      replace z0 := cell_on hbx z0
      replace z1 := cell_on hbx z1
      replace z2 := cell_on hbx z2
      replace z3 := cell_on hbx z3
      replace z4 := cell_on hbx z4
      replace z5 := cell_on hbx z5
      replace B1 := B1.on hbx
      clear hbx
      go_wp2_with fail
      refine (alive5law_any _).mono ?_
      rintro e w6 ⟨rfl, hbx⟩
      replace z0 := cell_on hbx z0
      replace z1 := cell_on hbx z1
      replace z2 := cell_on hbx z2
      replace z3 := cell_on hbx z3
      replace z4 := cell_on hbx z4
      replace z5 := cell_on hbx z5
      replace B1 := B1.on hbx
      clear hbx
      go_wp2
      all_goals
        go_ret
        refine ⟨ret_bool ?_, B1⟩
        first
          | (simp; done)
          | (simp; intro e; have h := HWI.out (by first | exact e | (simp only [*]; done) | (simp [*]; done)); first | exact absurd h.2.2 (by assumption) | exact absurd h.2.1 (by assumption) | exact absurd h.1 (by assumption))
set_option maxHeartbeats 1000000 in
theorem hapart_yn (l c s m d t k i g k2 i2 g2 : Int) (w : World) (hm : mayB l c s = true) (hm2 : mayB m d t = false)  :
    Calls Try.prog 14 #[.agg #[.int .i64 l, .int .i64 c, .int .i64 s], .agg #[.int .i64 m, .int .i64 d, .int .i64 t], .agg #[.int .i64 k, .int .i64 i, .int .i64 g, .int .i64 k2, .int .i64 i2, .int .i64 g2]] w fun e w' => e = .returned (.bool true) ∧ Below w.heap.size w w' := by
  have HM := Lib.hid hm
  have HM2 := Lib.hid hm2
  have HEL := Lib.hid (enc_link hm)
  have hin := enc_in hm
  clear hm hm2
  go_enter Try.func14, Try.ntmps14
  go_wp2_with fail
  refine (encode_yes l c s _ HM.out).mono ?_
  rintro e w1 ⟨rfl, hbx⟩
  have d0 : w1.cell? ⟨w.heap.size, 0, none⟩ = some (.int .i64 l) := cell_on hbx (by go_simp); have d1 : w1.cell? ⟨w.heap.size, 1, none⟩ = some (.int .i64 c) := cell_on hbx (by go_simp); have d2 : w1.cell? ⟨w.heap.size, 2, none⟩ = some (.int .i64 s) := cell_on hbx (by go_simp)
  have q0 : w1.cell? ⟨w.heap.size + 1, 0, none⟩ = some (.int .i64 m) := cell_on hbx (by go_simp); have q1 : w1.cell? ⟨w.heap.size + 1, 1, none⟩ = some (.int .i64 d) := cell_on hbx (by go_simp); have q2 : w1.cell? ⟨w.heap.size + 1, 2, none⟩ = some (.int .i64 t) := cell_on hbx (by go_simp)
  have z0 : w1.cell? ⟨w.heap.size + 1 + 1, 0, none⟩ = some (.int .i64 k) := cell_on hbx (by go_simp); have z1 : w1.cell? ⟨w.heap.size + 1 + 1, 1, none⟩ = some (.int .i64 i) := cell_on hbx (by go_simp); have z2 : w1.cell? ⟨w.heap.size + 1 + 1, 2, none⟩ = some (.int .i64 g) := cell_on hbx (by go_simp); have z3 : w1.cell? ⟨w.heap.size + 1 + 1, 3, none⟩ = some (.int .i64 k2) := cell_on hbx (by go_simp); have z4 : w1.cell? ⟨w.heap.size + 1 + 1, 4, none⟩ = some (.int .i64 i2) := cell_on hbx (by go_simp); have z5 : w1.cell? ⟨w.heap.size + 1 + 1, 5, none⟩ = some (.int .i64 g2) := cell_on hbx (by go_simp)
  have B1 := (((below1 w _).on (below1 _ _)).on (below1 _ _)).on hbx
  clear hbx
  generalize encI l c s = a at HEL hin ⊢
  go_wp2_with fail
  refine (encode_no m d t _ HM2.out).mono ?_
  rintro e w2 ⟨rfl, hbx⟩
  replace d0 := cell_on hbx d0
  replace d1 := cell_on hbx d1
  replace d2 := cell_on hbx d2
  replace q0 := cell_on hbx q0
  replace q1 := cell_on hbx q1
  replace q2 := cell_on hbx q2
  replace z0 := cell_on hbx z0
  replace z1 := cell_on hbx z1
  replace z2 := cell_on hbx z2
  replace z3 := cell_on hbx z3
  replace z4 := cell_on hbx z4
  replace z5 := cell_on hbx z5
  replace B1 := B1.on hbx
  clear hbx
  go_wp2_with fail
  refine (link_any a _ hin.1 hin.2).mono ?_
  rintro e w3 ⟨rfl, hbx⟩
  replace d0 := cell_on hbx d0
  replace d1 := cell_on hbx d1
  replace d2 := cell_on hbx d2
  replace q0 := cell_on hbx q0
  replace q1 := cell_on hbx q1
  replace q2 := cell_on hbx q2
  replace z0 := cell_on hbx z0
  replace z1 := cell_on hbx z1
  replace z2 := cell_on hbx z2
  replace z3 := cell_on hbx z3
  replace z4 := cell_on hbx z4
  replace z5 := cell_on hbx z5
  replace B1 := B1.on hbx
  clear hbx
  rw [HEL.out]
  have bz := below1 w3 (.cells #[.int .i64 0, .int .i64 0, .int .i64 0] 63)
  have xd0 := cell_on bz d0
  have xd1 := cell_on bz d1
  have xd2 := cell_on bz d2
  have xq0 := cell_on bz q0
  have xq1 := cell_on bz q1
  have xq2 := cell_on bz q2
  have xz0 := cell_on bz z0
  have xz1 := cell_on bz z1
  have xz2 := cell_on bz z2
  have xz3 := cell_on bz z3
  have xz4 := cell_on bz z4
  have xz5 := cell_on bz z5
  cases hk : mayLinkB k i g
  · have HK := Lib.hid hk
    clear hk
    cases hk2 : mayLinkB k2 i2 g2
    · have HK2 := Lib.hid hk2
      clear hk2
      go_wp2_with fail
      refine (word_no k i g _ HK.out).mono ?_
      rintro e w4 ⟨rfl, hbx⟩
      replace z0 := cell_on hbx xz0
      replace z1 := cell_on hbx xz1
      replace z2 := cell_on hbx xz2
      replace z3 := cell_on hbx xz3
      replace z4 := cell_on hbx xz4
      replace z5 := cell_on hbx xz5
      clear xd0 xd1 xd2 xq0 xq1 xq2 xz0 xz1 xz2 xz3 xz4 xz5
      replace B1 := (B1.on bz).on hbx
      clear hbx bz
      go_wp2_with fail
      refine (word_no k2 i2 g2 _ HK2.out).mono ?_
      rintro e w5 ⟨rfl, hbx⟩
      replace z0 := cell_on hbx z0
      replace z1 := cell_on hbx z1
      replace z2 := cell_on hbx z2
      replace z3 := cell_on hbx z3
      replace z4 := cell_on hbx z4
      replace z5 := cell_on hbx z5
      replace B1 := B1.on hbx
      clear hbx
      go_wp2_with fail
      refine (alive5law_any _).mono ?_
      rintro e w6 ⟨rfl, hbx⟩
      replace z0 := cell_on hbx z0
      replace z1 := cell_on hbx z1
      replace z2 := cell_on hbx z2
      replace z3 := cell_on hbx z3
      replace z4 := cell_on hbx z4
      replace z5 := cell_on hbx z5
      replace B1 := B1.on hbx
      clear hbx
      go_wp2
      go_ret
      exact ⟨rfl, B1⟩
    · have HK2 := Lib.hid hk2
      clear hk2
      go_wp2_with fail
      refine (word_no k i g _ HK.out).mono ?_
      rintro e w4 ⟨rfl, hbx⟩
      replace z0 := cell_on hbx xz0
      replace z1 := cell_on hbx xz1
      replace z2 := cell_on hbx xz2
      replace z3 := cell_on hbx xz3
      replace z4 := cell_on hbx xz4
      replace z5 := cell_on hbx xz5
      clear xd0 xd1 xd2 xq0 xq1 xq2 xz0 xz1 xz2 xz3 xz4 xz5
      replace B1 := (B1.on bz).on hbx
      clear hbx bz
      go_wp2_with fail
      refine (word_yes k2 i2 g2 _ HK2.out).mono ?_
      rintro e w5 ⟨rfl, hbx⟩
      replace z0 := cell_on hbx z0
      replace z1 := cell_on hbx z1
      replace z2 := cell_on hbx z2
      replace z3 := cell_on hbx z3
      replace z4 := cell_on hbx z4
      replace z5 := cell_on hbx z5
      replace B1 := B1.on hbx
      clear hbx
      go_wp2_with fail
      refine (alive5law_any _).mono ?_
      rintro e w6 ⟨rfl, hbx⟩
      replace z0 := cell_on hbx z0
      replace z1 := cell_on hbx z1
      replace z2 := cell_on hbx z2
      replace z3 := cell_on hbx z3
      replace z4 := cell_on hbx z4
      replace z5 := cell_on hbx z5
      replace B1 := B1.on hbx
      clear hbx
      go_wp2
      go_ret
      exact ⟨rfl, B1⟩
  · have HK := Lib.hid hk
    clear hk
    cases hk2 : mayLinkB k2 i2 g2
    · have HK2 := Lib.hid hk2
      clear hk2
      go_wp2_with fail
      refine (word_yes k i g _ HK.out).mono ?_
      rintro e w4 ⟨rfl, hbx⟩
      replace z0 := cell_on hbx xz0
      replace z1 := cell_on hbx xz1
      replace z2 := cell_on hbx xz2
      replace z3 := cell_on hbx xz3
      replace z4 := cell_on hbx xz4
      replace z5 := cell_on hbx xz5
      clear xd0 xd1 xd2 xq0 xq1 xq2 xz0 xz1 xz2 xz3 xz4 xz5
      replace B1 := (B1.on bz).on hbx
      clear hbx bz
      go_wp2_with fail
      refine (word_no k2 i2 g2 _ HK2.out).mono ?_
      rintro e w5 ⟨rfl, hbx⟩
      replace z0 := cell_on hbx z0
      replace z1 := cell_on hbx z1
      replace z2 := cell_on hbx z2
      replace z3 := cell_on hbx z3
      replace z4 := cell_on hbx z4
      replace z5 := cell_on hbx z5
      replace B1 := B1.on hbx
      clear hbx
      go_wp2_with fail
      refine (alive5law_any _).mono ?_
      rintro e w6 ⟨rfl, hbx⟩
      replace z0 := cell_on hbx z0
      replace z1 := cell_on hbx z1
      replace z2 := cell_on hbx z2
      replace z3 := cell_on hbx z3
      replace z4 := cell_on hbx z4
      replace z5 := cell_on hbx z5
      replace B1 := B1.on hbx
      clear hbx
      go_wp2
      go_ret
      exact ⟨rfl, B1⟩
    · have HK2 := Lib.hid hk2
      have HWI := Lib.hid (fun e => word_inj (k := k) (i := i) (g := g) (k' := k2) (i' := i2) (g' := g2) HK.out HK2.out e)
      clear hk2
      go_wp2_with fail
      refine (word_yes k i g _ HK.out).mono ?_
      rintro e w4 ⟨rfl, hbx⟩
      replace z0 := cell_on hbx xz0
      replace z1 := cell_on hbx xz1
      replace z2 := cell_on hbx xz2
      replace z3 := cell_on hbx xz3
      replace z4 := cell_on hbx xz4
      replace z5 := cell_on hbx xz5
      clear xd0 xd1 xd2 xq0 xq1 xq2 xz0 xz1 xz2 xz3 xz4 xz5
      replace B1 := (B1.on bz).on hbx
      clear hbx bz
      go_wp2_with fail
      refine (word_yes k2 i2 g2 _ HK2.out).mono ?_
      rintro e w5 ⟨rfl, hbx⟩
      replace z0 := cell_on hbx z0
      replace z1 := cell_on hbx z1
      replace z2 := cell_on hbx z2
      replace z3 := cell_on hbx z3
      replace z4 := cell_on hbx z4
      replace z5 := cell_on hbx z5
      replace B1 := B1.on hbx
      clear hbx
      go_wp2_with fail
      refine (alive5law_any _).mono ?_
      rintro e w6 ⟨rfl, hbx⟩
      replace z0 := cell_on hbx z0
      replace z1 := cell_on hbx z1
      replace z2 := cell_on hbx z2
      replace z3 := cell_on hbx z3
      replace z4 := cell_on hbx z4
      replace z5 := cell_on hbx z5
      replace B1 := B1.on hbx
      clear hbx
      go_wp2
      all_goals
        go_ret
        refine ⟨ret_bool ?_, B1⟩
        first
          | (simp; done)
          | (simp; intro e; have h := HWI.out (by first | exact e | (simp only [*]; done) | (simp [*]; done)); first | exact absurd h.2.2 (by assumption) | exact absurd h.2.1 (by assumption) | exact absurd h.1 (by assumption))
set_option maxHeartbeats 1000000 in
theorem hapart_yyE (l c s m d t k i g k2 i2 g2 : Int) (w : World) (hm : mayB l c s = true) (hm2 : mayB m d t = true) (h1 : l = m) (h2 : c = d) (h3 : s = t) :
    Calls Try.prog 14 #[.agg #[.int .i64 l, .int .i64 c, .int .i64 s], .agg #[.int .i64 m, .int .i64 d, .int .i64 t], .agg #[.int .i64 k, .int .i64 i, .int .i64 g, .int .i64 k2, .int .i64 i2, .int .i64 g2]] w fun e w' => e = .returned (.bool true) ∧ Below w.heap.size w w' := by
  subst h1 h2 h3
  have HM := Lib.hid hm
  have HM2 := Lib.hid hm2
  have HEL := Lib.hid (enc_link hm)
  have hin := enc_in hm
  clear hm hm2
  go_enter Try.func14, Try.ntmps14
  go_wp2_with fail
  refine (encode_yes l c s _ HM.out).mono ?_
  rintro e w1 ⟨rfl, hbx⟩
  have d0 : w1.cell? ⟨w.heap.size, 0, none⟩ = some (.int .i64 l) := cell_on hbx (by go_simp); have d1 : w1.cell? ⟨w.heap.size, 1, none⟩ = some (.int .i64 c) := cell_on hbx (by go_simp); have d2 : w1.cell? ⟨w.heap.size, 2, none⟩ = some (.int .i64 s) := cell_on hbx (by go_simp)
  have q0 : w1.cell? ⟨w.heap.size + 1, 0, none⟩ = some (.int .i64 l) := cell_on hbx (by go_simp); have q1 : w1.cell? ⟨w.heap.size + 1, 1, none⟩ = some (.int .i64 c) := cell_on hbx (by go_simp); have q2 : w1.cell? ⟨w.heap.size + 1, 2, none⟩ = some (.int .i64 s) := cell_on hbx (by go_simp)
  have z0 : w1.cell? ⟨w.heap.size + 1 + 1, 0, none⟩ = some (.int .i64 k) := cell_on hbx (by go_simp); have z1 : w1.cell? ⟨w.heap.size + 1 + 1, 1, none⟩ = some (.int .i64 i) := cell_on hbx (by go_simp); have z2 : w1.cell? ⟨w.heap.size + 1 + 1, 2, none⟩ = some (.int .i64 g) := cell_on hbx (by go_simp); have z3 : w1.cell? ⟨w.heap.size + 1 + 1, 3, none⟩ = some (.int .i64 k2) := cell_on hbx (by go_simp); have z4 : w1.cell? ⟨w.heap.size + 1 + 1, 4, none⟩ = some (.int .i64 i2) := cell_on hbx (by go_simp); have z5 : w1.cell? ⟨w.heap.size + 1 + 1, 5, none⟩ = some (.int .i64 g2) := cell_on hbx (by go_simp)
  have B1 := (((below1 w _).on (below1 _ _)).on (below1 _ _)).on hbx
  clear hbx
  go_wp2_with fail
  refine (encode_yes l c s _ HM2.out).mono ?_
  rintro e w2 ⟨rfl, hbx⟩
  replace d0 := cell_on hbx d0
  replace d1 := cell_on hbx d1
  replace d2 := cell_on hbx d2
  replace q0 := cell_on hbx q0
  replace q1 := cell_on hbx q1
  replace q2 := cell_on hbx q2
  replace z0 := cell_on hbx z0
  replace z1 := cell_on hbx z1
  replace z2 := cell_on hbx z2
  replace z3 := cell_on hbx z3
  replace z4 := cell_on hbx z4
  replace z5 := cell_on hbx z5
  replace B1 := B1.on hbx
  clear hbx
  generalize encI l c s = a at HEL hin ⊢
  go_wp2_with fail
  refine (link_any a _ hin.1 hin.2).mono ?_
  rintro e w3 ⟨rfl, hbx⟩
  replace d0 := cell_on hbx d0
  replace d1 := cell_on hbx d1
  replace d2 := cell_on hbx d2
  replace q0 := cell_on hbx q0
  replace q1 := cell_on hbx q1
  replace q2 := cell_on hbx q2
  replace z0 := cell_on hbx z0
  replace z1 := cell_on hbx z1
  replace z2 := cell_on hbx z2
  replace z3 := cell_on hbx z3
  replace z4 := cell_on hbx z4
  replace z5 := cell_on hbx z5
  replace B1 := B1.on hbx
  clear hbx
  rw [HEL.out]
  have bz := below1 w3 (.cells #[.int .i64 0, .int .i64 0, .int .i64 0] 63)
  have xd0 := cell_on bz d0
  have xd1 := cell_on bz d1
  have xd2 := cell_on bz d2
  have xq0 := cell_on bz q0
  have xq1 := cell_on bz q1
  have xq2 := cell_on bz q2
  have xz0 := cell_on bz z0
  have xz1 := cell_on bz z1
  have xz2 := cell_on bz z2
  have xz3 := cell_on bz z3
  have xz4 := cell_on bz z4
  have xz5 := cell_on bz z5
  cases hk : mayLinkB k i g
  · have HK := Lib.hid hk
    clear hk
    cases hk2 : mayLinkB k2 i2 g2
    · have HK2 := Lib.hid hk2
      clear hk2
      go_wp2_with fail
      refine (word_no k i g _ HK.out).mono ?_
      rintro e w4 ⟨rfl, hbx⟩
      replace z0 := cell_on hbx xz0
      replace z1 := cell_on hbx xz1
      replace z2 := cell_on hbx xz2
      replace z3 := cell_on hbx xz3
      replace z4 := cell_on hbx xz4
      replace z5 := cell_on hbx xz5
      clear xd0 xd1 xd2 xq0 xq1 xq2 xz0 xz1 xz2 xz3 xz4 xz5
      replace B1 := (B1.on bz).on hbx
      clear hbx bz
      go_wp2_with fail
      refine (word_no k2 i2 g2 _ HK2.out).mono ?_
      rintro e w5 ⟨rfl, hbx⟩
      replace z0 := cell_on hbx z0
      replace z1 := cell_on hbx z1
      replace z2 := cell_on hbx z2
      replace z3 := cell_on hbx z3
      replace z4 := cell_on hbx z4
      replace z5 := cell_on hbx z5
      replace B1 := B1.on hbx
      clear hbx
      go_wp2_with fail
      refine (alive5law_any _).mono ?_
      rintro e w6 ⟨rfl, hbx⟩
      replace z0 := cell_on hbx z0
      replace z1 := cell_on hbx z1
      replace z2 := cell_on hbx z2
      replace z3 := cell_on hbx z3
      replace z4 := cell_on hbx z4
      replace z5 := cell_on hbx z5
      replace B1 := B1.on hbx
      clear hbx
      go_wp2
      go_ret
      exact ⟨rfl, B1⟩
    · have HK2 := Lib.hid hk2
      clear hk2
      go_wp2_with fail
      refine (word_no k i g _ HK.out).mono ?_
      rintro e w4 ⟨rfl, hbx⟩
      replace z0 := cell_on hbx xz0
      replace z1 := cell_on hbx xz1
      replace z2 := cell_on hbx xz2
      replace z3 := cell_on hbx xz3
      replace z4 := cell_on hbx xz4
      replace z5 := cell_on hbx xz5
      clear xd0 xd1 xd2 xq0 xq1 xq2 xz0 xz1 xz2 xz3 xz4 xz5
      replace B1 := (B1.on bz).on hbx
      clear hbx bz
      go_wp2_with fail
      refine (word_yes k2 i2 g2 _ HK2.out).mono ?_
      rintro e w5 ⟨rfl, hbx⟩
      replace z0 := cell_on hbx z0
      replace z1 := cell_on hbx z1
      replace z2 := cell_on hbx z2
      replace z3 := cell_on hbx z3
      replace z4 := cell_on hbx z4
      replace z5 := cell_on hbx z5
      replace B1 := B1.on hbx
      clear hbx
      go_wp2_with fail
      refine (alive5law_any _).mono ?_
      rintro e w6 ⟨rfl, hbx⟩
      replace z0 := cell_on hbx z0
      replace z1 := cell_on hbx z1
      replace z2 := cell_on hbx z2
      replace z3 := cell_on hbx z3
      replace z4 := cell_on hbx z4
      replace z5 := cell_on hbx z5
      replace B1 := B1.on hbx
      clear hbx
      go_wp2
      go_ret
      exact ⟨rfl, B1⟩
  · have HK := Lib.hid hk
    clear hk
    cases hk2 : mayLinkB k2 i2 g2
    · have HK2 := Lib.hid hk2
      clear hk2
      go_wp2_with fail
      refine (word_yes k i g _ HK.out).mono ?_
      rintro e w4 ⟨rfl, hbx⟩
      replace z0 := cell_on hbx xz0
      replace z1 := cell_on hbx xz1
      replace z2 := cell_on hbx xz2
      replace z3 := cell_on hbx xz3
      replace z4 := cell_on hbx xz4
      replace z5 := cell_on hbx xz5
      clear xd0 xd1 xd2 xq0 xq1 xq2 xz0 xz1 xz2 xz3 xz4 xz5
      replace B1 := (B1.on bz).on hbx
      clear hbx bz
      go_wp2_with fail
      refine (word_no k2 i2 g2 _ HK2.out).mono ?_
      rintro e w5 ⟨rfl, hbx⟩
      replace z0 := cell_on hbx z0
      replace z1 := cell_on hbx z1
      replace z2 := cell_on hbx z2
      replace z3 := cell_on hbx z3
      replace z4 := cell_on hbx z4
      replace z5 := cell_on hbx z5
      replace B1 := B1.on hbx
      clear hbx
      go_wp2_with fail
      refine (alive5law_any _).mono ?_
      rintro e w6 ⟨rfl, hbx⟩
      replace z0 := cell_on hbx z0
      replace z1 := cell_on hbx z1
      replace z2 := cell_on hbx z2
      replace z3 := cell_on hbx z3
      replace z4 := cell_on hbx z4
      replace z5 := cell_on hbx z5
      replace B1 := B1.on hbx
      clear hbx
      go_wp2
      go_ret
      exact ⟨rfl, B1⟩
    · have HK2 := Lib.hid hk2
      have HWI := Lib.hid (fun e => word_inj (k := k) (i := i) (g := g) (k' := k2) (i' := i2) (g' := g2) HK.out HK2.out e)
      clear hk2
      go_wp2_with fail
      refine (word_yes k i g _ HK.out).mono ?_
      rintro e w4 ⟨rfl, hbx⟩
      replace z0 := cell_on hbx xz0
      replace z1 := cell_on hbx xz1
      replace z2 := cell_on hbx xz2
      replace z3 := cell_on hbx xz3
      replace z4 := cell_on hbx xz4
      replace z5 := cell_on hbx xz5
      clear xd0 xd1 xd2 xq0 xq1 xq2 xz0 xz1 xz2 xz3 xz4 xz5
      replace B1 := (B1.on bz).on hbx
      clear hbx bz
      go_wp2_with fail
      refine (word_yes k2 i2 g2 _ HK2.out).mono ?_
      rintro e w5 ⟨rfl, hbx⟩
      replace z0 := cell_on hbx z0
      replace z1 := cell_on hbx z1
      replace z2 := cell_on hbx z2
      replace z3 := cell_on hbx z3
      replace z4 := cell_on hbx z4
      replace z5 := cell_on hbx z5
      replace B1 := B1.on hbx
      clear hbx
      go_wp2_with fail
      refine (alive5law_any _).mono ?_
      rintro e w6 ⟨rfl, hbx⟩
      replace z0 := cell_on hbx z0
      replace z1 := cell_on hbx z1
      replace z2 := cell_on hbx z2
      replace z3 := cell_on hbx z3
      replace z4 := cell_on hbx z4
      replace z5 := cell_on hbx z5
      replace B1 := B1.on hbx
      clear hbx
      go_wp2
      all_goals
        go_ret
        refine ⟨ret_bool ?_, B1⟩
        first
          | (simp; done)
          | (simp; intro e; have h := HWI.out (by first | exact e | (simp only [*]; done) | (simp [*]; done)); first | exact absurd h.2.2 (by assumption) | exact absurd h.2.1 (by assumption) | exact absurd h.1 (by assumption))
set_option maxHeartbeats 1000000 in
theorem hapart_yy1 (l c s m d t k i g k2 i2 g2 : Int) (w : World) (hm : mayB l c s = true) (hm2 : mayB m d t = true) (h1 : ¬ l = m) :
    Calls Try.prog 14 #[.agg #[.int .i64 l, .int .i64 c, .int .i64 s], .agg #[.int .i64 m, .int .i64 d, .int .i64 t], .agg #[.int .i64 k, .int .i64 i, .int .i64 g, .int .i64 k2, .int .i64 i2, .int .i64 g2]] w fun e w' => e = .returned (.bool true) ∧ Below w.heap.size w w' := by
  have HM := Lib.hid hm
  have HM2 := Lib.hid hm2
  have HEL := Lib.hid (enc_link hm)
  have hin := enc_in hm
  have HAB := Lib.hid (show (encI l c s == encI m d t) = false by rw [beq_eq_false_iff_ne]; intro h; have := enc_inj hm hm2 h; omega)
  clear hm hm2
  go_enter Try.func14, Try.ntmps14
  go_wp2_with fail
  refine (encode_yes l c s _ HM.out).mono ?_
  rintro e w1 ⟨rfl, hbx⟩
  have d0 : w1.cell? ⟨w.heap.size, 0, none⟩ = some (.int .i64 l) := cell_on hbx (by go_simp); have d1 : w1.cell? ⟨w.heap.size, 1, none⟩ = some (.int .i64 c) := cell_on hbx (by go_simp); have d2 : w1.cell? ⟨w.heap.size, 2, none⟩ = some (.int .i64 s) := cell_on hbx (by go_simp)
  have q0 : w1.cell? ⟨w.heap.size + 1, 0, none⟩ = some (.int .i64 m) := cell_on hbx (by go_simp); have q1 : w1.cell? ⟨w.heap.size + 1, 1, none⟩ = some (.int .i64 d) := cell_on hbx (by go_simp); have q2 : w1.cell? ⟨w.heap.size + 1, 2, none⟩ = some (.int .i64 t) := cell_on hbx (by go_simp)
  have z0 : w1.cell? ⟨w.heap.size + 1 + 1, 0, none⟩ = some (.int .i64 k) := cell_on hbx (by go_simp); have z1 : w1.cell? ⟨w.heap.size + 1 + 1, 1, none⟩ = some (.int .i64 i) := cell_on hbx (by go_simp); have z2 : w1.cell? ⟨w.heap.size + 1 + 1, 2, none⟩ = some (.int .i64 g) := cell_on hbx (by go_simp); have z3 : w1.cell? ⟨w.heap.size + 1 + 1, 3, none⟩ = some (.int .i64 k2) := cell_on hbx (by go_simp); have z4 : w1.cell? ⟨w.heap.size + 1 + 1, 4, none⟩ = some (.int .i64 i2) := cell_on hbx (by go_simp); have z5 : w1.cell? ⟨w.heap.size + 1 + 1, 5, none⟩ = some (.int .i64 g2) := cell_on hbx (by go_simp)
  have B1 := (((below1 w _).on (below1 _ _)).on (below1 _ _)).on hbx
  clear hbx
  go_wp2_with fail
  refine (encode_yes m d t _ HM2.out).mono ?_
  rintro e w2 ⟨rfl, hbx⟩
  replace d0 := cell_on hbx d0
  replace d1 := cell_on hbx d1
  replace d2 := cell_on hbx d2
  replace q0 := cell_on hbx q0
  replace q1 := cell_on hbx q1
  replace q2 := cell_on hbx q2
  replace z0 := cell_on hbx z0
  replace z1 := cell_on hbx z1
  replace z2 := cell_on hbx z2
  replace z3 := cell_on hbx z3
  replace z4 := cell_on hbx z4
  replace z5 := cell_on hbx z5
  replace B1 := B1.on hbx
  clear hbx
  generalize encI l c s = a at HEL hin HAB ⊢
  generalize encI m d t = b at HAB ⊢
  have hab := HAB.out
  go_wp2_with fail
  refine (link_any a _ hin.1 hin.2).mono ?_
  rintro e w3 ⟨rfl, hbx⟩
  replace d0 := cell_on hbx d0
  replace d1 := cell_on hbx d1
  replace d2 := cell_on hbx d2
  replace q0 := cell_on hbx q0
  replace q1 := cell_on hbx q1
  replace q2 := cell_on hbx q2
  replace z0 := cell_on hbx z0
  replace z1 := cell_on hbx z1
  replace z2 := cell_on hbx z2
  replace z3 := cell_on hbx z3
  replace z4 := cell_on hbx z4
  replace z5 := cell_on hbx z5
  replace B1 := B1.on hbx
  clear hbx
  rw [HEL.out]
  have bz := below1 w3 (.cells #[.int .i64 0, .int .i64 0, .int .i64 0] 63)
  have xd0 := cell_on bz d0
  have xd1 := cell_on bz d1
  have xd2 := cell_on bz d2
  have xq0 := cell_on bz q0
  have xq1 := cell_on bz q1
  have xq2 := cell_on bz q2
  have xz0 := cell_on bz z0
  have xz1 := cell_on bz z1
  have xz2 := cell_on bz z2
  have xz3 := cell_on bz z3
  have xz4 := cell_on bz z4
  have xz5 := cell_on bz z5
  cases hk : mayLinkB k i g
  · have HK := Lib.hid hk
    clear hk
    cases hk2 : mayLinkB k2 i2 g2
    · have HK2 := Lib.hid hk2
      clear hk2
      go_wp2_with fail
      refine (word_no k i g _ HK.out).mono ?_
      rintro e w4 ⟨rfl, hbx⟩
      replace z0 := cell_on hbx xz0
      replace z1 := cell_on hbx xz1
      replace z2 := cell_on hbx xz2
      replace z3 := cell_on hbx xz3
      replace z4 := cell_on hbx xz4
      replace z5 := cell_on hbx xz5
      clear xd0 xd1 xd2 xq0 xq1 xq2 xz0 xz1 xz2 xz3 xz4 xz5
      replace B1 := (B1.on bz).on hbx
      clear hbx bz
      go_wp2_with fail
      refine (word_no k2 i2 g2 _ HK2.out).mono ?_
      rintro e w5 ⟨rfl, hbx⟩
      replace z0 := cell_on hbx z0
      replace z1 := cell_on hbx z1
      replace z2 := cell_on hbx z2
      replace z3 := cell_on hbx z3
      replace z4 := cell_on hbx z4
      replace z5 := cell_on hbx z5
      replace B1 := B1.on hbx
      clear hbx
      go_wp2_with fail
      refine (alive5law_any _).mono ?_
      rintro e w6 ⟨rfl, hbx⟩
      replace z0 := cell_on hbx z0
      replace z1 := cell_on hbx z1
      replace z2 := cell_on hbx z2
      replace z3 := cell_on hbx z3
      replace z4 := cell_on hbx z4
      replace z5 := cell_on hbx z5
      replace B1 := B1.on hbx
      clear hbx
      go_wp2
      go_ret
      exact ⟨rfl, B1⟩
    · have HK2 := Lib.hid hk2
      clear hk2
      go_wp2_with fail
      refine (word_no k i g _ HK.out).mono ?_
      rintro e w4 ⟨rfl, hbx⟩
      replace z0 := cell_on hbx xz0
      replace z1 := cell_on hbx xz1
      replace z2 := cell_on hbx xz2
      replace z3 := cell_on hbx xz3
      replace z4 := cell_on hbx xz4
      replace z5 := cell_on hbx xz5
      clear xd0 xd1 xd2 xq0 xq1 xq2 xz0 xz1 xz2 xz3 xz4 xz5
      replace B1 := (B1.on bz).on hbx
      clear hbx bz
      go_wp2_with fail
      refine (word_yes k2 i2 g2 _ HK2.out).mono ?_
      rintro e w5 ⟨rfl, hbx⟩
      replace z0 := cell_on hbx z0
      replace z1 := cell_on hbx z1
      replace z2 := cell_on hbx z2
      replace z3 := cell_on hbx z3
      replace z4 := cell_on hbx z4
      replace z5 := cell_on hbx z5
      replace B1 := B1.on hbx
      clear hbx
      go_wp2_with fail
      refine (alive5law_any _).mono ?_
      rintro e w6 ⟨rfl, hbx⟩
      replace z0 := cell_on hbx z0
      replace z1 := cell_on hbx z1
      replace z2 := cell_on hbx z2
      replace z3 := cell_on hbx z3
      replace z4 := cell_on hbx z4
      replace z5 := cell_on hbx z5
      replace B1 := B1.on hbx
      clear hbx
      go_wp2
      go_ret
      exact ⟨rfl, B1⟩
  · have HK := Lib.hid hk
    clear hk
    cases hk2 : mayLinkB k2 i2 g2
    · have HK2 := Lib.hid hk2
      clear hk2
      go_wp2_with fail
      refine (word_yes k i g _ HK.out).mono ?_
      rintro e w4 ⟨rfl, hbx⟩
      replace z0 := cell_on hbx xz0
      replace z1 := cell_on hbx xz1
      replace z2 := cell_on hbx xz2
      replace z3 := cell_on hbx xz3
      replace z4 := cell_on hbx xz4
      replace z5 := cell_on hbx xz5
      clear xd0 xd1 xd2 xq0 xq1 xq2 xz0 xz1 xz2 xz3 xz4 xz5
      replace B1 := (B1.on bz).on hbx
      clear hbx bz
      go_wp2_with fail
      refine (word_no k2 i2 g2 _ HK2.out).mono ?_
      rintro e w5 ⟨rfl, hbx⟩
      replace z0 := cell_on hbx z0
      replace z1 := cell_on hbx z1
      replace z2 := cell_on hbx z2
      replace z3 := cell_on hbx z3
      replace z4 := cell_on hbx z4
      replace z5 := cell_on hbx z5
      replace B1 := B1.on hbx
      clear hbx
      go_wp2_with fail
      refine (alive5law_any _).mono ?_
      rintro e w6 ⟨rfl, hbx⟩
      replace z0 := cell_on hbx z0
      replace z1 := cell_on hbx z1
      replace z2 := cell_on hbx z2
      replace z3 := cell_on hbx z3
      replace z4 := cell_on hbx z4
      replace z5 := cell_on hbx z5
      replace B1 := B1.on hbx
      clear hbx
      go_wp2
      go_ret
      exact ⟨rfl, B1⟩
    · have HK2 := Lib.hid hk2
      have HWI := Lib.hid (fun e => word_inj (k := k) (i := i) (g := g) (k' := k2) (i' := i2) (g' := g2) HK.out HK2.out e)
      clear hk2
      go_wp2_with fail
      refine (word_yes k i g _ HK.out).mono ?_
      rintro e w4 ⟨rfl, hbx⟩
      replace z0 := cell_on hbx xz0
      replace z1 := cell_on hbx xz1
      replace z2 := cell_on hbx xz2
      replace z3 := cell_on hbx xz3
      replace z4 := cell_on hbx xz4
      replace z5 := cell_on hbx xz5
      clear xd0 xd1 xd2 xq0 xq1 xq2 xz0 xz1 xz2 xz3 xz4 xz5
      replace B1 := (B1.on bz).on hbx
      clear hbx bz
      go_wp2_with fail
      refine (word_yes k2 i2 g2 _ HK2.out).mono ?_
      rintro e w5 ⟨rfl, hbx⟩
      replace z0 := cell_on hbx z0
      replace z1 := cell_on hbx z1
      replace z2 := cell_on hbx z2
      replace z3 := cell_on hbx z3
      replace z4 := cell_on hbx z4
      replace z5 := cell_on hbx z5
      replace B1 := B1.on hbx
      clear hbx
      go_wp2_with fail
      refine (alive5law_any _).mono ?_
      rintro e w6 ⟨rfl, hbx⟩
      replace z0 := cell_on hbx z0
      replace z1 := cell_on hbx z1
      replace z2 := cell_on hbx z2
      replace z3 := cell_on hbx z3
      replace z4 := cell_on hbx z4
      replace z5 := cell_on hbx z5
      replace B1 := B1.on hbx
      clear hbx
      go_wp2
      all_goals
        go_ret
        refine ⟨ret_bool ?_, B1⟩
        first
          | (simp; done)
          | (simp; intro e; have h := HWI.out (by first | exact e | (simp only [*]; done) | (simp [*]; done)); first | exact absurd h.2.2 (by assumption) | exact absurd h.2.1 (by assumption) | exact absurd h.1 (by assumption))
set_option maxHeartbeats 1000000 in
theorem hapart_yy2 (l c s m d t k i g k2 i2 g2 : Int) (w : World) (hm : mayB l c s = true) (hm2 : mayB m d t = true) (h1 : l = m) (h2 : ¬ c = d) :
    Calls Try.prog 14 #[.agg #[.int .i64 l, .int .i64 c, .int .i64 s], .agg #[.int .i64 m, .int .i64 d, .int .i64 t], .agg #[.int .i64 k, .int .i64 i, .int .i64 g, .int .i64 k2, .int .i64 i2, .int .i64 g2]] w fun e w' => e = .returned (.bool true) ∧ Below w.heap.size w w' := by
  subst h1
  have HM := Lib.hid hm
  have HM2 := Lib.hid hm2
  have HEL := Lib.hid (enc_link hm)
  have hin := enc_in hm
  have HAB := Lib.hid (show (encI l c s == encI l d t) = false by rw [beq_eq_false_iff_ne]; intro h; have := enc_inj hm hm2 h; omega)
  clear hm hm2
  go_enter Try.func14, Try.ntmps14
  go_wp2_with fail
  refine (encode_yes l c s _ HM.out).mono ?_
  rintro e w1 ⟨rfl, hbx⟩
  have d0 : w1.cell? ⟨w.heap.size, 0, none⟩ = some (.int .i64 l) := cell_on hbx (by go_simp); have d1 : w1.cell? ⟨w.heap.size, 1, none⟩ = some (.int .i64 c) := cell_on hbx (by go_simp); have d2 : w1.cell? ⟨w.heap.size, 2, none⟩ = some (.int .i64 s) := cell_on hbx (by go_simp)
  have q0 : w1.cell? ⟨w.heap.size + 1, 0, none⟩ = some (.int .i64 l) := cell_on hbx (by go_simp); have q1 : w1.cell? ⟨w.heap.size + 1, 1, none⟩ = some (.int .i64 d) := cell_on hbx (by go_simp); have q2 : w1.cell? ⟨w.heap.size + 1, 2, none⟩ = some (.int .i64 t) := cell_on hbx (by go_simp)
  have z0 : w1.cell? ⟨w.heap.size + 1 + 1, 0, none⟩ = some (.int .i64 k) := cell_on hbx (by go_simp); have z1 : w1.cell? ⟨w.heap.size + 1 + 1, 1, none⟩ = some (.int .i64 i) := cell_on hbx (by go_simp); have z2 : w1.cell? ⟨w.heap.size + 1 + 1, 2, none⟩ = some (.int .i64 g) := cell_on hbx (by go_simp); have z3 : w1.cell? ⟨w.heap.size + 1 + 1, 3, none⟩ = some (.int .i64 k2) := cell_on hbx (by go_simp); have z4 : w1.cell? ⟨w.heap.size + 1 + 1, 4, none⟩ = some (.int .i64 i2) := cell_on hbx (by go_simp); have z5 : w1.cell? ⟨w.heap.size + 1 + 1, 5, none⟩ = some (.int .i64 g2) := cell_on hbx (by go_simp)
  have B1 := (((below1 w _).on (below1 _ _)).on (below1 _ _)).on hbx
  clear hbx
  go_wp2_with fail
  refine (encode_yes l d t _ HM2.out).mono ?_
  rintro e w2 ⟨rfl, hbx⟩
  replace d0 := cell_on hbx d0
  replace d1 := cell_on hbx d1
  replace d2 := cell_on hbx d2
  replace q0 := cell_on hbx q0
  replace q1 := cell_on hbx q1
  replace q2 := cell_on hbx q2
  replace z0 := cell_on hbx z0
  replace z1 := cell_on hbx z1
  replace z2 := cell_on hbx z2
  replace z3 := cell_on hbx z3
  replace z4 := cell_on hbx z4
  replace z5 := cell_on hbx z5
  replace B1 := B1.on hbx
  clear hbx
  generalize encI l c s = a at HEL hin HAB ⊢
  generalize encI l d t = b at HAB ⊢
  have hab := HAB.out
  go_wp2_with fail
  refine (link_any a _ hin.1 hin.2).mono ?_
  rintro e w3 ⟨rfl, hbx⟩
  replace d0 := cell_on hbx d0
  replace d1 := cell_on hbx d1
  replace d2 := cell_on hbx d2
  replace q0 := cell_on hbx q0
  replace q1 := cell_on hbx q1
  replace q2 := cell_on hbx q2
  replace z0 := cell_on hbx z0
  replace z1 := cell_on hbx z1
  replace z2 := cell_on hbx z2
  replace z3 := cell_on hbx z3
  replace z4 := cell_on hbx z4
  replace z5 := cell_on hbx z5
  replace B1 := B1.on hbx
  clear hbx
  rw [HEL.out]
  have bz := below1 w3 (.cells #[.int .i64 0, .int .i64 0, .int .i64 0] 63)
  have xd0 := cell_on bz d0
  have xd1 := cell_on bz d1
  have xd2 := cell_on bz d2
  have xq0 := cell_on bz q0
  have xq1 := cell_on bz q1
  have xq2 := cell_on bz q2
  have xz0 := cell_on bz z0
  have xz1 := cell_on bz z1
  have xz2 := cell_on bz z2
  have xz3 := cell_on bz z3
  have xz4 := cell_on bz z4
  have xz5 := cell_on bz z5
  cases hk : mayLinkB k i g
  · have HK := Lib.hid hk
    clear hk
    cases hk2 : mayLinkB k2 i2 g2
    · have HK2 := Lib.hid hk2
      clear hk2
      go_wp2_with fail
      refine (word_no k i g _ HK.out).mono ?_
      rintro e w4 ⟨rfl, hbx⟩
      replace z0 := cell_on hbx xz0
      replace z1 := cell_on hbx xz1
      replace z2 := cell_on hbx xz2
      replace z3 := cell_on hbx xz3
      replace z4 := cell_on hbx xz4
      replace z5 := cell_on hbx xz5
      clear xd0 xd1 xd2 xq0 xq1 xq2 xz0 xz1 xz2 xz3 xz4 xz5
      replace B1 := (B1.on bz).on hbx
      clear hbx bz
      go_wp2_with fail
      refine (word_no k2 i2 g2 _ HK2.out).mono ?_
      rintro e w5 ⟨rfl, hbx⟩
      replace z0 := cell_on hbx z0
      replace z1 := cell_on hbx z1
      replace z2 := cell_on hbx z2
      replace z3 := cell_on hbx z3
      replace z4 := cell_on hbx z4
      replace z5 := cell_on hbx z5
      replace B1 := B1.on hbx
      clear hbx
      go_wp2_with fail
      refine (alive5law_any _).mono ?_
      rintro e w6 ⟨rfl, hbx⟩
      replace z0 := cell_on hbx z0
      replace z1 := cell_on hbx z1
      replace z2 := cell_on hbx z2
      replace z3 := cell_on hbx z3
      replace z4 := cell_on hbx z4
      replace z5 := cell_on hbx z5
      replace B1 := B1.on hbx
      clear hbx
      go_wp2
      go_ret
      exact ⟨rfl, B1⟩
    · have HK2 := Lib.hid hk2
      clear hk2
      go_wp2_with fail
      refine (word_no k i g _ HK.out).mono ?_
      rintro e w4 ⟨rfl, hbx⟩
      replace z0 := cell_on hbx xz0
      replace z1 := cell_on hbx xz1
      replace z2 := cell_on hbx xz2
      replace z3 := cell_on hbx xz3
      replace z4 := cell_on hbx xz4
      replace z5 := cell_on hbx xz5
      clear xd0 xd1 xd2 xq0 xq1 xq2 xz0 xz1 xz2 xz3 xz4 xz5
      replace B1 := (B1.on bz).on hbx
      clear hbx bz
      go_wp2_with fail
      refine (word_yes k2 i2 g2 _ HK2.out).mono ?_
      rintro e w5 ⟨rfl, hbx⟩
      replace z0 := cell_on hbx z0
      replace z1 := cell_on hbx z1
      replace z2 := cell_on hbx z2
      replace z3 := cell_on hbx z3
      replace z4 := cell_on hbx z4
      replace z5 := cell_on hbx z5
      replace B1 := B1.on hbx
      clear hbx
      go_wp2_with fail
      refine (alive5law_any _).mono ?_
      rintro e w6 ⟨rfl, hbx⟩
      replace z0 := cell_on hbx z0
      replace z1 := cell_on hbx z1
      replace z2 := cell_on hbx z2
      replace z3 := cell_on hbx z3
      replace z4 := cell_on hbx z4
      replace z5 := cell_on hbx z5
      replace B1 := B1.on hbx
      clear hbx
      go_wp2
      go_ret
      exact ⟨rfl, B1⟩
  · have HK := Lib.hid hk
    clear hk
    cases hk2 : mayLinkB k2 i2 g2
    · have HK2 := Lib.hid hk2
      clear hk2
      go_wp2_with fail
      refine (word_yes k i g _ HK.out).mono ?_
      rintro e w4 ⟨rfl, hbx⟩
      replace z0 := cell_on hbx xz0
      replace z1 := cell_on hbx xz1
      replace z2 := cell_on hbx xz2
      replace z3 := cell_on hbx xz3
      replace z4 := cell_on hbx xz4
      replace z5 := cell_on hbx xz5
      clear xd0 xd1 xd2 xq0 xq1 xq2 xz0 xz1 xz2 xz3 xz4 xz5
      replace B1 := (B1.on bz).on hbx
      clear hbx bz
      go_wp2_with fail
      refine (word_no k2 i2 g2 _ HK2.out).mono ?_
      rintro e w5 ⟨rfl, hbx⟩
      replace z0 := cell_on hbx z0
      replace z1 := cell_on hbx z1
      replace z2 := cell_on hbx z2
      replace z3 := cell_on hbx z3
      replace z4 := cell_on hbx z4
      replace z5 := cell_on hbx z5
      replace B1 := B1.on hbx
      clear hbx
      go_wp2_with fail
      refine (alive5law_any _).mono ?_
      rintro e w6 ⟨rfl, hbx⟩
      replace z0 := cell_on hbx z0
      replace z1 := cell_on hbx z1
      replace z2 := cell_on hbx z2
      replace z3 := cell_on hbx z3
      replace z4 := cell_on hbx z4
      replace z5 := cell_on hbx z5
      replace B1 := B1.on hbx
      clear hbx
      go_wp2
      go_ret
      exact ⟨rfl, B1⟩
    · have HK2 := Lib.hid hk2
      have HWI := Lib.hid (fun e => word_inj (k := k) (i := i) (g := g) (k' := k2) (i' := i2) (g' := g2) HK.out HK2.out e)
      clear hk2
      go_wp2_with fail
      refine (word_yes k i g _ HK.out).mono ?_
      rintro e w4 ⟨rfl, hbx⟩
      replace z0 := cell_on hbx xz0
      replace z1 := cell_on hbx xz1
      replace z2 := cell_on hbx xz2
      replace z3 := cell_on hbx xz3
      replace z4 := cell_on hbx xz4
      replace z5 := cell_on hbx xz5
      clear xd0 xd1 xd2 xq0 xq1 xq2 xz0 xz1 xz2 xz3 xz4 xz5
      replace B1 := (B1.on bz).on hbx
      clear hbx bz
      go_wp2_with fail
      refine (word_yes k2 i2 g2 _ HK2.out).mono ?_
      rintro e w5 ⟨rfl, hbx⟩
      replace z0 := cell_on hbx z0
      replace z1 := cell_on hbx z1
      replace z2 := cell_on hbx z2
      replace z3 := cell_on hbx z3
      replace z4 := cell_on hbx z4
      replace z5 := cell_on hbx z5
      replace B1 := B1.on hbx
      clear hbx
      go_wp2_with fail
      refine (alive5law_any _).mono ?_
      rintro e w6 ⟨rfl, hbx⟩
      replace z0 := cell_on hbx z0
      replace z1 := cell_on hbx z1
      replace z2 := cell_on hbx z2
      replace z3 := cell_on hbx z3
      replace z4 := cell_on hbx z4
      replace z5 := cell_on hbx z5
      replace B1 := B1.on hbx
      clear hbx
      go_wp2
      all_goals
        go_ret
        refine ⟨ret_bool ?_, B1⟩
        first
          | (simp; done)
          | (simp; intro e; have h := HWI.out (by first | exact e | (simp only [*]; done) | (simp [*]; done)); first | exact absurd h.2.2 (by assumption) | exact absurd h.2.1 (by assumption) | exact absurd h.1 (by assumption))
set_option maxHeartbeats 1000000 in
theorem hapart_yy3 (l c s m d t k i g k2 i2 g2 : Int) (w : World) (hm : mayB l c s = true) (hm2 : mayB m d t = true) (h1 : l = m) (h2 : c = d) (h3 : ¬ s = t) :
    Calls Try.prog 14 #[.agg #[.int .i64 l, .int .i64 c, .int .i64 s], .agg #[.int .i64 m, .int .i64 d, .int .i64 t], .agg #[.int .i64 k, .int .i64 i, .int .i64 g, .int .i64 k2, .int .i64 i2, .int .i64 g2]] w fun e w' => e = .returned (.bool true) ∧ Below w.heap.size w w' := by
  subst h1 h2
  have HM := Lib.hid hm
  have HM2 := Lib.hid hm2
  have HEL := Lib.hid (enc_link hm)
  have hin := enc_in hm
  have HAB := Lib.hid (show (encI l c s == encI l c t) = false by rw [beq_eq_false_iff_ne]; intro h; have := enc_inj hm hm2 h; omega)
  clear hm hm2
  go_enter Try.func14, Try.ntmps14
  go_wp2_with fail
  refine (encode_yes l c s _ HM.out).mono ?_
  rintro e w1 ⟨rfl, hbx⟩
  have d0 : w1.cell? ⟨w.heap.size, 0, none⟩ = some (.int .i64 l) := cell_on hbx (by go_simp); have d1 : w1.cell? ⟨w.heap.size, 1, none⟩ = some (.int .i64 c) := cell_on hbx (by go_simp); have d2 : w1.cell? ⟨w.heap.size, 2, none⟩ = some (.int .i64 s) := cell_on hbx (by go_simp)
  have q0 : w1.cell? ⟨w.heap.size + 1, 0, none⟩ = some (.int .i64 l) := cell_on hbx (by go_simp); have q1 : w1.cell? ⟨w.heap.size + 1, 1, none⟩ = some (.int .i64 c) := cell_on hbx (by go_simp); have q2 : w1.cell? ⟨w.heap.size + 1, 2, none⟩ = some (.int .i64 t) := cell_on hbx (by go_simp)
  have z0 : w1.cell? ⟨w.heap.size + 1 + 1, 0, none⟩ = some (.int .i64 k) := cell_on hbx (by go_simp); have z1 : w1.cell? ⟨w.heap.size + 1 + 1, 1, none⟩ = some (.int .i64 i) := cell_on hbx (by go_simp); have z2 : w1.cell? ⟨w.heap.size + 1 + 1, 2, none⟩ = some (.int .i64 g) := cell_on hbx (by go_simp); have z3 : w1.cell? ⟨w.heap.size + 1 + 1, 3, none⟩ = some (.int .i64 k2) := cell_on hbx (by go_simp); have z4 : w1.cell? ⟨w.heap.size + 1 + 1, 4, none⟩ = some (.int .i64 i2) := cell_on hbx (by go_simp); have z5 : w1.cell? ⟨w.heap.size + 1 + 1, 5, none⟩ = some (.int .i64 g2) := cell_on hbx (by go_simp)
  have B1 := (((below1 w _).on (below1 _ _)).on (below1 _ _)).on hbx
  clear hbx
  go_wp2_with fail
  refine (encode_yes l c t _ HM2.out).mono ?_
  rintro e w2 ⟨rfl, hbx⟩
  replace d0 := cell_on hbx d0
  replace d1 := cell_on hbx d1
  replace d2 := cell_on hbx d2
  replace q0 := cell_on hbx q0
  replace q1 := cell_on hbx q1
  replace q2 := cell_on hbx q2
  replace z0 := cell_on hbx z0
  replace z1 := cell_on hbx z1
  replace z2 := cell_on hbx z2
  replace z3 := cell_on hbx z3
  replace z4 := cell_on hbx z4
  replace z5 := cell_on hbx z5
  replace B1 := B1.on hbx
  clear hbx
  generalize encI l c s = a at HEL hin HAB ⊢
  generalize encI l c t = b at HAB ⊢
  have hab := HAB.out
  go_wp2_with fail
  refine (link_any a _ hin.1 hin.2).mono ?_
  rintro e w3 ⟨rfl, hbx⟩
  replace d0 := cell_on hbx d0
  replace d1 := cell_on hbx d1
  replace d2 := cell_on hbx d2
  replace q0 := cell_on hbx q0
  replace q1 := cell_on hbx q1
  replace q2 := cell_on hbx q2
  replace z0 := cell_on hbx z0
  replace z1 := cell_on hbx z1
  replace z2 := cell_on hbx z2
  replace z3 := cell_on hbx z3
  replace z4 := cell_on hbx z4
  replace z5 := cell_on hbx z5
  replace B1 := B1.on hbx
  clear hbx
  rw [HEL.out]
  have bz := below1 w3 (.cells #[.int .i64 0, .int .i64 0, .int .i64 0] 63)
  have xd0 := cell_on bz d0
  have xd1 := cell_on bz d1
  have xd2 := cell_on bz d2
  have xq0 := cell_on bz q0
  have xq1 := cell_on bz q1
  have xq2 := cell_on bz q2
  have xz0 := cell_on bz z0
  have xz1 := cell_on bz z1
  have xz2 := cell_on bz z2
  have xz3 := cell_on bz z3
  have xz4 := cell_on bz z4
  have xz5 := cell_on bz z5
  cases hk : mayLinkB k i g
  · have HK := Lib.hid hk
    clear hk
    cases hk2 : mayLinkB k2 i2 g2
    · have HK2 := Lib.hid hk2
      clear hk2
      go_wp2_with fail
      refine (word_no k i g _ HK.out).mono ?_
      rintro e w4 ⟨rfl, hbx⟩
      replace z0 := cell_on hbx xz0
      replace z1 := cell_on hbx xz1
      replace z2 := cell_on hbx xz2
      replace z3 := cell_on hbx xz3
      replace z4 := cell_on hbx xz4
      replace z5 := cell_on hbx xz5
      clear xd0 xd1 xd2 xq0 xq1 xq2 xz0 xz1 xz2 xz3 xz4 xz5
      replace B1 := (B1.on bz).on hbx
      clear hbx bz
      go_wp2_with fail
      refine (word_no k2 i2 g2 _ HK2.out).mono ?_
      rintro e w5 ⟨rfl, hbx⟩
      replace z0 := cell_on hbx z0
      replace z1 := cell_on hbx z1
      replace z2 := cell_on hbx z2
      replace z3 := cell_on hbx z3
      replace z4 := cell_on hbx z4
      replace z5 := cell_on hbx z5
      replace B1 := B1.on hbx
      clear hbx
      go_wp2_with fail
      refine (alive5law_any _).mono ?_
      rintro e w6 ⟨rfl, hbx⟩
      replace z0 := cell_on hbx z0
      replace z1 := cell_on hbx z1
      replace z2 := cell_on hbx z2
      replace z3 := cell_on hbx z3
      replace z4 := cell_on hbx z4
      replace z5 := cell_on hbx z5
      replace B1 := B1.on hbx
      clear hbx
      go_wp2
      go_ret
      exact ⟨rfl, B1⟩
    · have HK2 := Lib.hid hk2
      clear hk2
      go_wp2_with fail
      refine (word_no k i g _ HK.out).mono ?_
      rintro e w4 ⟨rfl, hbx⟩
      replace z0 := cell_on hbx xz0
      replace z1 := cell_on hbx xz1
      replace z2 := cell_on hbx xz2
      replace z3 := cell_on hbx xz3
      replace z4 := cell_on hbx xz4
      replace z5 := cell_on hbx xz5
      clear xd0 xd1 xd2 xq0 xq1 xq2 xz0 xz1 xz2 xz3 xz4 xz5
      replace B1 := (B1.on bz).on hbx
      clear hbx bz
      go_wp2_with fail
      refine (word_yes k2 i2 g2 _ HK2.out).mono ?_
      rintro e w5 ⟨rfl, hbx⟩
      replace z0 := cell_on hbx z0
      replace z1 := cell_on hbx z1
      replace z2 := cell_on hbx z2
      replace z3 := cell_on hbx z3
      replace z4 := cell_on hbx z4
      replace z5 := cell_on hbx z5
      replace B1 := B1.on hbx
      clear hbx
      go_wp2_with fail
      refine (alive5law_any _).mono ?_
      rintro e w6 ⟨rfl, hbx⟩
      replace z0 := cell_on hbx z0
      replace z1 := cell_on hbx z1
      replace z2 := cell_on hbx z2
      replace z3 := cell_on hbx z3
      replace z4 := cell_on hbx z4
      replace z5 := cell_on hbx z5
      replace B1 := B1.on hbx
      clear hbx
      go_wp2
      go_ret
      exact ⟨rfl, B1⟩
  · have HK := Lib.hid hk
    clear hk
    cases hk2 : mayLinkB k2 i2 g2
    · have HK2 := Lib.hid hk2
      clear hk2
      go_wp2_with fail
      refine (word_yes k i g _ HK.out).mono ?_
      rintro e w4 ⟨rfl, hbx⟩
      replace z0 := cell_on hbx xz0
      replace z1 := cell_on hbx xz1
      replace z2 := cell_on hbx xz2
      replace z3 := cell_on hbx xz3
      replace z4 := cell_on hbx xz4
      replace z5 := cell_on hbx xz5
      clear xd0 xd1 xd2 xq0 xq1 xq2 xz0 xz1 xz2 xz3 xz4 xz5
      replace B1 := (B1.on bz).on hbx
      clear hbx bz
      go_wp2_with fail
      refine (word_no k2 i2 g2 _ HK2.out).mono ?_
      rintro e w5 ⟨rfl, hbx⟩
      replace z0 := cell_on hbx z0
      replace z1 := cell_on hbx z1
      replace z2 := cell_on hbx z2
      replace z3 := cell_on hbx z3
      replace z4 := cell_on hbx z4
      replace z5 := cell_on hbx z5
      replace B1 := B1.on hbx
      clear hbx
      go_wp2_with fail
      refine (alive5law_any _).mono ?_
      rintro e w6 ⟨rfl, hbx⟩
      replace z0 := cell_on hbx z0
      replace z1 := cell_on hbx z1
      replace z2 := cell_on hbx z2
      replace z3 := cell_on hbx z3
      replace z4 := cell_on hbx z4
      replace z5 := cell_on hbx z5
      replace B1 := B1.on hbx
      clear hbx
      go_wp2
      go_ret
      exact ⟨rfl, B1⟩
    · have HK2 := Lib.hid hk2
      have HWI := Lib.hid (fun e => word_inj (k := k) (i := i) (g := g) (k' := k2) (i' := i2) (g' := g2) HK.out HK2.out e)
      clear hk2
      go_wp2_with fail
      refine (word_yes k i g _ HK.out).mono ?_
      rintro e w4 ⟨rfl, hbx⟩
      replace z0 := cell_on hbx xz0
      replace z1 := cell_on hbx xz1
      replace z2 := cell_on hbx xz2
      replace z3 := cell_on hbx xz3
      replace z4 := cell_on hbx xz4
      replace z5 := cell_on hbx xz5
      clear xd0 xd1 xd2 xq0 xq1 xq2 xz0 xz1 xz2 xz3 xz4 xz5
      replace B1 := (B1.on bz).on hbx
      clear hbx bz
      go_wp2_with fail
      refine (word_yes k2 i2 g2 _ HK2.out).mono ?_
      rintro e w5 ⟨rfl, hbx⟩
      replace z0 := cell_on hbx z0
      replace z1 := cell_on hbx z1
      replace z2 := cell_on hbx z2
      replace z3 := cell_on hbx z3
      replace z4 := cell_on hbx z4
      replace z5 := cell_on hbx z5
      replace B1 := B1.on hbx
      clear hbx
      go_wp2_with fail
      refine (alive5law_any _).mono ?_
      rintro e w6 ⟨rfl, hbx⟩
      replace z0 := cell_on hbx z0
      replace z1 := cell_on hbx z1
      replace z2 := cell_on hbx z2
      replace z3 := cell_on hbx z3
      replace z4 := cell_on hbx z4
      replace z5 := cell_on hbx z5
      replace B1 := B1.on hbx
      clear hbx
      go_wp2
      all_goals
        go_ret
        refine ⟨ret_bool ?_, B1⟩
        first
          | (simp; done)
          | (simp; intro e; have h := HWI.out (by first | exact e | (simp only [*]; done) | (simp [*]; done)); first | exact absurd h.2.2 (by assumption) | exact absurd h.2.1 (by assumption) | exact absurd h.1 (by assumption))
theorem hapart_walk (l c s m d t k i g k2 i2 g2 : Int) (w : World) :
    Calls Try.prog 14 #[.agg #[.int .i64 l, .int .i64 c, .int .i64 s], .agg #[.int .i64 m, .int .i64 d, .int .i64 t], .agg #[.int .i64 k, .int .i64 i, .int .i64 g, .int .i64 k2, .int .i64 i2, .int .i64 g2]] w fun e w' => e = .returned (.bool true) ∧ Below w.heap.size w w' := by
  cases hm : mayB l c s <;> cases hm2 : mayB m d t
  · exact hapart_nn l c s m d t k i g k2 i2 g2 w hm hm2
  · exact hapart_ny l c s m d t k i g k2 i2 g2 w hm hm2
  · exact hapart_yn l c s m d t k i g k2 i2 g2 w hm hm2
  · by_cases h1 : l = m
    · by_cases h2 : c = d
      · by_cases h3 : s = t
        · exact hapart_yyE l c s m d t k i g k2 i2 g2 w hm hm2 h1 h2 h3
        · exact hapart_yy3 l c s m d t k i g k2 i2 g2 w hm hm2 h1 h2 h3
      · exact hapart_yy2 l c s m d t k i g k2 i2 g2 w hm hm2 h1 h2
    · exact hapart_yy1 l c s m d t k i g k2 i2 g2 w hm hm2 h1
end Go.Proofs.Ytagccnjkgnaimaa
