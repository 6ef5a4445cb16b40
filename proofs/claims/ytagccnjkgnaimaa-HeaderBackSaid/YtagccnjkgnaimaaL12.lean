/- HeaderBack: the walk. -/
import Derived.Test.YtagccnjkgnaimaaH4
namespace Go.Proofs.Ytagccnjkgnaimaa
open Go.RowKit Go.Proofs.YtagccnjkgnaimaaW.PrintWords
set_option linter.unusedVariables false
set_option linter.unusedSimpArgs false
theorem hback_yy (l c s k i g x : Int) (w : World) (hx0 : 0 ≤ x) (hx1 : x < 18446744073709551616) (hm : mayB l c s = true) (hk : mayLinkB k i g = true) :
    Calls Try.prog 15 #[.agg #[.int .i64 l, .int .i64 c, .int .i64 s], .agg #[.int .i64 k, .int .i64 i, .int .i64 g], .int .u64 x] w fun e w' => e = .returned (.bool true) ∧ Below w.heap.size w w' := by
  have HM := Lib.hid hm
  have HK := Lib.hid hk
  have HDP := Lib.hid (dec_parts hx0 hx1)
  have HLP := Lib.hid (link_parts hx0 hx1)
  have HB := Lib.hid (back_enc hm)
  have hin := enc_in hm
  have HBK := Lib.hid (back_word hk)
  have hin2 := refWord_in hk
  clear hm hk
  go_enter Try.func15, Try.ntmps15
  go_wp2_with fail
  refine (encode_yes l c s _ HM.out).mono ?_
  rintro e w1 ⟨rfl, hbx⟩
  have d0 : w1.cell? ⟨w.heap.size, 0, none⟩ = some (.int .i64 l) := cell_on hbx (by go_simp); have d1 : w1.cell? ⟨w.heap.size, 1, none⟩ = some (.int .i64 c) := cell_on hbx (by go_simp); have d2 : w1.cell? ⟨w.heap.size, 2, none⟩ = some (.int .i64 s) := cell_on hbx (by go_simp)
  have g0 : w1.cell? ⟨w.heap.size + 1, 0, none⟩ = some (.int .i64 k) := cell_on hbx (by go_simp); have g1 : w1.cell? ⟨w.heap.size + 1, 1, none⟩ = some (.int .i64 i) := cell_on hbx (by go_simp); have g2 : w1.cell? ⟨w.heap.size + 1, 2, none⟩ = some (.int .i64 g) := cell_on hbx (by go_simp)
  have B1 := ((below1 w _).on (below1 _ _)).on hbx
  clear hbx
  generalize encI l c s = a at *
  go_wp2_with fail
  refine (decode_any a _ hin.1 hin.2).mono ?_
  rintro e w2 ⟨rfl, hbx⟩
  replace d0 := cell_on hbx d0
  replace d1 := cell_on hbx d1
  replace d2 := cell_on hbx d2
  replace g0 := cell_on hbx g0
  replace g1 := cell_on hbx g1
  replace g2 := cell_on hbx g2
  replace B1 := B1.on hbx
  clear hbx
  rw [HB.out]
  have bz := below1 w2 (.cells #[.int .i64 l, .int .i64 c, .int .i64 s] 55)
  have xd0 := cell_on bz d0
  have xd1 := cell_on bz d1
  have xd2 := cell_on bz d2
  have xg0 := cell_on bz g0
  have xg1 := cell_on bz g1
  have xg2 := cell_on bz g2
  go_wp2_with fail
  refine (word_yes k i g _ HK.out).mono ?_
  rintro e w3 ⟨rfl, hbx⟩
  replace d0 := cell_on hbx xd0
  replace d1 := cell_on hbx xd1
  replace d2 := cell_on hbx xd2
  replace g0 := cell_on hbx xg0
  replace g1 := cell_on hbx xg1
  replace g2 := cell_on hbx xg2
  clear xd0 xd1 xd2 xg0 xg1 xg2
  replace B1 := (B1.on bz).on hbx
  clear hbx bz
  generalize refWordI k i g = b at *
  go_wp2_with fail
  refine (link_any b _ hin2.1 hin2.2).mono ?_
  rintro e w4 ⟨rfl, hbx⟩
  replace d0 := cell_on hbx d0
  replace d1 := cell_on hbx d1
  replace d2 := cell_on hbx d2
  replace g0 := cell_on hbx g0
  replace g1 := cell_on hbx g1
  replace g2 := cell_on hbx g2
  replace B1 := B1.on hbx
  clear hbx
  rw [HBK.out]
  have bz := below1 w4 (.cells #[.int .i64 k, .int .i64 i, .int .i64 g] 63)
  have xd0 := cell_on bz d0
  have xd1 := cell_on bz d1
  have xd2 := cell_on bz d2
  have xg0 := cell_on bz g0
  have xg1 := cell_on bz g1
  have xg2 := cell_on bz g2
  go_wp2_with fail
  refine (decode_any x _ hx0 hx1).mono ?_
  rintro e w5 ⟨rfl, hbx⟩
  replace d0 := cell_on hbx xd0
  replace d1 := cell_on hbx xd1
  replace d2 := cell_on hbx xd2
  replace g0 := cell_on hbx xg0
  replace g1 := cell_on hbx xg1
  replace g2 := cell_on hbx xg2
  clear xd0 xd1 xd2 xg0 xg1 xg2
  replace B1 := (B1.on bz).on hbx
  clear hbx bz
  clear d0 d1 d2 g0 g1 g2
  rcases HDP.out with ⟨l', c', s', he, hm', hx'⟩ | he
  · rw [he]
    clear he HDP
    have HM2 := Lib.hid hm'
    have HX2 := Lib.hid hx'
    clear hm' hx'
    go_wp2_with fail
    refine (encode_yes l' c' s' _ HM2.out).mono ?_
    rintro e w6 ⟨rfl, hbx⟩
    have bz := below1 w5 (.cells #[.int .i64 l', .int .i64 c', .int .i64 s'] 55)
    replace B1 := (B1.on bz).on hbx
    clear hbx bz
    rw [HX2.out]
    go_wp2_with fail
    refine (link_any x _ hx0 hx1).mono ?_
    rintro e w7 ⟨rfl, hbx⟩
    replace B1 := B1.on hbx
    clear hbx
    rcases HLP.out with ⟨k', i', g', he, hk', hx'⟩ | he
    · rw [he]
      clear he HLP
      have HK2 := Lib.hid hk'
      have HX3 := Lib.hid hx'
      clear hk' hx'
      go_wp2_with fail
      refine (word_yes k' i' g' _ HK2.out).mono ?_
      rintro e w8 ⟨rfl, hbx⟩
      have bz := below1 w7 (.cells #[.int .i64 k', .int .i64 i', .int .i64 g'] 63)
      replace B1 := (B1.on bz).on hbx
      clear hbx bz
      rw [HX3.out]
      go_wp2_with fail
      refine (alive5law_any _).mono ?_
      rintro e w9 ⟨rfl, hbx⟩
      replace B1 := B1.on hbx
      clear hbx
      go_wp2
      go_ret
      exact ⟨rfl, B1⟩
    · rw [he]
      clear he HLP
      go_wp2_with fail
      refine (alive5law_any _).mono ?_
      rintro e w9 ⟨rfl, hbx⟩
      have bz := below1 w7 (.cells #[.int .i64 0, .int .i64 0, .int .i64 0] 63)
      replace B1 := (B1.on bz).on hbx
      clear hbx bz
      go_wp2
      go_ret
      exact ⟨rfl, B1⟩
  · rw [he]
    clear he HDP
    go_wp2_with fail
    refine (link_any x _ hx0 hx1).mono ?_
    rintro e w7 ⟨rfl, hbx⟩
    have bz := below1 w5 (.cells #[.int .i64 0, .int .i64 0, .int .i64 0] 55)
    replace B1 := (B1.on bz).on hbx
    clear hbx bz
    rcases HLP.out with ⟨k', i', g', he, hk', hx'⟩ | he
    · rw [he]
      clear he HLP
      have HK2 := Lib.hid hk'
      have HX3 := Lib.hid hx'
      clear hk' hx'
      go_wp2_with fail
      refine (word_yes k' i' g' _ HK2.out).mono ?_
      rintro e w8 ⟨rfl, hbx⟩
      have bz := below1 w7 (.cells #[.int .i64 k', .int .i64 i', .int .i64 g'] 63)
      replace B1 := (B1.on bz).on hbx
      clear hbx bz
      rw [HX3.out]
      go_wp2_with fail
      refine (alive5law_any _).mono ?_
      rintro e w9 ⟨rfl, hbx⟩
      replace B1 := B1.on hbx
      clear hbx
      go_wp2
      go_ret
      exact ⟨rfl, B1⟩
    · rw [he]
      clear he HLP
      go_wp2_with fail
      refine (alive5law_any _).mono ?_
      rintro e w9 ⟨rfl, hbx⟩
      have bz := below1 w7 (.cells #[.int .i64 0, .int .i64 0, .int .i64 0] 63)
      replace B1 := (B1.on bz).on hbx
      clear hbx bz
      go_wp2
      go_ret
      exact ⟨rfl, B1⟩
theorem hback_yn (l c s k i g x : Int) (w : World) (hx0 : 0 ≤ x) (hx1 : x < 18446744073709551616) (hm : mayB l c s = true) (hk : mayLinkB k i g = false) :
    Calls Try.prog 15 #[.agg #[.int .i64 l, .int .i64 c, .int .i64 s], .agg #[.int .i64 k, .int .i64 i, .int .i64 g], .int .u64 x] w fun e w' => e = .returned (.bool true) ∧ Below w.heap.size w w' := by
  have HM := Lib.hid hm
  have HK := Lib.hid hk
  have HDP := Lib.hid (dec_parts hx0 hx1)
  have HLP := Lib.hid (link_parts hx0 hx1)
  have HB := Lib.hid (back_enc hm)
  have hin := enc_in hm
  clear hm hk
  go_enter Try.func15, Try.ntmps15
  go_wp2_with fail
  refine (encode_yes l c s _ HM.out).mono ?_
  rintro e w1 ⟨rfl, hbx⟩
  have d0 : w1.cell? ⟨w.heap.size, 0, none⟩ = some (.int .i64 l) := cell_on hbx (by go_simp); have d1 : w1.cell? ⟨w.heap.size, 1, none⟩ = some (.int .i64 c) := cell_on hbx (by go_simp); have d2 : w1.cell? ⟨w.heap.size, 2, none⟩ = some (.int .i64 s) := cell_on hbx (by go_simp)
  have g0 : w1.cell? ⟨w.heap.size + 1, 0, none⟩ = some (.int .i64 k) := cell_on hbx (by go_simp); have g1 : w1.cell? ⟨w.heap.size + 1, 1, none⟩ = some (.int .i64 i) := cell_on hbx (by go_simp); have g2 : w1.cell? ⟨w.heap.size + 1, 2, none⟩ = some (.int .i64 g) := cell_on hbx (by go_simp)
  have B1 := ((below1 w _).on (below1 _ _)).on hbx
  clear hbx
  generalize encI l c s = a at *
  go_wp2_with fail
  refine (decode_any a _ hin.1 hin.2).mono ?_
  rintro e w2 ⟨rfl, hbx⟩
  replace d0 := cell_on hbx d0
  replace d1 := cell_on hbx d1
  replace d2 := cell_on hbx d2
  replace g0 := cell_on hbx g0
  replace g1 := cell_on hbx g1
  replace g2 := cell_on hbx g2
  replace B1 := B1.on hbx
  clear hbx
  rw [HB.out]
  have bz := below1 w2 (.cells #[.int .i64 l, .int .i64 c, .int .i64 s] 55)
  have xd0 := cell_on bz d0
  have xd1 := cell_on bz d1
  have xd2 := cell_on bz d2
  have xg0 := cell_on bz g0
  have xg1 := cell_on bz g1
  have xg2 := cell_on bz g2
  go_wp2_with fail
  refine (word_no k i g _ HK.out).mono ?_
  rintro e w3 ⟨rfl, hbx⟩
  replace d0 := cell_on hbx xd0
  replace d1 := cell_on hbx xd1
  replace d2 := cell_on hbx xd2
  replace g0 := cell_on hbx xg0
  replace g1 := cell_on hbx xg1
  replace g2 := cell_on hbx xg2
  clear xd0 xd1 xd2 xg0 xg1 xg2
  replace B1 := (B1.on bz).on hbx
  clear hbx bz
  go_wp2_with fail
  refine (decode_any x _ hx0 hx1).mono ?_
  rintro e w5 ⟨rfl, hbx⟩
  replace d0 := cell_on hbx d0
  replace d1 := cell_on hbx d1
  replace d2 := cell_on hbx d2
  replace g0 := cell_on hbx g0
  replace g1 := cell_on hbx g1
  replace g2 := cell_on hbx g2
  replace B1 := B1.on hbx
  clear hbx
  clear d0 d1 d2 g0 g1 g2
  rcases HDP.out with ⟨l', c', s', he, hm', hx'⟩ | he
  · rw [he]
    clear he HDP
    have HM2 := Lib.hid hm'
    have HX2 := Lib.hid hx'
    clear hm' hx'
    go_wp2_with fail
    refine (encode_yes l' c' s' _ HM2.out).mono ?_
    rintro e w6 ⟨rfl, hbx⟩
    have bz := below1 w5 (.cells #[.int .i64 l', .int .i64 c', .int .i64 s'] 55)
    replace B1 := (B1.on bz).on hbx
    clear hbx bz
    rw [HX2.out]
    go_wp2_with fail
    refine (link_any x _ hx0 hx1).mono ?_
    rintro e w7 ⟨rfl, hbx⟩
    replace B1 := B1.on hbx
    clear hbx
    rcases HLP.out with ⟨k', i', g', he, hk', hx'⟩ | he
    · rw [he]
      clear he HLP
      have HK2 := Lib.hid hk'
      have HX3 := Lib.hid hx'
      clear hk' hx'
      go_wp2_with fail
      refine (word_yes k' i' g' _ HK2.out).mono ?_
      rintro e w8 ⟨rfl, hbx⟩
      have bz := below1 w7 (.cells #[.int .i64 k', .int .i64 i', .int .i64 g'] 63)
      replace B1 := (B1.on bz).on hbx
      clear hbx bz
      rw [HX3.out]
      go_wp2_with fail
      refine (alive5law_any _).mono ?_
      rintro e w9 ⟨rfl, hbx⟩
      replace B1 := B1.on hbx
      clear hbx
      go_wp2
      go_ret
      exact ⟨rfl, B1⟩
    · rw [he]
      clear he HLP
      go_wp2_with fail
      refine (alive5law_any _).mono ?_
      rintro e w9 ⟨rfl, hbx⟩
      have bz := below1 w7 (.cells #[.int .i64 0, .int .i64 0, .int .i64 0] 63)
      replace B1 := (B1.on bz).on hbx
      clear hbx bz
      go_wp2
      go_ret
      exact ⟨rfl, B1⟩
  · rw [he]
    clear he HDP
    go_wp2_with fail
    refine (link_any x _ hx0 hx1).mono ?_
    rintro e w7 ⟨rfl, hbx⟩
    have bz := below1 w5 (.cells #[.int .i64 0, .int .i64 0, .int .i64 0] 55)
    replace B1 := (B1.on bz).on hbx
    clear hbx bz
    rcases HLP.out with ⟨k', i', g', he, hk', hx'⟩ | he
    · rw [he]
      clear he HLP
      have HK2 := Lib.hid hk'
      have HX3 := Lib.hid hx'
      clear hk' hx'
      go_wp2_with fail
      refine (word_yes k' i' g' _ HK2.out).mono ?_
      rintro e w8 ⟨rfl, hbx⟩
      have bz := below1 w7 (.cells #[.int .i64 k', .int .i64 i', .int .i64 g'] 63)
      replace B1 := (B1.on bz).on hbx
      clear hbx bz
      rw [HX3.out]
      go_wp2_with fail
      refine (alive5law_any _).mono ?_
      rintro e w9 ⟨rfl, hbx⟩
      replace B1 := B1.on hbx
      clear hbx
      go_wp2
      go_ret
      exact ⟨rfl, B1⟩
    · rw [he]
      clear he HLP
      go_wp2_with fail
      refine (alive5law_any _).mono ?_
      rintro e w9 ⟨rfl, hbx⟩
      have bz := below1 w7 (.cells #[.int .i64 0, .int .i64 0, .int .i64 0] 63)
      replace B1 := (B1.on bz).on hbx
      clear hbx bz
      go_wp2
      go_ret
      exact ⟨rfl, B1⟩
theorem hback_ny (l c s k i g x : Int) (w : World) (hx0 : 0 ≤ x) (hx1 : x < 18446744073709551616) (hm : mayB l c s = false) (hk : mayLinkB k i g = true) :
    Calls Try.prog 15 #[.agg #[.int .i64 l, .int .i64 c, .int .i64 s], .agg #[.int .i64 k, .int .i64 i, .int .i64 g], .int .u64 x] w fun e w' => e = .returned (.bool true) ∧ Below w.heap.size w w' := by
  have HM := Lib.hid hm
  have HK := Lib.hid hk
  have HDP := Lib.hid (dec_parts hx0 hx1)
  have HLP := Lib.hid (link_parts hx0 hx1)
  have HBK := Lib.hid (back_word hk)
  have hin2 := refWord_in hk
  clear hm hk
  go_enter Try.func15, Try.ntmps15
  go_wp2_with fail
  refine (encode_no l c s _ HM.out).mono ?_
  rintro e w1 ⟨rfl, hbx⟩
  have d0 : w1.cell? ⟨w.heap.size, 0, none⟩ = some (.int .i64 l) := cell_on hbx (by go_simp); have d1 : w1.cell? ⟨w.heap.size, 1, none⟩ = some (.int .i64 c) := cell_on hbx (by go_simp); have d2 : w1.cell? ⟨w.heap.size, 2, none⟩ = some (.int .i64 s) := cell_on hbx (by go_simp)
  have g0 : w1.cell? ⟨w.heap.size + 1, 0, none⟩ = some (.int .i64 k) := cell_on hbx (by go_simp); have g1 : w1.cell? ⟨w.heap.size + 1, 1, none⟩ = some (.int .i64 i) := cell_on hbx (by go_simp); have g2 : w1.cell? ⟨w.heap.size + 1, 2, none⟩ = some (.int .i64 g) := cell_on hbx (by go_simp)
  have B1 := ((below1 w _).on (below1 _ _)).on hbx
  clear hbx
  go_wp2_with fail
  refine (word_yes k i g _ HK.out).mono ?_
  rintro e w3 ⟨rfl, hbx⟩
  replace d0 := cell_on hbx d0
  replace d1 := cell_on hbx d1
  replace d2 := cell_on hbx d2
  replace g0 := cell_on hbx g0
  replace g1 := cell_on hbx g1
  replace g2 := cell_on hbx g2
  replace B1 := B1.on hbx
  clear hbx
  generalize refWordI k i g = b at *
  go_wp2_with fail
  refine (link_any b _ hin2.1 hin2.2).mono ?_
  rintro e w4 ⟨rfl, hbx⟩
  replace d0 := cell_on hbx d0
  replace d1 := cell_on hbx d1
  replace d2 := cell_on hbx d2
  replace g0 := cell_on hbx g0
  replace g1 := cell_on hbx g1
  replace g2 := cell_on hbx g2
  replace B1 := B1.on hbx
  clear hbx
  rw [HBK.out]
  have bz := below1 w4 (.cells #[.int .i64 k, .int .i64 i, .int .i64 g] 63)
  have xd0 := cell_on bz d0
  have xd1 := cell_on bz d1
  have xd2 := cell_on bz d2
  have xg0 := cell_on bz g0
  have xg1 := cell_on bz g1
  have xg2 := cell_on bz g2
  go_wp2_with fail
  refine (decode_any x _ hx0 hx1).mono ?_
  rintro e w5 ⟨rfl, hbx⟩
  replace d0 := cell_on hbx xd0
  replace d1 := cell_on hbx xd1
  replace d2 := cell_on hbx xd2
  replace g0 := cell_on hbx xg0
  replace g1 := cell_on hbx xg1
  replace g2 := cell_on hbx xg2
  clear xd0 xd1 xd2 xg0 xg1 xg2
  replace B1 := (B1.on bz).on hbx
  clear hbx bz
  clear d0 d1 d2 g0 g1 g2
  rcases HDP.out with ⟨l', c', s', he, hm', hx'⟩ | he
  · rw [he]
    clear he HDP
    have HM2 := Lib.hid hm'
    have HX2 := Lib.hid hx'
    clear hm' hx'
    go_wp2_with fail
    refine (encode_yes l' c' s' _ HM2.out).mono ?_
    rintro e w6 ⟨rfl, hbx⟩
    have bz := below1 w5 (.cells #[.int .i64 l', .int .i64 c', .int .i64 s'] 55)
    replace B1 := (B1.on bz).on hbx
    clear hbx bz
    rw [HX2.out]
    go_wp2_with fail
    refine (link_any x _ hx0 hx1).mono ?_
    rintro e w7 ⟨rfl, hbx⟩
    replace B1 := B1.on hbx
    clear hbx
    rcases HLP.out with ⟨k', i', g', he, hk', hx'⟩ | he
    · rw [he]
      clear he HLP
      have HK2 := Lib.hid hk'
      have HX3 := Lib.hid hx'
      clear hk' hx'
      go_wp2_with fail
      refine (word_yes k' i' g' _ HK2.out).mono ?_
      rintro e w8 ⟨rfl, hbx⟩
      have bz := below1 w7 (.cells #[.int .i64 k', .int .i64 i', .int .i64 g'] 63)
      replace B1 := (B1.on bz).on hbx
      clear hbx bz
      rw [HX3.out]
      go_wp2_with fail
      refine (alive5law_any _).mono ?_
      rintro e w9 ⟨rfl, hbx⟩
      replace B1 := B1.on hbx
      clear hbx
      go_wp2
      go_ret
      exact ⟨rfl, B1⟩
    · rw [he]
      clear he HLP
      go_wp2_with fail
      refine (alive5law_any _).mono ?_
      rintro e w9 ⟨rfl, hbx⟩
      have bz := below1 w7 (.cells #[.int .i64 0, .int .i64 0, .int .i64 0] 63)
      replace B1 := (B1.on bz).on hbx
      clear hbx bz
      go_wp2
      go_ret
      exact ⟨rfl, B1⟩
  · rw [he]
    clear he HDP
    go_wp2_with fail
    refine (link_any x _ hx0 hx1).mono ?_
    rintro e w7 ⟨rfl, hbx⟩
    have bz := below1 w5 (.cells #[.int .i64 0, .int .i64 0, .int .i64 0] 55)
    replace B1 := (B1.on bz).on hbx
    clear hbx bz
    rcases HLP.out with ⟨k', i', g', he, hk', hx'⟩ | he
    · rw [he]
      clear he HLP
      have HK2 := Lib.hid hk'
      have HX3 := Lib.hid hx'
      clear hk' hx'
      go_wp2_with fail
      refine (word_yes k' i' g' _ HK2.out).mono ?_
      rintro e w8 ⟨rfl, hbx⟩
      have bz := below1 w7 (.cells #[.int .i64 k', .int .i64 i', .int .i64 g'] 63)
      replace B1 := (B1.on bz).on hbx
      clear hbx bz
      rw [HX3.out]
      go_wp2_with fail
      refine (alive5law_any _).mono ?_
      rintro e w9 ⟨rfl, hbx⟩
      replace B1 := B1.on hbx
      clear hbx
      go_wp2
      go_ret
      exact ⟨rfl, B1⟩
    · rw [he]
      clear he HLP
      go_wp2_with fail
      refine (alive5law_any _).mono ?_
      rintro e w9 ⟨rfl, hbx⟩
      have bz := below1 w7 (.cells #[.int .i64 0, .int .i64 0, .int .i64 0] 63)
      replace B1 := (B1.on bz).on hbx
      clear hbx bz
      go_wp2
      go_ret
      exact ⟨rfl, B1⟩
theorem hback_nn (l c s k i g x : Int) (w : World) (hx0 : 0 ≤ x) (hx1 : x < 18446744073709551616) (hm : mayB l c s = false) (hk : mayLinkB k i g = false) :
    Calls Try.prog 15 #[.agg #[.int .i64 l, .int .i64 c, .int .i64 s], .agg #[.int .i64 k, .int .i64 i, .int .i64 g], .int .u64 x] w fun e w' => e = .returned (.bool true) ∧ Below w.heap.size w w' := by
  have HM := Lib.hid hm
  have HK := Lib.hid hk
  have HDP := Lib.hid (dec_parts hx0 hx1)
  have HLP := Lib.hid (link_parts hx0 hx1)
  clear hm hk
  go_enter Try.func15, Try.ntmps15
  go_wp2_with fail
  refine (encode_no l c s _ HM.out).mono ?_
  rintro e w1 ⟨rfl, hbx⟩
  have d0 : w1.cell? ⟨w.heap.size, 0, none⟩ = some (.int .i64 l) := cell_on hbx (by go_simp); have d1 : w1.cell? ⟨w.heap.size, 1, none⟩ = some (.int .i64 c) := cell_on hbx (by go_simp); have d2 : w1.cell? ⟨w.heap.size, 2, none⟩ = some (.int .i64 s) := cell_on hbx (by go_simp)
  have g0 : w1.cell? ⟨w.heap.size + 1, 0, none⟩ = some (.int .i64 k) := cell_on hbx (by go_simp); have g1 : w1.cell? ⟨w.heap.size + 1, 1, none⟩ = some (.int .i64 i) := cell_on hbx (by go_simp); have g2 : w1.cell? ⟨w.heap.size + 1, 2, none⟩ = some (.int .i64 g) := cell_on hbx (by go_simp)
  have B1 := ((below1 w _).on (below1 _ _)).on hbx
  clear hbx
  go_wp2_with fail
  refine (word_no k i g _ HK.out).mono ?_
  rintro e w3 ⟨rfl, hbx⟩
  replace d0 := cell_on hbx d0
  replace d1 := cell_on hbx d1
  replace d2 := cell_on hbx d2
  replace g0 := cell_on hbx g0
  replace g1 := cell_on hbx g1
  replace g2 := cell_on hbx g2
  replace B1 := B1.on hbx
  clear hbx
  go_wp2_with fail
  refine (decode_any x _ hx0 hx1).mono ?_
  rintro e w5 ⟨rfl, hbx⟩
  replace d0 := cell_on hbx d0
  replace d1 := cell_on hbx d1
  replace d2 := cell_on hbx d2
  replace g0 := cell_on hbx g0
  replace g1 := cell_on hbx g1
  replace g2 := cell_on hbx g2
  replace B1 := B1.on hbx
  clear hbx
  clear d0 d1 d2 g0 g1 g2
  rcases HDP.out with ⟨l', c', s', he, hm', hx'⟩ | he
  · rw [he]
    clear he HDP
    have HM2 := Lib.hid hm'
    have HX2 := Lib.hid hx'
    clear hm' hx'
    go_wp2_with fail
    refine (encode_yes l' c' s' _ HM2.out).mono ?_
    rintro e w6 ⟨rfl, hbx⟩
    have bz := below1 w5 (.cells #[.int .i64 l', .int .i64 c', .int .i64 s'] 55)
    replace B1 := (B1.on bz).on hbx
    clear hbx bz
    rw [HX2.out]
    go_wp2_with fail
    refine (link_any x _ hx0 hx1).mono ?_
    rintro e w7 ⟨rfl, hbx⟩
    replace B1 := B1.on hbx
    clear hbx
    rcases HLP.out with ⟨k', i', g', he, hk', hx'⟩ | he
    · rw [he]
      clear he HLP
      have HK2 := Lib.hid hk'
      have HX3 := Lib.hid hx'
      clear hk' hx'
      go_wp2_with fail
      refine (word_yes k' i' g' _ HK2.out).mono ?_
      rintro e w8 ⟨rfl, hbx⟩
      have bz := below1 w7 (.cells #[.int .i64 k', .int .i64 i', .int .i64 g'] 63)
      replace B1 := (B1.on bz).on hbx
      clear hbx bz
      rw [HX3.out]
      go_wp2_with fail
      refine (alive5law_any _).mono ?_
      rintro e w9 ⟨rfl, hbx⟩
      replace B1 := B1.on hbx
      clear hbx
      go_wp2
      go_ret
      exact ⟨rfl, B1⟩
    · rw [he]
      clear he HLP
      go_wp2_with fail
      refine (alive5law_any _).mono ?_
      rintro e w9 ⟨rfl, hbx⟩
      have bz := below1 w7 (.cells #[.int .i64 0, .int .i64 0, .int .i64 0] 63)
      replace B1 := (B1.on bz).on hbx
      clear hbx bz
      go_wp2
      go_ret
      exact ⟨rfl, B1⟩
  · rw [he]
    clear he HDP
    go_wp2_with fail
    refine (link_any x _ hx0 hx1).mono ?_
    rintro e w7 ⟨rfl, hbx⟩
    have bz := below1 w5 (.cells #[.int .i64 0, .int .i64 0, .int .i64 0] 55)
    replace B1 := (B1.on bz).on hbx
    clear hbx bz
    rcases HLP.out with ⟨k', i', g', he, hk', hx'⟩ | he
    · rw [he]
      clear he HLP
      have HK2 := Lib.hid hk'
      have HX3 := Lib.hid hx'
      clear hk' hx'
      go_wp2_with fail
      refine (word_yes k' i' g' _ HK2.out).mono ?_
      rintro e w8 ⟨rfl, hbx⟩
      have bz := below1 w7 (.cells #[.int .i64 k', .int .i64 i', .int .i64 g'] 63)
      replace B1 := (B1.on bz).on hbx
      clear hbx bz
      rw [HX3.out]
      go_wp2_with fail
      refine (alive5law_any _).mono ?_
      rintro e w9 ⟨rfl, hbx⟩
      replace B1 := B1.on hbx
      clear hbx
      go_wp2
      go_ret
      exact ⟨rfl, B1⟩
    · rw [he]
      clear he HLP
      go_wp2_with fail
      refine (alive5law_any _).mono ?_
      rintro e w9 ⟨rfl, hbx⟩
      have bz := below1 w7 (.cells #[.int .i64 0, .int .i64 0, .int .i64 0] 63)
      replace B1 := (B1.on bz).on hbx
      clear hbx bz
      go_wp2
      go_ret
      exact ⟨rfl, B1⟩
theorem hback_walk (l c s k i g x : Int) (w : World) (hx0 : 0 ≤ x) (hx1 : x < 18446744073709551616) :
    Calls Try.prog 15 #[.agg #[.int .i64 l, .int .i64 c, .int .i64 s], .agg #[.int .i64 k, .int .i64 i, .int .i64 g], .int .u64 x] w fun e w' => e = .returned (.bool true) ∧ Below w.heap.size w w' := by
  cases hm : mayB l c s <;> cases hk : mayLinkB k i g
  · exact hback_nn l c s k i g x w hx0 hx1 hm hk
  · exact hback_ny l c s k i g x w hx0 hx1 hm hk
  · exact hback_yn l c s k i g x w hx0 hx1 hm hk
  · exact hback_yy l c s k i g x w hx0 hx1 hm hk
end Go.Proofs.Ytagccnjkgnaimaa
