/- HeaderParts: the walk. -/
import Derived.Test.YtagccnjkgnaimaaH3
import Derived.Laws.BitsLemmas
namespace Go.Proofs.Ytagccnjkgnaimaa
open Go.RowKit Go.Proofs.YtagccnjkgnaimaaW.PrintWords
set_option linter.unusedVariables false
set_option linter.unusedSimpArgs false
theorem slot_in (x : Int) : 0 ≤ wrap64 ((IntKind.u64.wrap x).tmod 4096) ∧ wrap64 ((IntKind.u64.wrap x).tmod 4096) ≤ 4095 := by
  rw [IntKind.wrap_u64, Int.tmod_eq_emod_of_nonneg (by omega)]
  unfold wrap64
  omega
theorem parts_law (l c s q : Int) (h : mayB l c s = true) (h0 : 0 ≤ q) (h1 : q ≤ 4095) :
    (encI l c s / 65536 == encI l c q / 65536) = true ∧ (encI l c s / 72057594037927936 == 165) = true ∧ (wrap64 (bits .and .u64 (encI l c q) 65535) == q) = true := by
  obtain ⟨a1, a2, a3, a4, a5, a6⟩ := mayB_iff.1 h
  have e : bits .and .u64 (encI l c q) 65535 = q := by
    have hm := bits_mask .u64 64 (by decide) (fun n g0 g1 => by rw [IntKind.wrap_u64]; omega) 16 (by decide) (encI l c q) (by unfold encI; omega) (by unfold encI; omega)
    rw [show ((2 : Int) ^ 16 - 1) = 65535 by decide] at hm
    rw [hm]; unfold encI; omega
  rw [e, beq_iff_eq, beq_iff_eq, beq_iff_eq]
  unfold encI wrap64
  omega
theorem hparts_walk (l c s x : Int) (w : World) :
    Calls Try.prog 10 #[.agg #[.int .i64 l, .int .i64 c, .int .i64 s], .int .i64 x] w fun e w' => e = .returned (.bool true) ∧ Below w.heap.size w w' := by
  have hq := slot_in x
  by_cases hm : mayB l c s = true
  · have HM := Lib.hid hm
    have hm2 : ∀ q, 0 ≤ q → q ≤ 4095 → mayB l c q = true := fun q h0 h1 => by
      obtain ⟨a1, a2, a3, a4, a5, a6⟩ := mayB_iff.1 hm
      exact mayB_iff.2 ⟨a1, a2, a3, a4, h0, h1⟩
    have HM2 := Lib.hid hm2
    clear hm hm2
    go_enter Try.func10, Try.ntmps10
    go_wp2_with fail
    generalize wrap64 ((IntKind.u64.wrap x).tmod 4096) = q at hq ⊢
    obtain ⟨hq0, hq1⟩ := hq
    have HL := Lib.hid (parts_law l c s q HM.out hq0 hq1)
    refine (encode_yes l c s _ HM.out).mono ?_
    rintro e w1 ⟨rfl, hbx⟩
    have d0 : w1.cell? ⟨w.heap.size, 0, none⟩ = some (.int .i64 l) := cell_on hbx (by go_simp); have d1 : w1.cell? ⟨w.heap.size, 1, none⟩ = some (.int .i64 c) := cell_on hbx (by go_simp); have d2 : w1.cell? ⟨w.heap.size, 2, none⟩ = some (.int .i64 s) := cell_on hbx (by go_simp)
    have g0 : w1.cell? ⟨w.heap.size + 1, 0, none⟩ = some (.int .i64 l) := cell_on hbx (by go_simp); have g1 : w1.cell? ⟨w.heap.size + 1, 1, none⟩ = some (.int .i64 c) := cell_on hbx (by go_simp); have g2 : w1.cell? ⟨w.heap.size + 1, 2, none⟩ = some (.int .i64 q) := cell_on hbx (by go_simp)
    have B1 := ((below1 w _).on (below1 _ _)).on hbx
    clear hbx
    go_wp2_with fail
    refine (encode_yes l c q _ (HM2.out q hq0 hq1)).mono ?_
    rintro e w2 ⟨rfl, hbx⟩
    replace d0 := cell_on hbx d0; replace d1 := cell_on hbx d1; replace d2 := cell_on hbx d2; replace g0 := cell_on hbx g0; replace g1 := cell_on hbx g1; replace g2 := cell_on hbx g2
    replace B1 := B1.on hbx
    clear hbx
    go_wp2_with fail
    refine (refmay_any l c s _).mono ?_
    rintro e w3 ⟨rfl, hbx⟩
    replace d0 := cell_on hbx d0; replace d1 := cell_on hbx d1; replace d2 := cell_on hbx d2; replace g0 := cell_on hbx g0; replace g1 := cell_on hbx g1; replace g2 := cell_on hbx g2
    replace B1 := B1.on hbx
    clear hbx
    rw [HM.out]
    go_wp2_with fail
    refine (alive5law_any _).mono ?_
    rintro e w4 ⟨rfl, hbx⟩
    replace d0 := cell_on hbx d0; replace d1 := cell_on hbx d1; replace d2 := cell_on hbx d2; replace g0 := cell_on hbx g0; replace g1 := cell_on hbx g1; replace g2 := cell_on hbx g2
    replace B1 := B1.on hbx
    clear hbx
    obtain ⟨t1, t2, t3⟩ := HL.out
    generalize encI l c s = a at t1 t2 ⊢
    generalize encI l c q = b at t1 t3 ⊢
    go_wp2
    go_ret
    exact ⟨rfl, B1⟩
  · have HM := Lib.hid (Bool.eq_false_iff.2 hm)
    clear hm
    go_enter Try.func10, Try.ntmps10
    go_wp2_with fail
    generalize wrap64 ((IntKind.u64.wrap x).tmod 4096) = q at hq ⊢
    obtain ⟨hq0, hq1⟩ := hq
    refine (encode_no l c s _ HM.out).mono ?_
    rintro e w1 ⟨rfl, hbx⟩
    have d0 : w1.cell? ⟨w.heap.size, 0, none⟩ = some (.int .i64 l) := cell_on hbx (by go_simp); have d1 : w1.cell? ⟨w.heap.size, 1, none⟩ = some (.int .i64 c) := cell_on hbx (by go_simp); have d2 : w1.cell? ⟨w.heap.size, 2, none⟩ = some (.int .i64 s) := cell_on hbx (by go_simp)
    have g0 : w1.cell? ⟨w.heap.size + 1, 0, none⟩ = some (.int .i64 l) := cell_on hbx (by go_simp); have g1 : w1.cell? ⟨w.heap.size + 1, 1, none⟩ = some (.int .i64 c) := cell_on hbx (by go_simp); have g2 : w1.cell? ⟨w.heap.size + 1, 2, none⟩ = some (.int .i64 q) := cell_on hbx (by go_simp)
    have B1 := ((below1 w _).on (below1 _ _)).on hbx
    clear hbx
    by_cases hm2 : mayB l c q = true
    · have HM2 := Lib.hid hm2
      clear hm2
      go_wp2_with fail
      refine (encode_yes l c q _ HM2.out).mono ?_
      rintro e w2 ⟨rfl, hbx⟩
      replace d0 := cell_on hbx d0; replace d1 := cell_on hbx d1; replace d2 := cell_on hbx d2; replace g0 := cell_on hbx g0; replace g1 := cell_on hbx g1; replace g2 := cell_on hbx g2
      replace B1 := B1.on hbx
      clear hbx
      go_wp2_with fail
      refine (refmay_any l c s _).mono ?_
      rintro e w3 ⟨rfl, hbx⟩
      replace d0 := cell_on hbx d0; replace d1 := cell_on hbx d1; replace d2 := cell_on hbx d2; replace g0 := cell_on hbx g0; replace g1 := cell_on hbx g1; replace g2 := cell_on hbx g2
      replace B1 := B1.on hbx
      clear hbx
      rw [HM.out]
      go_wp2_with fail
      refine (alive5law_any _).mono ?_
      rintro e w4 ⟨rfl, hbx⟩
      replace d0 := cell_on hbx d0; replace d1 := cell_on hbx d1; replace d2 := cell_on hbx d2; replace g0 := cell_on hbx g0; replace g1 := cell_on hbx g1; replace g2 := cell_on hbx g2
      replace B1 := B1.on hbx
      clear hbx
      go_wp2
      go_ret
      exact ⟨rfl, B1⟩
    · have HM2 := Lib.hid (Bool.eq_false_iff.2 hm2)
      clear hm2
      go_wp2_with fail
      refine (encode_no l c q _ HM2.out).mono ?_
      rintro e w2 ⟨rfl, hbx⟩
      replace d0 := cell_on hbx d0; replace d1 := cell_on hbx d1; replace d2 := cell_on hbx d2; replace g0 := cell_on hbx g0; replace g1 := cell_on hbx g1; replace g2 := cell_on hbx g2
      replace B1 := B1.on hbx
      clear hbx
      go_wp2_with fail
      refine (refmay_any l c s _).mono ?_
      rintro e w3 ⟨rfl, hbx⟩
      replace d0 := cell_on hbx d0; replace d1 := cell_on hbx d1; replace d2 := cell_on hbx d2; replace g0 := cell_on hbx g0; replace g1 := cell_on hbx g1; replace g2 := cell_on hbx g2
      replace B1 := B1.on hbx
      clear hbx
      rw [HM.out]
      go_wp2_with fail
      refine (alive5law_any _).mono ?_
      rintro e w4 ⟨rfl, hbx⟩
      replace d0 := cell_on hbx d0; replace d1 := cell_on hbx d1; replace d2 := cell_on hbx d2; replace g0 := cell_on hbx g0; replace g1 := cell_on hbx g1; replace g2 := cell_on hbx g2
      replace B1 := B1.on hbx
      clear hbx
      go_wp2
      go_ret
      exact ⟨rfl, B1⟩
end Go.Proofs.Ytagccnjkgnaimaa
