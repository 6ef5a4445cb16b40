/- Contracts of the package header and of its document: walks. -/
import Derived.Test.YtagccnjkgnaimaaH1
import Derived.Test.YtagccnjkgnaimaaB
import Derived.Laws.StructEq
import Derived.Lib.SmallJoins
namespace Go.Proofs.Ytagccnjkgnaimaa
open Go.RowKit Go.Proofs.YtagccnjkgnaimaaW.PrintWords
set_option linter.unusedVariables false
theorem may_any (l c s : Int) (w : World) : Calls Try.prog 43 #[.agg #[.int .i64 l, .int .i64 c, .int .i64 s]] w fun e w' => e = .returned (.bool (mayB l c s)) ∧ Below w.heap.size w w' := by
  go_enter Try.func43, Try.ntmps43
  go_wp2
  all_goals (go_ret; exact ⟨ret_bool (by simp [mayB, *] <;> omega), below1 _ _⟩)
theorem refmay_any (l c s : Int) (w : World) : Calls Try.prog 30 #[.agg #[.int .i64 l, .int .i64 c, .int .i64 s]] w fun e w' => e = .returned (.bool (mayB l c s)) ∧ Below w.heap.size w w' := by
  go_enter Try.func30, Try.ntmps30
  go_wp2
  all_goals (go_ret; exact ⟨ret_bool (by simp [mayB, *] <;> omega), below1 _ _⟩)
theorem alive5_any (i g : Int) (w : World) : Calls Try.prog 45 #[.agg #[.int .i64 i, .int .i64 g]] w fun e w' => e = .returned (.bool (aliveB i g)) ∧ Below w.heap.size w w' := by
  go_enter Try.func45, Try.ntmps45
  go_wp2
  all_goals (go_ret; exact ⟨ret_bool (by simp [aliveB, *] <;> omega), below1 _ _⟩)
theorem refenc_any (l c s : Int) (w : World) (h : mayB l c s = true) : Calls Try.prog 33 #[.agg #[.int .i64 l, .int .i64 c, .int .i64 s]] w fun e w' => e = .returned (.int .u64 (encI l c s)) ∧ Below w.heap.size w w' := by
  obtain ⟨h1, h2, h3, h4, h5, h6⟩ := mayB_iff.1 h
  clear h
  go_enter Try.func33, Try.ntmps33
  go_wp2
  go_ret
  exact ⟨ret_int (by unfold encI; omega), below1 _ _⟩
theorem fields_any (w : World) : Calls Try.prog 44 #[] w fun e w' => e = .returned (.slice (some ⟨w.heap.size, 0, none⟩) 5 5) ∧ w' = w.alloc (.cells #[.int .i64 0, .int .i64 16, .int .i64 16, .int .i64 16, .int .i64 32, .int .i64 8, .int .i64 40, .int .i64 16, .int .i64 56, .int .i64 8] 24) := by
  go_enter Try.func44, Try.ntmps44
  go_wp2
  go_ret
  exact ⟨rfl, rfl⟩
theorem links_any (w : World) : Calls Try.prog 46 #[] w fun e w' => e = .returned (.slice (some ⟨w.heap.size, 0, none⟩) 2 2) ∧ w' = w.alloc (.cells #[.int .i64 0, .int .i64 32, .int .i64 32, .int .i64 32] 24) := by
  go_enter Try.func46, Try.ntmps46
  go_wp2
  go_ret
  exact ⟨rfl, rfl⟩
theorem encode_no (l c s : Int) (w : World) (h : mayB l c s = false) : Calls Try.prog 29 #[.agg #[.int .i64 l, .int .i64 c, .int .i64 s]] w fun e w' => e = .returned (.tuple #[.int .u64 0, .int .i64 3]) ∧ Below w.heap.size w w' := by
  go_enter Try.func29, Try.ntmps29
  go_wp2_with (go_at_call 43; refine (may_any l c s _).mono ?_; rintro e w1 ⟨rfl, hbx⟩)
  go_ret2
  exact ⟨rfl, (below1 _ _).on hbx⟩
theorem encode_yes (l c s : Int) (w : World) (h : mayB l c s = true) : Calls Try.prog 29 #[.agg #[.int .i64 l, .int .i64 c, .int .i64 s]] w fun e w' => e = .returned (.tuple #[.int .u64 (encI l c s), .int .i64 0]) ∧ Below w.heap.size w w' := by
  have HP := Lib.hid (show packI [(0, 16), (16, 16), (32, 8), (40, 16), (56, 8)] [s, c, l, 0, 165] = (encI l c s, 0) from pack_header l c s h)
  obtain ⟨h1, h2, h3, h4, h5, h6⟩ := mayB_iff.1 h
  have HM := Lib.hid h
  clear h
  have e1 : IntKind.u64.wrap l = l := by rw [IntKind.wrap_u64]; omega
  have e2 : IntKind.u64.wrap c = c := by rw [IntKind.wrap_u64]; omega
  have e3 : IntKind.u64.wrap s = s := by rw [IntKind.wrap_u64]; omega
  go_enter Try.func29, Try.ntmps29
  go_wp2_with (go_at_call 43; refine (may_any l c s _).mono ?_; rintro e w1 ⟨rfl, hbx⟩; rw [HM.out])
  have d0 : w1.cell? ⟨w.heap.size, 0, none⟩ = some (.int .i64 l) := cell_on hbx (by go_simp)
  have d1 : w1.cell? ⟨w.heap.size, 1, none⟩ = some (.int .i64 c) := cell_on hbx (by go_simp)
  have d2 : w1.cell? ⟨w.heap.size, 2, none⟩ = some (.int .i64 s) := cell_on hbx (by go_simp)
  have B1 := (below1 w _).on hbx
  clear hbx
  go_region_held3 (fun wk => (wk.cell? ⟨w.heap.size, 0, none⟩ = some (.int .i64 l) ∧ wk.cell? ⟨w.heap.size, 1, none⟩ = some (.int .i64 c) ∧ wk.cell? ⟨w.heap.size, 2, none⟩ = some (.int .i64 s)) ∧ Below w.heap.size w wk) (first | exact kp3_drew ⟨⟨d0, d1, d2⟩, B1⟩ | exact kp3_alloc _ (by assumption) | exact kp3_call (by assumption) (by assumption)) (first | (go_at_call 44; refine (fields_any _).mono ?_; rintro e w2 ⟨rfl, rfl⟩) | (go_at_call 22; refine (pack_ok _ _ [(0, 16), (16, 16), (32, 8), (40, 16), (56, 8)] [s, c, l, 0, 165] 5 5 _ (by intro i hi; refine ⟨_, _, rfl, ?_, ?_⟩ <;> (rcases i with _ | _ | _ | _ | _ | i <;> first | (go_simp; done) | (simp at hi; omega))) (by intro i hi; refine ⟨_, _, rfl, ?_⟩; (rcases i with _ | _ | _ | _ | _ | i <;> first | (go_simp; done) | (simp at hi; omega))) (by intro x hx; simp at hx; omega) (by decide) rfl (by decide +kernel)).mono ?_; rintro e w3 ⟨rfl, hb3⟩; rw [HP.out]))
  all_goals (
    have B3 := (by assumption : _ ∧ Below w.heap.size w w3).2
    go_wp2
    go_ret2
    exact ⟨rfl, B3⟩)
end Go.Proofs.Ytagccnjkgnaimaa
