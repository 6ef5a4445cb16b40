/- Is a layout right; its size: walks. -/
import Derived.Test.YtcffenekomiakaaR
namespace Go.Proofs.Ytcffenekomiakaa
open Go.RowKit
set_option linter.unusedVariables false
set_option linter.unusedSimpArgs false
variable {w w' : World}
/-- A layout's two slices lie in memory. -/
structure LayIs (w : World) (x : Lay) (A1 : Option Addr) (c1 : Nat) (A2 : Option Addr) (c2 : Nat) : Prop where
  h1 : SliceOf w A1 1 encI 0 x.refs
  k1 : x.refs.length ≤ c1
  m1 : x.refs.length ≤ maxLen
  h2 : SliceOf w A2 1 encI 0 x.recs
  k2 : x.recs.length ≤ c2
  m2 : x.recs.length ≤ maxLen
theorem LayIs.on {x : Lay} {A1 A2 : Option Addr} {c1 c2 : Nat} (h : LayIs w x A1 c1 A2 c2) (hb : Below w.heap.size w w') : LayIs w' x A1 c1 A2 c2 := { h with h1 := h.h1.on hb, h2 := h.h2.on hb }
def layV (x : Lay) (A1 : Option Addr) (c1 : Nat) (A2 : Option Addr) (c2 : Nat) : Value := .agg #[.int .i64 x.fixed, .slice A1 x.refs.length c1, .int .i64 x.record, .slice A2 x.recs.length c2]
def layCells (x : Lay) (A1 : Option Addr) (c1 : Nat) (A2 : Option Addr) (c2 : Nat) : Array Value := #[.int .i64 x.fixed, .slice A1 x.refs.length c1, .int .i64 x.record, .slice A2 x.recs.length c2]
set_option maxRecDepth 100000 in
theorem refright_any (x : Lay) (A1 : Option Addr) (c1 : Nat) (A2 : Option Addr) (c2 : Nat) (w : World) (h : LayIs w x A1 c1 A2 c2) :
    Calls Try.prog 10 #[layV x A1 c1 A2 c2] w fun e w' => e = .returned (.bool x.right) ∧ Below w.heap.size w w' := by
  have hA : Hid (∀ X, LayIs X x A1 c1 A2 c2 → Calls Try.prog 24 #[.slice A1 x.refs.length c1, .int .i64 x.fixed] X fun e w' => e = .returned (.bool (riseB x.refs x.fixed)) ∧ Below X.heap.size X w') := Lib.hid (fun X hX => refrise_any _ _ _ _ X hX.h1 hX.m1)
  have hB : Hid (∀ X, LayIs X x A1 c1 A2 c2 → Calls Try.prog 24 #[.slice A2 x.recs.length c2, .int .i64 x.record] X fun e w' => e = .returned (.bool (riseB x.recs x.record)) ∧ Below X.heap.size X w') := Lib.hid (fun X hX => refrise_any _ _ _ _ X hX.h2 hX.m2)
  have hb0 := below1 w (.cells #[.int .i64 x.fixed, .slice A1 x.refs.length c1, .int .i64 x.record, .slice A2 x.recs.length c2] 24)
  have HL := Lib.hid (h.on hb0)
  have HB0 := Lib.hid hb0
  have hblk := heap_alloc_new w (.cells #[.int .i64 x.fixed, .slice A1 x.refs.length c1, .int .i64 x.record, .slice A2 x.recs.length c2] 24)
  have HBK := Lib.hid hblk
  clear h hb0 hblk
  unfold layV
  by_cases f0 : x.fixed < 0
  · have q : Hid (x.right = false) := Lib.hid (by unfold Lay.right Lay.nums; rw [decide_eq_false (by omega)]; rfl)
    generalize x.right = rr at *
    generalize x.fixed = F at *
    generalize x.record = R at *
    have d0 : decide (F < 0) = true := decide_eq_true f0
    clear f0
    go_enter Try.func10, Try.ntmps10
    go_wp2_with fail
    go_ret
    exact ⟨ret_bool q.out.symm, HB0.out⟩
  · by_cases f1 : 64 < x.fixed
    · have q : Hid (x.right = false) := Lib.hid (by unfold Lay.right Lay.nums; rw [decide_eq_false (by omega)]; rfl)
      generalize x.right = rr at *
      generalize x.fixed = F at *
      generalize x.record = R at *
      have d0 : decide (F < 0) = false := decide_eq_false f0
      have d1 : decide (64 < F) = true := decide_eq_true f1
      clear f0 f1
      go_enter Try.func10, Try.ntmps10
      go_wp2_with fail
      go_ret
      exact ⟨ret_bool q.out.symm, HB0.out⟩
    · by_cases f2 : x.record < 0
      · have q : Hid (x.right = false) := Lib.hid (by unfold Lay.right Lay.nums; rw [decide_eq_false (by omega)]; rfl)
        generalize x.right = rr at *
        generalize x.fixed = F at *
        generalize x.record = R at *
        have d0 : decide (F < 0) = false := decide_eq_false f0
        have d1 : decide (64 < F) = false := decide_eq_false f1
        have d2 : decide (R < 0) = true := decide_eq_true f2
        clear f0 f1 f2
        go_enter Try.func10, Try.ntmps10
        go_wp2_with fail
        go_ret
        exact ⟨ret_bool q.out.symm, HB0.out⟩
      · by_cases f3 : 64 < x.record
        · have q : Hid (x.right = false) := Lib.hid (by unfold Lay.right Lay.nums; rw [decide_eq_false (by omega)]; rfl)
          generalize x.right = rr at *
          generalize x.fixed = F at *
          generalize x.record = R at *
          have d0 : decide (F < 0) = false := decide_eq_false f0
          have d1 : decide (64 < F) = false := decide_eq_false f1
          have d2 : decide (R < 0) = false := decide_eq_false f2
          have d3 : decide (64 < R) = true := decide_eq_true f3
          clear f0 f1 f2 f3
          go_enter Try.func10, Try.ntmps10
          go_wp2_with fail
          go_ret
          exact ⟨ret_bool q.out.symm, HB0.out⟩
        · have hr : x.right = (riseB x.refs x.fixed && riseB x.recs x.record && decide (0 < x.fixed + x.record)) := by
            have e : x.nums = decide (0 < x.fixed + x.record) := decide_eq_decide.2 (by omega)
            unfold Lay.right
            rw [e]
            generalize decide (0 < x.fixed + x.record) = z
            cases riseB x.refs x.fixed <;> cases riseB x.recs x.record <;> cases z <;> rfl
          have q := Lib.hid hr
          clear hr
          generalize hR1 : riseB x.refs x.fixed = ra at *
          generalize hR2 : riseB x.recs x.record = rb at *
          clear hR1 hR2
          generalize x.right = rr at *
          generalize x.fixed = F at *
          generalize x.record = R at *
          have d0 : decide (F < 0) = false := decide_eq_false f0
          have d1 : decide (64 < F) = false := decide_eq_false f1
          have d2 : decide (R < 0) = false := decide_eq_false f2
          have d3 : decide (64 < R) = false := decide_eq_false f3
          have d5 : decide (0 < F + R) = (decide (0 < F) || decide (0 < R)) := by
            by_cases g1 : 0 < F
            · rw [decide_eq_true g1, decide_eq_true (by omega)]; rfl
            · by_cases g2 : 0 < R
              · rw [decide_eq_true g2, decide_eq_true (by omega)]; simp
              · rw [decide_eq_false g1, decide_eq_false g2, decide_eq_false (by omega)]; rfl
          rw [d5] at q
          clear d5 f0 f1 f2 f3
          go_enter Try.func10, Try.ntmps10
          have k0 := (blk_cells HBK.out 0).trans rfl
          have k1 := (blk_cells HBK.out 1).trans rfl
          have k2 := (blk_cells HBK.out 2).trans rfl
          have k3 := (blk_cells HBK.out 3).trans rfl
          go_wp2_with fail
          refine (hA.out _ HL.out).mono ?_
          rintro e w2 ⟨rfl, hb⟩
          have HL2 := Lib.hid (HL.out.on hb)
          have HB2 := Lib.hid (HB0.out.on hb)
          have g2 := cell_on hb k2
          have g3 := cell_on hb k3
          have g0 := cell_on hb k0
          clear hb k0 k1 k2 k3
          go_wp2_with fail
          refine (hB.out _ HL2.out).mono ?_
          rintro e w3 ⟨rfl, hb⟩
          have HB3 := Lib.hid (HB2.out.on hb)
          have m2 := cell_on hb g2
          have m0 := cell_on hb g0
          clear hb g2 g3 g0
          cases ra <;> cases rb
          all_goals
            clear hA hB HL2 HBK HL
            go_wp2
            all_goals
              go_ret
              exact ⟨ret_bool (by rw [q.out]; first | (simp; done) | (simp [*]; done) | trace_state), HB3.out⟩
set_option maxRecDepth 100000 in
theorem right_lay (x : Lay) (A1 : Option Addr) (c1 : Nat) (A2 : Option Addr) (c2 : Nat) (w : World) (h : LayIs w x A1 c1 A2 c2) :
    Calls Try.prog 23 #[layV x A1 c1 A2 c2] w fun e w' => e = .returned (.bool x.right) ∧ Below w.heap.size w w' := by
  have hA : Hid (∀ X, LayIs X x A1 c1 A2 c2 → Calls Try.prog 33 #[.slice A1 x.refs.length c1, .int .i64 x.fixed] X fun e w' => e = .returned (.bool (riseB x.refs x.fixed)) ∧ Below X.heap.size X w') := Lib.hid (fun X hX => rises_any _ _ _ _ X hX.h1 hX.m1)
  have hB : Hid (∀ X, LayIs X x A1 c1 A2 c2 → Calls Try.prog 33 #[.slice A2 x.recs.length c2, .int .i64 x.record] X fun e w' => e = .returned (.bool (riseB x.recs x.record)) ∧ Below X.heap.size X w') := Lib.hid (fun X hX => rises_any _ _ _ _ X hX.h2 hX.m2)
  have hb0 := below1 w (.cells #[.int .i64 x.fixed, .slice A1 x.refs.length c1, .int .i64 x.record, .slice A2 x.recs.length c2] 24)
  have HL := Lib.hid (h.on hb0)
  have HB0 := Lib.hid hb0
  have hblk := heap_alloc_new w (.cells #[.int .i64 x.fixed, .slice A1 x.refs.length c1, .int .i64 x.record, .slice A2 x.recs.length c2] 24)
  have HBK := Lib.hid hblk
  clear h hb0 hblk
  unfold layV
  by_cases f0 : x.fixed < 0
  · have q : Hid (x.right = false) := Lib.hid (by unfold Lay.right Lay.nums; rw [decide_eq_false (by omega)]; rfl)
    generalize x.right = rr at *
    generalize x.fixed = F at *
    generalize x.record = R at *
    have d0 : decide (F < 0) = true := decide_eq_true f0
    clear f0
    go_enter Try.func23, Try.ntmps23
    go_wp2_with fail
    go_ret
    exact ⟨ret_bool q.out.symm, HB0.out⟩
  · by_cases f1 : 64 < x.fixed
    · have q : Hid (x.right = false) := Lib.hid (by unfold Lay.right Lay.nums; rw [decide_eq_false (by omega)]; rfl)
      generalize x.right = rr at *
      generalize x.fixed = F at *
      generalize x.record = R at *
      have d0 : decide (F < 0) = false := decide_eq_false f0
      have d1 : decide (64 < F) = true := decide_eq_true f1
      clear f0 f1
      go_enter Try.func23, Try.ntmps23
      go_wp2_with fail
      go_ret
      exact ⟨ret_bool q.out.symm, HB0.out⟩
    · by_cases f2 : x.record < 0
      · have q : Hid (x.right = false) := Lib.hid (by unfold Lay.right Lay.nums; rw [decide_eq_false (by omega)]; rfl)
        generalize x.right = rr at *
        generalize x.fixed = F at *
        generalize x.record = R at *
        have d0 : decide (F < 0) = false := decide_eq_false f0
        have d1 : decide (64 < F) = false := decide_eq_false f1
        have d2 : decide (R < 0) = true := decide_eq_true f2
        clear f0 f1 f2
        go_enter Try.func23, Try.ntmps23
        go_wp2_with fail
        go_ret
        exact ⟨ret_bool q.out.symm, HB0.out⟩
      · by_cases f3 : 64 < x.record
        · have q : Hid (x.right = false) := Lib.hid (by unfold Lay.right Lay.nums; rw [decide_eq_false (by omega)]; rfl)
          generalize x.right = rr at *
          generalize x.fixed = F at *
          generalize x.record = R at *
          have d0 : decide (F < 0) = false := decide_eq_false f0
          have d1 : decide (64 < F) = false := decide_eq_false f1
          have d2 : decide (R < 0) = false := decide_eq_false f2
          have d3 : decide (64 < R) = true := decide_eq_true f3
          clear f0 f1 f2 f3
          go_enter Try.func23, Try.ntmps23
          go_wp2_with fail
          go_ret
          exact ⟨ret_bool q.out.symm, HB0.out⟩
        · by_cases f4 : x.fixed + x.record = 0
          · have q : Hid (x.right = false) := Lib.hid (by unfold Lay.right Lay.nums; rw [decide_eq_false (by omega)]; rfl)
            have HW : Hid (IntKind.i64.wrap (x.fixed + x.record) = 0) := Lib.hid (by rw [f4]; decide)
            generalize x.right = rr at *
            generalize x.fixed = F at *
            generalize x.record = R at *
            have d0 : decide (F < 0) = false := decide_eq_false f0
            have d1 : decide (64 < F) = false := decide_eq_false f1
            have d2 : decide (R < 0) = false := decide_eq_false f2
            have d3 : decide (64 < R) = false := decide_eq_false f3
            obtain rfl : R = 0 := by omega
            obtain rfl : F = 0 := by omega
            clear f0 f1 f2 f3 f4
            go_enter Try.func23, Try.ntmps23
            go_wp2_with fail
            go_ret
            exact ⟨ret_bool q.out.symm, HB0.out⟩
          · have hr : x.right = (riseB x.refs x.fixed && riseB x.recs x.record) := by
              unfold Lay.right Lay.nums
              rw [decide_eq_true (by omega)]; rfl
            have q := Lib.hid hr
            clear hr
            generalize hR1 : riseB x.refs x.fixed = ra at *
            generalize hR2 : riseB x.recs x.record = rb at *
            clear hR1 hR2
            generalize x.right = rr at *
            generalize x.fixed = F at *
            generalize x.record = R at *
            have d0 : decide (F < 0) = false := decide_eq_false f0
            have d1 : decide (64 < F) = false := decide_eq_false f1
            have d2 : decide (R < 0) = false := decide_eq_false f2
            have d3 : decide (64 < R) = false := decide_eq_false f3
            have d4 : (F + R == 0) = false := by simpa using f4
            clear f4
            go_enter Try.func23, Try.ntmps23
            have k0 := (blk_cells HBK.out 0).trans rfl
            have k1 := (blk_cells HBK.out 1).trans rfl
            have k2 := (blk_cells HBK.out 2).trans rfl
            have k3 := (blk_cells HBK.out 3).trans rfl
            go_wp2_with fail
            refine (hA.out _ HL.out).mono ?_
            rintro e w2 ⟨rfl, hb⟩
            have HL2 := Lib.hid (HL.out.on hb)
            have HB2 := Lib.hid (HB0.out.on hb)
            have g2 := cell_on hb k2
            have g3 := cell_on hb k3
            clear hb k0 k1 k2 k3
            cases ra
            · go_wp2
              go_ret
              exact ⟨ret_bool (by rw [q.out]; rfl), HB2.out⟩
            · go_wp2_with fail
              refine (hB.out _ HL2.out).mono ?_
              rintro e w3 ⟨rfl, hb⟩
              have HB3 := Lib.hid (HB2.out.on hb)
              clear hb g2 g3
              cases rb
              all_goals
                go_wp2
                go_ret
                exact ⟨ret_bool (by rw [q.out]; rfl), HB3.out⟩
end Go.Proofs.Ytcffenekomiakaa
