/- The size of an object: walks. -/
import Derived.Test.YtcffenekomiakaaSz
namespace Go.Proofs.Ytcffenekomiakaa
open Go.RowKit
set_option linter.unusedVariables false
set_option linter.unusedSimpArgs false
variable {w w' : World}
set_option maxRecDepth 100000 in
theorem size_any (x : Lay) (c : Int) (A1 : Option Addr) (c1 : Nat) (A2 : Option Addr) (c2 : Nat) (w : World) (h : LayIs w x A1 c1 A2 c2) :
    Calls Try.prog 9 #[layV x A1 c1 A2 c2, .int .i64 c] w fun e w' => e = .returned (.tuple #[.int .i64 (x.size c).1, .int .i64 (x.size c).2]) ∧ Below w.heap.size w w' := by
  have hA : Hid (∀ X, LayIs X x A1 c1 A2 c2 → Calls Try.prog 23 #[.agg #[.int .i64 x.fixed, .slice A1 x.refs.length c1, .int .i64 x.record, .slice A2 x.recs.length c2]] X fun e w' => e = .returned (.bool x.right) ∧ Below X.heap.size X w') := Lib.hid (fun X hX => right_lay _ _ _ _ _ X hX)
  have hb0 := below1 w (.cells #[.int .i64 x.fixed, .slice A1 x.refs.length c1, .int .i64 x.record, .slice A2 x.recs.length c2] 24)
  have HL := Lib.hid (h.on hb0)
  have HB0 := Lib.hid hb0
  have hblk := heap_alloc_new w (.cells #[.int .i64 x.fixed, .slice A1 x.refs.length c1, .int .i64 x.record, .slice A2 x.recs.length c2] 24)
  have k0 := (blk_cells hblk 0).trans rfl
  have k1 := (blk_cells hblk 1).trans rfl
  have k2 := (blk_cells hblk 2).trans rfl
  have k3 := (blk_cells hblk 3).trans rfl
  clear h hb0 hblk
  unfold layV
  have hbnd : x.right = true → 0 ≤ x.fixed ∧ x.fixed ≤ 64 ∧ 0 ≤ x.record ∧ x.record ≤ 64 := fun h => by
    have := Lay.right_out h; omega
  obtain ⟨res, hres⟩ : ∃ res, res = x.size c := ⟨_, rfl⟩
  rw [← hres]
  obtain ⟨s1, s2⟩ := res
  simp only
  have hres' := hres
  unfold Lay.size at hres'
  cases hr : x.right with
  | false =>
    rw [hr, if_neg (by decide)] at hres'
    cases hres'
    rw [hr] at hA
    clear hres hbnd
    generalize x.fixed = F at *
    generalize x.record = R at *
    go_enter Try.func9, Try.ntmps9
    go_wp2_with fail
    refine (hA.out _ HL.out).mono ?_
    rintro e w2 ⟨rfl, hb⟩
    have HB2 := Lib.hid (HB0.out.on hb)
    have g0 := cell_on hb k0
    have g2 := cell_on hb k2
    clear hb k0 k1 k2 k3 hA HL HB0
    go_wp2
    all_goals
      go_ret2
      exact ⟨rfl, HB2.out⟩
  | true =>
    obtain ⟨b0, b1, b2, b3⟩ := hbnd hr
    rw [hr, if_pos rfl] at hres'
    rw [hr] at hA
    clear hres hbnd hr
    generalize x.fixed = F at *
    generalize x.record = R at *
    by_cases e0 : c < 0
    · rw [if_pos (.inl e0)] at hres'
      cases hres'
      have d0 : decide (c < 0) = true := decide_eq_true e0
      clear e0
      go_enter Try.func9, Try.ntmps9
      go_wp2_with fail
      refine (hA.out _ HL.out).mono ?_
      rintro e w2 ⟨rfl, hb⟩
      have HB2 := Lib.hid (HB0.out.on hb)
      have g0 := cell_on hb k0
      have g2 := cell_on hb k2
      clear hb k0 k1 k2 k3 hA HL HB0
      go_wp2
      all_goals
        go_ret2
        exact ⟨rfl, HB2.out⟩
    · by_cases e1 : 1024 < c
      · rw [if_pos (.inr (.inl e1))] at hres'
        cases hres'
        have d0 : decide (c < 0) = false := decide_eq_false e0
        have d1 : decide (1024 < c) = true := decide_eq_true e1
        clear e0 e1
        go_enter Try.func9, Try.ntmps9
        go_wp2_with fail
        refine (hA.out _ HL.out).mono ?_
        rintro e w2 ⟨rfl, hb⟩
        have HB2 := Lib.hid (HB0.out.on hb)
        have g0 := cell_on hb k0
        have g2 := cell_on hb k2
        clear hb k0 k1 k2 k3 hA HL HB0
        go_wp2
        all_goals
          go_ret2
          exact ⟨rfl, HB2.out⟩
      · by_cases e2 : 0 < c ∧ R = 0
        · rw [if_pos (.inr (.inr e2))] at hres'
          cases hres'
          have d0 : decide (c < 0) = false := decide_eq_false e0
          have d1 : decide (1024 < c) = false := decide_eq_false e1
          have d2 : decide (0 < c) = true := decide_eq_true e2.1
          obtain rfl : R = 0 := e2.2
          clear e0 e1 e2
          go_enter Try.func9, Try.ntmps9
          go_wp2_with fail
          refine (hA.out _ HL.out).mono ?_
          rintro e w2 ⟨rfl, hb⟩
          have HB2 := Lib.hid (HB0.out.on hb)
          have g0 := cell_on hb k0
          have g2 := cell_on hb k2
          clear hb k0 k1 k2 k3 hA HL HB0
          go_wp2
          all_goals
            go_ret2
            exact ⟨rfl, HB2.out⟩
        · rw [if_neg (by omega)] at hres'
          have hm0 : 0 ≤ c * R := Int.mul_nonneg (by omega) b2
          have hm1 : c * R ≤ 1024 * 64 := Int.mul_le_mul (by omega) b3 b2 (by omega)
          have hw1 : wrap64 (c * R) = c * R := by unfold wrap64; omega
          have hw2 : wrap64 (F + c * R) = F + c * R := by unfold wrap64; omega
          have hw3 : wrap64 (F + c * R + 1) = F + c * R + 1 := by unfold wrap64; omega
          have hcm : R * c = c * R := Int.mul_comm _ _
          by_cases e3 : 8192 ≤ F + c * R
          · rw [if_pos e3] at hres'
            cases hres'
            have d0 : decide (c < 0) = false := decide_eq_false e0
            have d1 : decide (1024 < c) = false := decide_eq_false e1
            have d3 : decide (8192 ≤ F + c * R) = true := decide_eq_true e3
            have d4 : decide (8192 < F + c * R + 1) = true := decide_eq_true (by omega)
            rcases (by omega : c = 0 ∨ (0 < c ∧ R ≠ 0)) with rfl | ⟨e5, e6⟩
            · simp at e3; omega
            · have d5 : decide (0 < c) = true := decide_eq_true e5
              have d6 : (R == 0) = false := by simpa using e6
              have HW := Lib.hid (And.intro hw1 (And.intro hw2 (And.intro hw3 hcm)))
              clear e0 e1 e2 e3 e5 e6 hm0 hm1 hw1 hw2 hw3 hcm
              go_enter Try.func9, Try.ntmps9
              go_wp2_with fail
              refine (hA.out _ HL.out).mono ?_
              rintro e w2 ⟨rfl, hb⟩
              have HB2 := Lib.hid (HB0.out.on hb)
              have g0 := cell_on hb k0
              have g2 := cell_on hb k2
              clear hb k0 k1 k2 k3 hA HL HB0
              go_wp2_with (first | (simp only [HW.out.2.2.2]) | (simp only [HW.out.1]) | (simp only [HW.out.2.1]) | (simp only [HW.out.2.2.1]))
              all_goals
                go_ret2
                exact ⟨rfl, HB2.out⟩
          · rw [if_neg e3] at hres'
            cases hres'
            have d0 : decide (c < 0) = false := decide_eq_false e0
            have d1 : decide (1024 < c) = false := decide_eq_false e1
            have d3 : decide (8192 ≤ F + c * R) = false := decide_eq_false e3
            have d4 : decide (8192 < F + c * R + 1) = false := decide_eq_false (by omega)
            have HW := Lib.hid (And.intro hw1 (And.intro hw2 (And.intro hw3 hcm)))
            rcases (by omega : c = 0 ∨ (0 < c ∧ R ≠ 0)) with rfl | ⟨e5, e6⟩
            · simp only [Int.zero_mul, Int.add_zero] at d3 d4 hw3 ⊢
              have HZ := Lib.hid (And.intro (show wrap64 F = F by unfold wrap64; omega) (And.intro hw3 (And.intro (Int.zero_mul R) (Int.mul_zero R))))
              have d5 : decide ((0 : Int) < 0) = false := rfl
              clear e0 e1 e2 e3 hm0 hm1 hw1 hw2 hw3 hcm HW
              go_enter Try.func9, Try.ntmps9
              go_wp2_with fail
              refine (hA.out _ HL.out).mono ?_
              rintro e w2 ⟨rfl, hb⟩
              have HB2 := Lib.hid (HB0.out.on hb)
              have g0 := cell_on hb k0
              have g2 := cell_on hb k2
              clear hb k0 k1 k2 k3 hA HL HB0
              go_wp2_with (first | (simp only [HZ.out.2.2.1]) | (simp only [HZ.out.2.2.2]) | (simp only [HZ.out.1]) | (simp only [HZ.out.2.1]))
              all_goals
                go_ret2
                exact ⟨rfl, HB2.out⟩
            · have d5 : decide (0 < c) = true := decide_eq_true e5
              have d6 : (R == 0) = false := by simpa using e6
              clear e0 e1 e2 e3 e5 e6 hm0 hm1 hw1 hw2 hw3 hcm
              go_enter Try.func9, Try.ntmps9
              go_wp2_with fail
              refine (hA.out _ HL.out).mono ?_
              rintro e w2 ⟨rfl, hb⟩
              have HB2 := Lib.hid (HB0.out.on hb)
              have g0 := cell_on hb k0
              have g2 := cell_on hb k2
              clear hb k0 k1 k2 k3 hA HL HB0
              go_wp2_with (first | (simp only [HW.out.2.2.2]) | (simp only [HW.out.1]) | (simp only [HW.out.2.1]) | (simp only [HW.out.2.2.1]))
              all_goals
                go_ret2
                exact ⟨rfl, HB2.out⟩
set_option maxRecDepth 100000 in
theorem refsize_any (x : Lay) (c : Int) (A1 : Option Addr) (c1 : Nat) (A2 : Option Addr) (c2 : Nat) (w : World) (h : LayIs w x A1 c1 A2 c2) :
    Calls Try.prog 18 #[layV x A1 c1 A2 c2, .int .i64 c] w fun e w' => e = .returned (.tuple #[.int .i64 (x.size c).1, .int .i64 (x.size c).2]) ∧ Below w.heap.size w w' := by
  have hA : Hid (∀ X, LayIs X x A1 c1 A2 c2 → Calls Try.prog 10 #[.agg #[.int .i64 x.fixed, .slice A1 x.refs.length c1, .int .i64 x.record, .slice A2 x.recs.length c2]] X fun e w' => e = .returned (.bool x.right) ∧ Below X.heap.size X w') := Lib.hid (fun X hX => refright_any _ _ _ _ _ X hX)
  have hb0 := below1 w (.cells #[.int .i64 x.fixed, .slice A1 x.refs.length c1, .int .i64 x.record, .slice A2 x.recs.length c2] 24)
  have HL := Lib.hid (h.on hb0)
  have HB0 := Lib.hid hb0
  have hblk := heap_alloc_new w (.cells #[.int .i64 x.fixed, .slice A1 x.refs.length c1, .int .i64 x.record, .slice A2 x.recs.length c2] 24)
  have k0 := (blk_cells hblk 0).trans rfl
  have k1 := (blk_cells hblk 1).trans rfl
  have k2 := (blk_cells hblk 2).trans rfl
  have k3 := (blk_cells hblk 3).trans rfl
  clear h hb0 hblk
  unfold layV
  have hbnd : x.right = true → 0 ≤ x.fixed ∧ x.fixed ≤ 64 ∧ 0 ≤ x.record ∧ x.record ≤ 64 := fun h => by
    have := Lay.right_out h; omega
  obtain ⟨res, hres⟩ : ∃ res, res = x.size c := ⟨_, rfl⟩
  rw [← hres]
  obtain ⟨s1, s2⟩ := res
  simp only
  have hres' := hres
  unfold Lay.size at hres'
  cases hr : x.right with
  | false =>
    rw [hr, if_neg (by decide)] at hres'
    cases hres'
    rw [hr] at hA
    clear hres hbnd
    generalize x.fixed = F at *
    generalize x.record = R at *
    go_enter Try.func18, Try.ntmps18
    go_wp2_with fail
    refine (hA.out _ HL.out).mono ?_
    rintro e w2 ⟨rfl, hb⟩
    have HB2 := Lib.hid (HB0.out.on hb)
    have g0 := cell_on hb k0
    have g2 := cell_on hb k2
    clear hb k0 k1 k2 k3 hA HL HB0
    go_wp2
    all_goals
      go_ret2
      exact ⟨rfl, HB2.out⟩
  | true =>
    obtain ⟨b0, b1, b2, b3⟩ := hbnd hr
    rw [hr, if_pos rfl] at hres'
    rw [hr] at hA
    clear hres hbnd hr
    generalize x.fixed = F at *
    generalize x.record = R at *
    by_cases e0 : c < 0
    · rw [if_pos (.inl e0)] at hres'
      cases hres'
      have d0 : decide (c < 0) = true := decide_eq_true e0
      clear e0
      go_enter Try.func18, Try.ntmps18
      go_wp2_with fail
      refine (hA.out _ HL.out).mono ?_
      rintro e w2 ⟨rfl, hb⟩
      have HB2 := Lib.hid (HB0.out.on hb)
      have g0 := cell_on hb k0
      have g2 := cell_on hb k2
      clear hb k0 k1 k2 k3 hA HL HB0
      go_wp2
      all_goals
        go_ret2
        exact ⟨rfl, HB2.out⟩
    · by_cases e1 : 1024 < c
      · rw [if_pos (.inr (.inl e1))] at hres'
        cases hres'
        have d0 : decide (c < 0) = false := decide_eq_false e0
        have d1 : decide (1024 < c) = true := decide_eq_true e1
        clear e0 e1
        go_enter Try.func18, Try.ntmps18
        go_wp2_with fail
        refine (hA.out _ HL.out).mono ?_
        rintro e w2 ⟨rfl, hb⟩
        have HB2 := Lib.hid (HB0.out.on hb)
        have g0 := cell_on hb k0
        have g2 := cell_on hb k2
        clear hb k0 k1 k2 k3 hA HL HB0
        go_wp2
        all_goals
          go_ret2
          exact ⟨rfl, HB2.out⟩
      · by_cases e2 : 0 < c ∧ R = 0
        · rw [if_pos (.inr (.inr e2))] at hres'
          cases hres'
          have d0 : decide (c < 0) = false := decide_eq_false e0
          have d1 : decide (1024 < c) = false := decide_eq_false e1
          have d2 : decide (0 < c) = true := decide_eq_true e2.1
          obtain rfl : R = 0 := e2.2
          clear e0 e1 e2
          go_enter Try.func18, Try.ntmps18
          go_wp2_with fail
          refine (hA.out _ HL.out).mono ?_
          rintro e w2 ⟨rfl, hb⟩
          have HB2 := Lib.hid (HB0.out.on hb)
          have g0 := cell_on hb k0
          have g2 := cell_on hb k2
          clear hb k0 k1 k2 k3 hA HL HB0
          go_wp2
          all_goals
            go_ret2
            exact ⟨rfl, HB2.out⟩
        · rw [if_neg (by omega)] at hres'
          have hm0 : 0 ≤ c * R := Int.mul_nonneg (by omega) b2
          have hm1 : c * R ≤ 1024 * 64 := Int.mul_le_mul (by omega) b3 b2 (by omega)
          have hw1 : wrap64 (c * R) = c * R := by unfold wrap64; omega
          have hw2 : wrap64 (F + c * R) = F + c * R := by unfold wrap64; omega
          have hw3 : wrap64 (F + c * R + 1) = F + c * R + 1 := by unfold wrap64; omega
          have hcm : R * c = c * R := Int.mul_comm _ _
          by_cases e3 : 8192 ≤ F + c * R
          · rw [if_pos e3] at hres'
            cases hres'
            have d0 : decide (c < 0) = false := decide_eq_false e0
            have d1 : decide (1024 < c) = false := decide_eq_false e1
            have d3 : decide (8192 ≤ F + c * R) = true := decide_eq_true e3
            have d4 : decide (8192 < F + c * R + 1) = true := decide_eq_true (by omega)
            rcases (by omega : c = 0 ∨ (0 < c ∧ R ≠ 0)) with rfl | ⟨e5, e6⟩
            · simp at e3; omega
            · have d5 : decide (0 < c) = true := decide_eq_true e5
              have d6 : (R == 0) = false := by simpa using e6
              have HW := Lib.hid (And.intro hw1 (And.intro hw2 (And.intro hw3 hcm)))
              clear e0 e1 e2 e3 e5 e6 hm0 hm1 hw1 hw2 hw3 hcm
              go_enter Try.func18, Try.ntmps18
              go_wp2_with fail
              refine (hA.out _ HL.out).mono ?_
              rintro e w2 ⟨rfl, hb⟩
              have HB2 := Lib.hid (HB0.out.on hb)
              have g0 := cell_on hb k0
              have g2 := cell_on hb k2
              clear hb k0 k1 k2 k3 hA HL HB0
              go_wp2_with (first | (simp only [HW.out.2.2.2]) | (simp only [HW.out.1]) | (simp only [HW.out.2.1]) | (simp only [HW.out.2.2.1]))
              all_goals
                go_ret2
                exact ⟨rfl, HB2.out⟩
          · rw [if_neg e3] at hres'
            cases hres'
            have d0 : decide (c < 0) = false := decide_eq_false e0
            have d1 : decide (1024 < c) = false := decide_eq_false e1
            have d3 : decide (8192 ≤ F + c * R) = false := decide_eq_false e3
            have d4 : decide (8192 < F + c * R + 1) = false := decide_eq_false (by omega)
            have HW := Lib.hid (And.intro hw1 (And.intro hw2 (And.intro hw3 hcm)))
            rcases (by omega : c = 0 ∨ (0 < c ∧ R ≠ 0)) with rfl | ⟨e5, e6⟩
            · simp only [Int.zero_mul, Int.add_zero] at d3 d4 hw3 ⊢
              have HZ := Lib.hid (And.intro (show wrap64 F = F by unfold wrap64; omega) (And.intro hw3 (And.intro (Int.zero_mul R) (Int.mul_zero R))))
              have d5 : decide ((0 : Int) < 0) = false := rfl
              clear e0 e1 e2 e3 hm0 hm1 hw1 hw2 hw3 hcm HW
              go_enter Try.func18, Try.ntmps18
              go_wp2_with fail
              refine (hA.out _ HL.out).mono ?_
              rintro e w2 ⟨rfl, hb⟩
              have HB2 := Lib.hid (HB0.out.on hb)
              have g0 := cell_on hb k0
              have g2 := cell_on hb k2
              clear hb k0 k1 k2 k3 hA HL HB0
              go_wp2_with (first | (simp only [HZ.out.2.2.1]) | (simp only [HZ.out.2.2.2]) | (simp only [HZ.out.1]) | (simp only [HZ.out.2.1]))
              all_goals
                go_ret2
                exact ⟨rfl, HB2.out⟩
            · have d5 : decide (0 < c) = true := decide_eq_true e5
              have d6 : (R == 0) = false := by simpa using e6
              clear e0 e1 e2 e3 e5 e6 hm0 hm1 hw1 hw2 hw3 hcm
              go_enter Try.func18, Try.ntmps18
              go_wp2_with fail
              refine (hA.out _ HL.out).mono ?_
              rintro e w2 ⟨rfl, hb⟩
              have HB2 := Lib.hid (HB0.out.on hb)
              have g0 := cell_on hb k0
              have g2 := cell_on hb k2
              clear hb k0 k1 k2 k3 hA HL HB0
              go_wp2_with (first | (simp only [HW.out.2.2.2]) | (simp only [HW.out.1]) | (simp only [HW.out.2.1]) | (simp only [HW.out.2.2.1]))
              all_goals
                go_ret2
                exact ⟨rfl, HB2.out⟩
end Go.Proofs.Ytcffenekomiakaa
