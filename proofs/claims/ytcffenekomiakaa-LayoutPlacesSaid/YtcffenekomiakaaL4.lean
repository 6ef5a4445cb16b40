/- LayoutPlaces: a walk. -/
import Derived.Test.YtcffenekomiakaaL3
namespace Go.Proofs.Ytcffenekomiakaa
open Go.RowKit
set_option linter.unusedVariables false
set_option linter.unusedSimpArgs false
variable {w w' : World}
set_option maxRecDepth 100000 in
set_option maxHeartbeats 4000000 in
theorem lplaces_walk (x : Lay) (c p : Int) (A1 : Option Addr) (c1 : Nat) (A2 : Option Addr) (c2 : Nat) (w : World) (h : LayIs w x A1 c1 A2 c2) :
    Calls Try.prog 5 #[layV x A1 c1 A2 c2, .int .i64 c, .int .i64 p] w fun e w' => e = .returned (.bool true) ∧ Below w.heap.size w w' := by
  have hb0 := below1 w (.cells #[.int .i64 x.fixed, .slice A1 x.refs.length c1, .int .i64 x.record, .slice A2 x.recs.length c2] 24)
  have hblk := heap_alloc_new w (.cells #[.int .i64 x.fixed, .slice A1 x.refs.length c1, .int .i64 x.record, .slice A2 x.recs.length c2] 24)
  have k0 := (blk_cells hblk 0).trans rfl
  have k1 := (blk_cells hblk 1).trans rfl
  have k2 := (blk_cells hblk 2).trans rfl
  have k3 := (blk_cells hblk 3).trans rfl
  have hL := h.on hb0
  unfold layV
  go_enter Try.func5, Try.ntmps5
  go_wp2_with fail
  generalize w.alloc (.cells #[.int .i64 x.fixed, .slice A1 x.refs.length c1, .int .i64 x.record, .slice A2 x.recs.length c2] 24) = W0 at *
  have HB0 := Lib.hid hb0
  have HL0 := Lib.hid hL
  have HAL : Hid (∀ W, Below W0.heap.size W0 W → Calls Try.prog 7 #[] W fun e w' => e = .returned (.bool true) ∧ Below W.heap.size W w') := Lib.hid (fun W _ => alive_any W)
  have HSH : Hid (∀ W, Below W0.heap.size W0 W → Calls Try.prog 8 #[.agg #[.int .i64 x.fixed, .slice A1 x.refs.length c1, .int .i64 x.record, .slice A2 x.recs.length c2]] W fun e w' => e = .returned (.bool (shortB x)) ∧ Below W.heap.size W w') := Lib.hid (fun W _ => short_any x A1 c1 A2 c2 W)
  have HSZ : Hid (∀ W, Below W0.heap.size W0 W → Calls Try.prog 9 #[.agg #[.int .i64 x.fixed, .slice A1 x.refs.length c1, .int .i64 x.record, .slice A2 x.recs.length c2], .int .i64 c] W fun e w' => e = .returned (.tuple #[.int .i64 (x.size c).1, .int .i64 (x.size c).2]) ∧ Below W.heap.size W w') := Lib.hid (fun W hW => size_any _ _ _ _ _ _ W (hL.on hW))
  have HRZ : Hid (∀ W, Below W0.heap.size W0 W → Calls Try.prog 18 #[.agg #[.int .i64 x.fixed, .slice A1 x.refs.length c1, .int .i64 x.record, .slice A2 x.recs.length c2], .int .i64 c] W fun e w' => e = .returned (.tuple #[.int .i64 (x.size c).1, .int .i64 (x.size c).2]) ∧ Below W.heap.size W w') := Lib.hid (fun W hW => refsize_any _ _ _ _ _ _ W (hL.on hW))
  have HIR : Hid (∀ W, Below W0.heap.size W0 W → Calls Try.prog 19 #[.agg #[.int .i64 x.fixed, .slice A1 x.refs.length c1, .int .i64 x.record, .slice A2 x.recs.length c2], .int .i64 c, .int .i64 p] W fun e w' => e = .returned (.tuple #[.bool (x.isRefE c p).1, .int .i64 (x.isRefE c p).2]) ∧ Below W.heap.size W w') := Lib.hid (fun W hW => isref_any _ _ _ _ _ _ _ W (hL.on hW))
  have HSL : Hid (∀ W, Below W0.heap.size W0 W → Calls Try.prog 11 #[.agg #[.int .i64 x.fixed, .slice A1 x.refs.length c1, .int .i64 x.record, .slice A2 x.recs.length c2], .int .i64 c] W (SlotsPost (x.told c) W)) := Lib.hid (fun W hW => slots_any _ _ _ _ _ _ W (hL.on hW))
  clear hb0 hblk h hL
  refine (HSH.out _ (Below.refl _ _)).mono ?_
  rintro e w1 ⟨rfl, hb⟩
  have HB1 := Lib.hid hb
  have g0 := cell_on hb k0
  have g1 := cell_on hb k1
  have g2 := cell_on hb k2
  have g3 := cell_on hb k3
  clear hb
  cases hs : shortB x with
  | false =>
    go_wp2_with fail
    refine (HAL.out _ HB1.out).mono ?_
    rintro e w2 ⟨rfl, hb⟩
    have HB2 := Lib.hid (HB1.out.on hb)
    clear hb
    go_wp2
    go_ret
    exact ⟨rfl, HB0.out.on HB2.out⟩
  | true =>
    clear hs
    go_wp2_with fail
    refine (HSZ.out _ HB1.out).mono ?_
    rintro e w2 ⟨rfl, hb⟩
    have HB2 := Lib.hid (HB1.out.on hb)
    clear hb HB1 g0 g1 g2 g3
    have g0 := cell_on HB2.out k0
    have g1 := cell_on HB2.out k1
    have g2 := cell_on HB2.out k2
    have g3 := cell_on HB2.out k3
    go_wp2_with fail
    refine (HRZ.out _ HB2.out).mono ?_
    rintro e w3 ⟨rfl, hb⟩
    have HB3 := Lib.hid (HB2.out.on hb)
    clear hb HB2 g0 g1 g2 g3
    have g0 := cell_on HB3.out k0
    have g1 := cell_on HB3.out k1
    have g2 := cell_on HB3.out k2
    have g3 := cell_on HB3.out k3
    go_wp2_with fail
    refine (HIR.out _ HB3.out).mono ?_
    rintro e w4 ⟨rfl, hb⟩
    have HB4 := Lib.hid (HB3.out.on hb)
    clear hb HB3 g0 g1 g2 g3
    have g0 := cell_on HB4.out k0
    have g1 := cell_on HB4.out k1
    have g2 := cell_on HB4.out k2
    have g3 := cell_on HB4.out k3
    by_cases hz : (x.size c).2 = 0
    · obtain ⟨z1, z2, z3, z4, z5, z6⟩ := Lay.size_ok hz
      by_cases hp : p < 0 ∨ (x.size c).1 ≤ p
      · have he : x.isRefE c p = (false, 3) := by unfold Lay.isRefE; rw [if_pos hz, if_pos hp]
        rw [he, hz]
        generalize (x.size c).1 = n at *
        clear he hz z1 z2 z3 z4 z5 z6
        by_cases hp0 : p < 0
        · have d0 : decide (p < 0) = true := decide_eq_true hp0
          clear hp hp0
          go_wp2_with fail
          refine (HAL.out _ HB4.out).mono ?_
          rintro e w5 ⟨rfl, hb⟩
          have HB5 := Lib.hid (HB4.out.on hb)
          clear hb
          go_wp2
          go_ret
          exact ⟨rfl, HB0.out.on HB5.out⟩
        · have d0 : decide (p < 0) = false := decide_eq_false hp0
          have d1 : decide (n ≤ p) = true := decide_eq_true (by omega)
          clear hp hp0
          go_wp2_with fail
          refine (HAL.out _ HB4.out).mono ?_
          rintro e w5 ⟨rfl, hb⟩
          have HB5 := Lib.hid (HB4.out.on hb)
          clear hb
          go_wp2
          go_ret
          exact ⟨rfl, HB0.out.on HB5.out⟩
      · have he : x.isRefE c p = (x.isRef p, 0) := by unfold Lay.isRefE; rw [if_pos hz, if_neg hp]
        have hp0 : ¬ p < 0 := fun e => hp (.inl e)
        have hp1 : ¬ (x.size c).1 ≤ p := fun e => hp (.inr e)
        have HRI : Hid (∀ W, Below W0.heap.size W0 W → Calls Try.prog 20 #[.agg #[.int .i64 x.fixed, .slice A1 x.refs.length c1, .int .i64 x.record, .slice A2 x.recs.length c2], .int .i64 p] W fun e w' => e = .returned (.bool (x.isRef p)) ∧ Below W.heap.size W w') := Lib.hid (fun W hW => refisref_any x c p _ _ _ _ W (HL0.out.on hW) hz (by omega) (by omega))
        have HRS : Hid (∀ W, Below W0.heap.size W0 W → Calls Try.prog 21 #[.agg #[.int .i64 x.fixed, .slice A1 x.refs.length c1, .int .i64 x.record, .slice A2 x.recs.length c2], .int .i64 c] W (SlotsPost (x.told c) W)) := Lib.hid (fun W hW => by rw [Lay.told_upTo hz]; exact refslots_any _ _ _ _ _ _ W (HL0.out.on hW) hz)
        rw [he, hz]
        generalize (x.size c).1 = n at *
        generalize x.isRef p = rr at *
        have d0 : decide (p < 0) = false := decide_eq_false hp0
        have d1 : decide (n ≤ p) = false := decide_eq_false hp1
        have drr : (rr == rr) = true := by simp
        clear he hz z1 z2 z3 z4 z5 z6 hp hp0 hp1
        have s0 : _ = some (Value.int .i64 x.fixed) := g0
        have s1 : _ = some (Value.slice A1 x.refs.length c1) := g1
        have s2 : _ = some (Value.int .i64 x.record) := g2
        have s3 : _ = some (Value.slice A2 x.recs.length c2) := g3
        clear g0 g1 g2 g3 k0 k1 k2 k3
        have B4 := HB4.out
        go_wp2_with fail
        go_region_held3 (fun wk => (wk.cell? ⟨w.heap.size, 0, none⟩ = some (.int .i64 x.fixed) ∧ wk.cell? ⟨w.heap.size, 1, none⟩ = some (.slice A1 x.refs.length c1) ∧ wk.cell? ⟨w.heap.size, 2, none⟩ = some (.int .i64 x.record) ∧ wk.cell? ⟨w.heap.size, 3, none⟩ = some (.slice A2 x.recs.length c2)) ∧ Below W0.heap.size W0 wk) (first | exact kp4_drew ⟨⟨s0, s1, s2, s3⟩, B4⟩ | exact kp4_call (by assumption) (by assumption)) (first | (go_at_call 7; refine (HAL.out _ (by assumption : _ ∧ Below W0.heap.size W0 _).2).mono ?_; rintro e w5 ⟨rfl, hb5⟩) | (go_at_call 20; refine (HRI.out _ (by assumption : _ ∧ Below W0.heap.size W0 _).2).mono ?_; rintro e w6 ⟨rfl, hb6⟩) | (go_at_call 11; refine (HSL.out _ (by assumption : _ ∧ Below W0.heap.size W0 _).2).mono ?_; rintro e w7 ⟨v7, rfl, hv7, hb7⟩) | (go_at_call 21; refine (HRS.out _ (by assumption : _ ∧ Below W0.heap.size W0 _).2).mono ?_; rintro e w8 ⟨v8, rfl, hv8, hb8⟩) | (go_at_call 12; refine (same_any (hv7.on hb8) hv8).mono ?_; rintro e w9 ⟨rfl, hb9⟩; rw [decide_eq_true rfl]))
        have hB9 := (by assumption : _ ∧ Below W0.heap.size W0 w9).2
        clear hv7 hv8 hb5 hb6 hb7 hb8 hb9 s0 s1 s2 s3 B4
        go_wp2
        go_ret
        exact ⟨rfl, HB0.out.on hB9⟩
    · have d : ((x.size c).2 != 0) = true := by simpa using hz
      have HTD : Hid (x.told c = []) := Lib.hid (by unfold Lay.told; rw [if_neg hz])
      have he : x.isRefE c p = (false, (x.size c).2) := by unfold Lay.isRefE; rw [if_neg hz]
      rw [he]
      generalize (x.size c).2 = s2 at *
      generalize (x.size c).1 = s1 at *
      clear hz he
      go_wp2_with fail
      refine (HAL.out _ HB4.out).mono ?_
      rintro e w5 ⟨rfl, hb⟩
      have HB5 := Lib.hid (HB4.out.on hb)
      clear hb g0 g1 g2 g3 HB4
      have g0 := cell_on HB5.out k0
      have g1 := cell_on HB5.out k1
      have g2 := cell_on HB5.out k2
      have g3 := cell_on HB5.out k3
      go_wp2_with fail
      refine (HSL.out _ HB5.out).mono ?_
      rintro e w6 ⟨v, rfl, hv, hb⟩
      rw [HTD.out] at hv
      obtain ⟨Av, cv, rfl, hcv, _, _⟩ := hv
      have HB6 := Lib.hid (HB5.out.on hb)
      clear hb HB5 g0 g1 g2 g3
      go_wp2
      go_ret
      exact ⟨rfl, HB0.out.on HB6.out⟩
end Go.Proofs.Ytcffenekomiakaa
