/- LayoutGrows: a walk. -/
import Derived.Test.YtcffenekomiakaaL3
namespace Go.Proofs.Ytcffenekomiakaa
open Go.RowKit
set_option linter.unusedVariables false
set_option linter.unusedSimpArgs false
variable {w w' : World}
/-- A slice's lower part, and its upper part. -/
theorem ints_low {A : Option Addr} {l : List Int} (h : SliceOf w A 1 encI 0 l) (m : Nat) (hm : m ≤ l.length) : SliceOf w A 1 encI 0 (l.take m) := h.take m
set_option maxRecDepth 100000 in
set_option maxHeartbeats 4000000 in
theorem lgrows_walk (x : Lay) (c : Int) (A1 : Option Addr) (c1 : Nat) (A2 : Option Addr) (c2 : Nat) (w : World) (h : LayIs w x A1 c1 A2 c2) :
    Calls Try.prog 3 #[layV x A1 c1 A2 c2, .int .i64 c] w fun e w' => e = .returned (.bool true) ∧ Below w.heap.size w w' := by
  have hb0 := below1 w (.cells #[.int .i64 x.fixed, .slice A1 x.refs.length c1, .int .i64 x.record, .slice A2 x.recs.length c2] 24)
  have hblk := heap_alloc_new w (.cells #[.int .i64 x.fixed, .slice A1 x.refs.length c1, .int .i64 x.record, .slice A2 x.recs.length c2] 24)
  have k0 := (blk_cells hblk 0).trans rfl
  have k1 := (blk_cells hblk 1).trans rfl
  have k2 := (blk_cells hblk 2).trans rfl
  have k3 := (blk_cells hblk 3).trans rfl
  have hL := h.on hb0
  unfold layV
  go_enter Try.func3, Try.ntmps3
  go_wp2_with fail
  generalize w.alloc (.cells #[.int .i64 x.fixed, .slice A1 x.refs.length c1, .int .i64 x.record, .slice A2 x.recs.length c2] 24) = W0 at *
  have HB0 := Lib.hid hb0
  have HL0 := Lib.hid hL
  have HAL : Hid (∀ W, Below W0.heap.size W0 W → Calls Try.prog 7 #[] W fun e w' => e = .returned (.bool true) ∧ Below W.heap.size W w') := Lib.hid (fun W _ => alive_any W)
  have HSH : Hid (∀ W, Below W0.heap.size W0 W → Calls Try.prog 8 #[.agg #[.int .i64 x.fixed, .slice A1 x.refs.length c1, .int .i64 x.record, .slice A2 x.recs.length c2]] W fun e w' => e = .returned (.bool (shortB x)) ∧ Below W.heap.size W w') := Lib.hid (fun W _ => short_any x A1 c1 A2 c2 W)
  have HSZ : Hid (∀ W c, Below W0.heap.size W0 W → Calls Try.prog 9 #[.agg #[.int .i64 x.fixed, .slice A1 x.refs.length c1, .int .i64 x.record, .slice A2 x.recs.length c2], .int .i64 c] W fun e w' => e = .returned (.tuple #[.int .i64 (x.size c).1, .int .i64 (x.size c).2]) ∧ Below W.heap.size W w') := Lib.hid (fun W c hW => size_any _ _ _ _ _ _ W (hL.on hW))
  have HRR : Hid (∀ W, Below W0.heap.size W0 W → Calls Try.prog 10 #[.agg #[.int .i64 x.fixed, .slice A1 x.refs.length c1, .int .i64 x.record, .slice A2 x.recs.length c2]] W fun e w' => e = .returned (.bool x.right) ∧ Below W.heap.size W w') := Lib.hid (fun W hW => refright_any _ _ _ _ _ W (hL.on hW))
  have HSL : Hid (∀ W c, Below W0.heap.size W0 W → Calls Try.prog 11 #[.agg #[.int .i64 x.fixed, .slice A1 x.refs.length c1, .int .i64 x.record, .slice A2 x.recs.length c2], .int .i64 c] W (SlotsPost (x.told c) W)) := Lib.hid (fun W c hW => slots_any _ _ _ _ _ _ W (hL.on hW))
  clear hb0 hblk h hL
  refine (HAL.out _ (Below.refl _ _)).mono ?_
  rintro e w1 ⟨rfl, hb⟩
  have HB1 := Lib.hid hb
  have g0 := cell_on hb k0
  have g1 := cell_on hb k1
  have g2 := cell_on hb k2
  have g3 := cell_on hb k3
  clear hb
  go_wp2_with fail
  refine (HSH.out _ HB1.out).mono ?_
  rintro e w2 ⟨rfl, hb⟩
  have HB2 := Lib.hid (HB1.out.on hb)
  clear hb g0 g1 g2 g3 HB1
  have g0 := cell_on HB2.out k0
  have g1 := cell_on HB2.out k1
  have g2 := cell_on HB2.out k2
  have g3 := cell_on HB2.out k3
  cases hs : shortB x with
  | false =>
    go_wp2
    go_ret
    exact ⟨rfl, HB0.out.on HB2.out⟩
  | true =>
    clear hs
    by_cases hbig : 5000 < c
    · have d : decide (5000 < c) = true := decide_eq_true hbig
      go_wp2
      go_ret
      exact ⟨rfl, HB0.out.on HB2.out⟩
    · have d : decide (5000 < c) = false := decide_eq_false hbig
      go_wp2_with fail
      refine (HSZ.out _ _ HB2.out).mono ?_
      rintro e w3 ⟨rfl, hb⟩
      have HB3 := Lib.hid (HB2.out.on hb)
      clear hb HB2 g0 g1 g2 g3
      have g0 := cell_on HB3.out k0
      have g1 := cell_on HB3.out k1
      have g2 := cell_on HB3.out k2
      have g3 := cell_on HB3.out k3
      go_wp2_with fail
      refine (HSZ.out _ _ HB3.out).mono ?_
      rintro e w4 ⟨rfl, hb⟩
      have HB4 := Lib.hid (HB3.out.on hb)
      clear hb HB3 g0 g1 g2 g3
      have g0 := cell_on HB4.out k0
      have g1 := cell_on HB4.out k1
      have g2 := cell_on HB4.out k2
      have g3 := cell_on HB4.out k3
      go_wp2_with fail
      refine (HRR.out _ HB4.out).mono ?_
      rintro e w5 ⟨rfl, hb⟩
      have HB5 := Lib.hid (HB4.out.on hb)
      clear hb HB4 g0 g1 g2 g3
      cases hr : x.right with
      | false =>
        go_wp2_with fail
        refine (HAL.out _ HB5.out).mono ?_
        rintro e w6 ⟨rfl, hb⟩
        have HB6 := Lib.hid (HB5.out.on hb)
        clear hb
        go_wp2
        go_ret
        exact ⟨rfl, HB0.out.on HB6.out⟩
      | true =>
        by_cases hc0 : c < 0
        · have d0 : decide (c < 0) = true := decide_eq_true hc0
          go_wp2_with fail
          refine (HAL.out _ HB5.out).mono ?_
          rintro e w6 ⟨rfl, hb⟩
          have HB6 := Lib.hid (HB5.out.on hb)
          clear hb
          go_wp2
          go_ret
          exact ⟨rfl, HB0.out.on HB6.out⟩
        · have d0 : decide (c < 0) = false := decide_eq_false hc0
          by_cases hz : (x.size c).2 = 0
          · obtain ⟨z1, z2, z3, z4, z5, z6⟩ := Lay.size_ok hz
            have hw1 : wrap64 (c + 1) = c + 1 := by unfold wrap64; omega
            have hw2 : IntKind.i64.wrap (c + 1) = c + 1 := by rw [IntKind.wrap_i64]; omega
            try rw [hw1]
            rw [hz]
            by_cases hy : (x.size (c + 1)).2 = 0
            · have y5 := (Lay.size_ok hy).2.2.2.2.1
              have hrr := Lay.right_out z1
              have hmul : 0 ≤ c * x.record := Int.mul_nonneg z2 hrr.2.2.1
              have hms : (c + 1) * x.record = c * x.record + x.record := by rw [Int.add_mul, Int.one_mul]
              obtain ⟨a, ha⟩ : ∃ a, a = (x.size c).1 := ⟨_, rfl⟩
              have hb9 : (x.size (c + 1)).1 = a + x.record := by omega
              have HT : Hid (x.told (c + 1) = x.told c ++ x.recs.map fun p => a + p) := Lib.hid (by
                unfold Lay.told
                rw [if_pos hz, if_pos hy, show (c + 1).toNat = c.toNat + 1 by omega, Lay.slots_succ, show ((c.toNat : Nat) : Int) = c by omega, ← z5, ← ha])
              rw [hy, ← ha, hb9]
              have ha0 : 0 ≤ a := by omega
              have ha1 : a < 8192 := by omega
              have hR0 := hrr.2.2.1
              have hR1 := hrr.2.2.2.1
              have HRE := Lib.hid (rise_all hrr.2.2.2.2.2.2).2
              have hl2 := rise_len hrr.2.2.2.2.2.2 hrr.2.2.1
              have hwa : wrap64 (a + x.record - a) = x.record := by unfold wrap64; omega
              have hwb : a + x.record - a = x.record := by omega
              have hTL := Lay.told_le x c
              have hTL2 := Lay.told_le x (c + 1)
              clear hz hy y5 z1 z2 z3 z4 z5 z6 hrr hmul hms ha hb9 HSZ HRR HSH
              have g0 : _ = some (Value.int .i64 x.fixed) := cell_on HB5.out k0
              have g1 : _ = some (Value.slice A1 x.refs.length c1) := cell_on HB5.out k1
              have g2 : _ = some (Value.int .i64 x.record) := cell_on HB5.out k2
              have g3 : _ = some (Value.slice A2 x.recs.length c2) := cell_on HB5.out k3
              have B5 := HB5.out
              have HS1 : Hid (∀ W, Below W0.heap.size W0 W → Calls Try.prog 11 #[.agg #[.int .i64 x.fixed, .slice A1 x.refs.length c1, .int .i64 x.record, .slice A2 x.recs.length c2], .int .i64 c] W (SlotsPost (x.told c) W)) := Lib.hid (fun W hW => HSL.out W c hW)
              go_wp2_with fail
              go_region_held3 (fun wk => (wk.cell? ⟨w.heap.size, 0, none⟩ = some (.int .i64 x.fixed) ∧ wk.cell? ⟨w.heap.size, 1, none⟩ = some (.slice A1 x.refs.length c1) ∧ wk.cell? ⟨w.heap.size, 2, none⟩ = some (.int .i64 x.record) ∧ wk.cell? ⟨w.heap.size, 3, none⟩ = some (.slice A2 x.recs.length c2)) ∧ Below W0.heap.size W0 wk) (first | exact kp4_drew ⟨⟨g0, g1, g2, g3⟩, B5⟩ | exact kp4_call (by assumption) (by assumption)) (first | (go_at_call 11; refine (HS1.out _ (by assumption : _ ∧ Below W0.heap.size W0 _).2).mono ?_; rintro e w6 ⟨v6, rfl, hv6, hb6⟩; clear HS1) | (go_at_call 11; refine (HSL.out _ (c + 1) (by assumption : _ ∧ Below W0.heap.size W0 _).2).mono ?_; rintro e w7 ⟨v7, rfl, hv7, hb7⟩))
              have B7 := (by assumption : _ ∧ Below W0.heap.size W0 w7).2
              have hv6' := hv6.on hb7
              clear hv6 hb6 hb7 B5 g0 g1 g2 g3 HB5 HSL
              have HB7 := Lib.hid B7
              have g0 := cell_on HB7.out k0
              have g1 := cell_on HB7.out k1
              have g2 := cell_on HB7.out k2
              have g3 := cell_on HB7.out k3
              clear B7
              rw [HT.out] at hTL2 hv7
              obtain ⟨A7, c7, rfl, hc7, hm7, hs7⟩ := hv7
              rw [List.length_append, List.length_map] at hc7 hTL2 ⊢
              generalize x.told c = t1 at *
              have HS7 := Lib.hid hs7
              have hv6 := hv6'
              obtain ⟨A6, c6, rfl, hc6, hm6, hs6⟩ := hv6'
              have HV6 := Lib.hid hv6
              clear hv6 hs7 hs6 hm7 hm6
              by_cases hn : t1.length + x.recs.length = 0
              · have ht1 : t1.length = 0 := by omega
                have ht2 : x.recs.length = 0 := by omega
                have HV7 : Hid (∀ c, Ints w7 (.slice A7 0 c) t1) := Lib.hid (fun c => ⟨A7, c, by rw [ht1], by omega, by omega, fun i hi => by omega⟩)
                have HV8 : Hid (∀ c, Ints w7 (.slice none 0 c) t1) := Lib.hid (fun c => ⟨none, c, by rw [ht1], by omega, by omega, fun i hi => by omega⟩)
                rw [ht1] at hc6 HV6 ⊢
                rw [ht2] at g3 ⊢
                have HSM := Lib.hid (fun c => same_any HV6.out (HV7.out c))
                cases A7 with
                | none =>
                  go_wp2_with fail
                  refine (HSM.out _).mono ?_
                  rintro e w8 ⟨rfl, hb⟩
                  rw [decide_eq_true trivial]
                  have HB8 := Lib.hid (HB7.out.on hb)
                  clear hb HSM HV6 HV7 HV8 HS7 HB7 g0 g1 g2 g3
                  rw [ht2] at k3
                  have g0 := cell_on HB8.out k0
                  have g1 := cell_on HB8.out k1
                  have g2 := cell_on HB8.out k2
                  have g3 := cell_on HB8.out k3
                  go_wp2_with fail
                  all_goals
                    go_loopw [89] (fun v89 wr => v89 = .int .i64 0 ∧ wr = w8) (fun v89 _ => 0)
                    case atStart => exact ⟨rfl, rfl⟩
                    case round =>
                      obtain ⟨rfl, rfl⟩ := hrel
                      go_wp2_with fail
                      refine (HAL.out _ HB8.out).mono ?_
                      rintro e w9 ⟨rfl, hb⟩
                      have HB9 := Lib.hid (HB8.out.on hb)
                      clear hb
                      go_wp2
                      go_ret
                      exact ⟨rfl, HB0.out.on HB9.out⟩
                | some ad =>
                  go_wp2_with fail
                  refine (HSM.out _).mono ?_
                  rintro e w8 ⟨rfl, hb⟩
                  rw [decide_eq_true trivial]
                  have HB8 := Lib.hid (HB7.out.on hb)
                  clear hb HSM HV6 HV7 HV8 HS7 HB7 g0 g1 g2 g3
                  rw [ht2] at k3
                  have g0 := cell_on HB8.out k0
                  have g1 := cell_on HB8.out k1
                  have g2 := cell_on HB8.out k2
                  have g3 := cell_on HB8.out k3
                  go_wp2_with fail
                  all_goals
                    go_loopw [89] (fun v89 wr => v89 = .int .i64 0 ∧ wr = w8) (fun v89 _ => 0)
                    case atStart => exact ⟨rfl, rfl⟩
                    case round =>
                      obtain ⟨rfl, rfl⟩ := hrel
                      go_wp2_with fail
                      refine (HAL.out _ HB8.out).mono ?_
                      rintro e w9 ⟨rfl, hb⟩
                      have HB9 := Lib.hid (HB8.out.on hb)
                      clear hb
                      go_wp2
                      go_ret
                      exact ⟨rfl, HB0.out.on HB9.out⟩
              · obtain ⟨b7, o7, e7, -⟩ := HS7.out 0 (by rw [List.length_append, List.length_map]; omega)
                subst e7
                have HV7 : Hid (Ints w7 (.slice (some ⟨b7, o7, none⟩) t1.length c7) t1) := Lib.hid ⟨_, c7, rfl, by omega, by unfold maxLen; omega, by
                  have := HS7.out.take t1.length
                  rwa [List.take_left'] at this
                  rfl⟩
                have HSM := Lib.hid (same_any HV6.out HV7.out)
                have hsub : (t1.length : Int) + x.recs.length - t1.length = x.recs.length := by omega
                go_wp2_with fail
                refine HSM.out.mono ?_
                rintro e w8 ⟨rfl, hb⟩
                rw [decide_eq_true trivial]
                have HB8 := Lib.hid (HB7.out.on hb)
                have HS8 := Lib.hid (HS7.out.on hb)
                clear hb HSM HV6 HV7 HS7 HB7 g0 g1 g2 g3
                have g0 := cell_on HB8.out k0
                have g1 := cell_on HB8.out k1
                have g2 := cell_on HB8.out k2
                have g3 := cell_on HB8.out k3
                generalize hn1 : t1.length = n1 at *
                generalize hn2 : x.recs.length = n2 at *
                by_cases hcc : c7 = n1
                · have hz2 : n2 = 0 := by omega
                  go_wp2_with fail
                  go_loopw [89] (fun v89 wr => v89 = .int .i64 0 ∧ wr = w8) (fun v89 _ => 0)
                  case atStart => exact ⟨rfl, rfl⟩
                  case round =>
                    obtain ⟨rfl, rfl⟩ := hrel
                    have dz : decide ((0 : Int) < n2) = false := decide_eq_false (by omega)
                    go_wp2_with fail
                    refine (HAL.out _ HB8.out).mono ?_
                    rintro e w9 ⟨rfl, hb⟩
                    have HB9 := Lib.hid (HB8.out.on hb)
                    clear hb
                    go_wp2
                    go_ret
                    exact ⟨rfl, HB0.out.on HB9.out⟩
                · have HE : Hid (∀ k, k < n2 → w8.cell? ⟨b7, o7 + n1 + k, none⟩ = some (.int .i64 (a + x.recs.getD k 0))) := Lib.hid (fun k hk => by
                    obtain ⟨b9, o9, e9, hx⟩ := ints_at HS8.out (n1 + k) (by rw [List.length_append, List.length_map, hn1, hn2]; omega)
                    cases e9
                    rw [show o7 + n1 + k = o7 + (n1 + k) by omega, hx]
                    have : (t1 ++ x.recs.map fun p => a + p).getD (n1 + k) 0 = a + x.recs.getD k 0 := by
                      have hk2 : k < x.recs.length := by omega
                      simp [List.getD, List.getElem?_append_right (show t1.length ≤ n1 + k by omega), hn1, hk2]
                    rw [this])
                  go_wp2_with fail
                  go_loopw [89] (fun v89 wr => ∃ k : Nat, k ≤ n2 ∧ v89 = .int .i64 k ∧ wr = w8) (fun v89 _ => n2 - (intOf v89).toNat)
                  case atStart => exact ⟨0, by omega, rfl, rfl⟩
                  case round =>
                    obtain ⟨k, hk, rfl, rfl⟩ := hrel
                    by_cases hlt : k < n2
                    · have he := HE.out k hlt
                      obtain ⟨b9, o9, e9, hx⟩ := ints_at (HL0.out.on HB8.out).h2 k (by omega)
                      have hq := HRE.out _ (mem_getD (l := x.recs) (k := k) (by omega))
                      subst e9
                      generalize x.recs.getD k 0 = p at *
                      go_wp2
                      go_roundw
                      case rel => exact ⟨k + 1, by omega, by go_num, trivial⟩
                      case measure => simp [intOf]; omega
                    · obtain rfl : k = n2 := by omega
                      go_wp2_with fail
                      refine (HAL.out _ HB8.out).mono ?_
                      rintro e w9 ⟨rfl, hb⟩
                      have HB9 := Lib.hid (HB8.out.on hb)
                      clear hb
                      go_wp2
                      go_ret
                      exact ⟨rfl, HB0.out.on HB9.out⟩
            · have d1 : ((x.size (c + 1)).2 != 0) = true := by simpa using hy
              generalize (x.size (c + 1)).2 = s2 at *
              clear hy hz
              go_wp2_with fail
              refine (HAL.out _ HB5.out).mono ?_
              rintro e w6 ⟨rfl, hb⟩
              have HB6 := Lib.hid (HB5.out.on hb)
              clear hb
              go_wp2
              go_ret
              exact ⟨rfl, HB0.out.on HB6.out⟩
          · have d1 : ((x.size c).2 != 0) = true := by simpa using hz
            generalize (x.size c).2 = s2 at *
            clear hz
            go_wp2_with fail
            refine (HAL.out _ HB5.out).mono ?_
            rintro e w6 ⟨rfl, hb⟩
            have HB6 := Lib.hid (HB5.out.on hb)
            clear hb
            go_wp2
            go_ret
            exact ⟨rfl, HB0.out.on HB6.out⟩
end Go.Proofs.Ytcffenekomiakaa
