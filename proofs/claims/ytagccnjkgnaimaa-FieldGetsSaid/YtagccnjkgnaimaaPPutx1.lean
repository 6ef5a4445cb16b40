-- PRINTED BY print.sh 35421559b90ae4d0a3588c463048766b98c2df88dd9212a6774a882060cdf62d: not written by this session
import Derived.Test.YtagccnjkgnaimaaPPutx0
namespace Go.Proofs.Ytagccnjkgnaimaa.PPut
open Go.RowKit Go.Proofs.YtagccnjkgnaimaaW.PrintWords Go.Proofs.YtagccnjkgnaimaaW.PrintLast Go.Proofs.YtagccnjkgnaimaaW.PrintMore
attribute [local go_sem] max2_int min2_int max_two min_two max_three min_three max_four min_four   -- for this text's walks alone
set_option linter.unusedVariables false
set_option linter.unusedSimpArgs false

/-! ### turnrowref01_Bit: function 42 -/
def turnrowref01_Bit.f (a0 : Int) (a1 : Int) : Option (Int) := if 0 ≤ a1 then (if (shl .u64 1 a1) = 0 then (none) else (some (Int.tmod (IntKind.u64.wrap (Int.tdiv a0 (shl .u64 1 a1))) 2))) else (none)
set_option maxHeartbeats 8000000 in
set_option maxRecDepth 100000 in
theorem turnrowref01_Bit.calls (a0 : Int) (a1 : Int) (r : Int) (w : World) (h : turnrowref01_Bit.f a0 a1 = some r) :
    Calls Try.prog 42 #[.int .u64 a0, .int .i64 a1] w fun e w' => e = .returned (.int .u64 r) ∧ Drawn0 w w' := by
  have H : (if 0 ≤ a1 then (if (shl .u64 1 a1) = 0 then (none) else (some (Int.tmod (IntKind.u64.wrap (Int.tdiv a0 (shl .u64 1 a1))) 2))) else (none)) = some r := h
  clear h
  by_cases c3 : 0 ≤ a1
  · rw [if_pos c3] at H
    have c3b0 := eq_true c3
    have c3b1 : decide (0 ≤ a1) = true := decide_eq_true c3
    clear c3
    obtain ⟨ji4, hji4⟩ : ∃ j_ : Int, (shl .u64 1 a1) = j_ := ⟨_, rfl⟩
    replace H : (if (ji4) = 0 then (none) else (some (Int.tmod (IntKind.u64.wrap (Int.tdiv a0 (ji4))) 2))) = some r := by first | (rw [hji4] at H; exact H) | (simp only [hji4] at H ⊢; exact H)
    have hji4_ : (IntKind.u64.wrap (1 * 2 ^ min a1.toNat 64)) = ji4 := hji4
    have hji4z : a1 ≤ 64 → (IntKind.u64.wrap (1 * 2 ^ a1.toNat)) = ji4 := shl_small hji4
    have hji4u : (IntKind.u64.wrap (2 ^ min a1.toNat 64)) = ji4 := by have h_ := hji4_; rw [Int.one_mul] at h_; exact h_
    have hji4v : a1 ≤ 64 → (IntKind.u64.wrap (2 ^ a1.toNat)) = ji4 := fun hle_ => by have h_ := hji4z hle_; rw [Int.one_mul] at h_; exact h_
    by_cases c5 : (ji4) = 0
    · rw [if_pos c5] at H
      exact absurd H (by simp)
    · rw [if_neg c5] at H
      have c5b0 : ((ji4) == 0) = false := beq_eq_false_iff_ne.mpr c5
      have c5b1 : ((ji4) != 0) = true := bne_iff_ne.mpr c5
      obtain rfl := Option.some.inj H
      go_enter Try.func42, Try.ntmps42
      go_wp2
      go_ret
      exact ⟨by first | rfl | (simp; done) | (simp only [← hji4] <;> (first | rfl | simp)) | (simp [*]; done), by repeat (first | exact Drawn0.refl _ | apply Drawn0.step)⟩
  · rw [if_neg c3] at H
    exact absurd H (by simp)

/-! ### turnrowref01_Put: function 20 -/
def turnrowref01_Put.l0 : Nat → Int → Int → Int → Int → Int → Int → Option (Int)
  | 0, _, _, _, _, _, _ => none
  | k + 1, x0, x1, x2, x3, x9, x10 => if x10 ≥ 0 then ((turnrowref01_Bit.f x0 x10).bind fun t101 => (if x10 ≥ x1 then (if x10 < (wrap64 (x1 + x2)) then ((turnrowref01_Bit.f x3 (wrap64 (x10 - x1))).bind fun t102 => (turnrowref01_Put.l0 k x0 x1 x2 x3 (IntKind.u64.wrap ((IntKind.u64.wrap (2 * x9)) + t102)) (wrap64 (x10 - 1)))) else (turnrowref01_Put.l0 k x0 x1 x2 x3 (IntKind.u64.wrap ((IntKind.u64.wrap (2 * x9)) + t101)) (wrap64 (x10 - 1)))) else (turnrowref01_Put.l0 k x0 x1 x2 x3 (IntKind.u64.wrap ((IntKind.u64.wrap (2 * x9)) + t101)) (wrap64 (x10 - 1))))) else (some x9)
def turnrowref01_Put.f (k : Nat) (a0 : Int) (a1 : Int) (a2 : Int) (a3 : Int) : Option (Int) := turnrowref01_Put.l0 k a0 a1 a2 a3 0 63
theorem turnrowref01_Put.mono_l : ∀ k, (∀ y0 y1 y2 y3 y4 y5, LeO (turnrowref01_Put.l0 k y0 y1 y2 y3 y4 y5) (turnrowref01_Put.l0 (k + 1) y0 y1 y2 y3 y4 y5))
  | 0 => fun _ _ _ _ _ _ r h => by simp [turnrowref01_Put.l0] at h
  | k + 1 => by
    have ih0 := turnrowref01_Put.mono_l k
    · intro y0 y1 y2 y3 y4 y5
      unfold turnrowref01_Put.l0
      repeat' first
      | (with_reducible exact ih0 _ _ _ _ _ _)
      | (with_reducible exact LeO.refl _)
      | (with_reducible exact LeO.none _)
      | (with_reducible refine LeO.ite ?_ ?_)
      | (with_reducible refine LeO.bind ?_ (fun _ => ?_))
      | exact ih0 _ _ _ _ _ _
      | exact LeO.none _
      | refine LeO.ite ?_ ?_
      | refine LeO.bind ?_ (fun _ => ?_)
theorem turnrowref01_Put.mono : ∀ a0 a1 a2 a3 k, LeO (turnrowref01_Put.f k a0 a1 a2 a3) (turnrowref01_Put.f (k + 1) a0 a1 a2 a3) := by
  intro a0 a1 a2 a3 k
  have ih0 := turnrowref01_Put.mono_l k
  unfold turnrowref01_Put.f
  repeat' first
      | (with_reducible exact ih0 _ _ _ _ _ _)
      | (with_reducible exact LeO.refl _)
      | (with_reducible exact LeO.none _)
      | (with_reducible refine LeO.ite ?_ ?_)
      | (with_reducible refine LeO.bind ?_ (fun _ => ?_))
      | exact ih0 _ _ _ _ _ _
      | exact LeO.none _
      | refine LeO.ite ?_ ?_
      | refine LeO.bind ?_ (fun _ => ?_)
set_option maxHeartbeats 8000000 in
set_option maxRecDepth 100000 in
theorem turnrowref01_Put.calls (k : Nat) (a0 : Int) (a1 : Int) (a2 : Int) (a3 : Int) (r : Int) (w : World) (h : turnrowref01_Put.f k a0 a1 a2 a3 = some r) :
    Calls Try.prog 20 #[.int .u64 a0, .int .i64 a1, .int .i64 a2, .int .u64 a3] w fun e w' => e = .returned (.int .u64 r) ∧ Drawn0 w w' := by
  have H : (turnrowref01_Put.l0 k a0 a1 a2 a3 0 63) = some r := h
  clear h
  have H' := Aside0.mk H
  clear H
  go_enter Try.func20, Try.ntmps20
  go_wp2
  go_loopg [9, 10] k (fun kq v9 v10 w' => ∃ (x9_1 : Int) (x10_1 : Int), v9 = .int .u64 x9_1 ∧ v10 = .int .i64 x10_1 ∧ Aside0 (turnrowref01_Put.l0 kq a0 a1 a2 a3 x9_1 x10_1 = some r) ∧ Aside0 (kq ≤ k) ∧ Drawn0 w w')
  case atStart => exact ⟨(0), (63), (by first | rfl | (simp; done) | (simp [*]; done)), (by first | rfl | (simp; done) | (simp [*]; done)), H', ⟨Nat.le_refl _⟩, by repeat (first | exact Drawn0.refl _ | apply Drawn0.step)⟩
  case round =>
    clear H'
    try clear c2
    try clear p2
    obtain ⟨x9_1, x10_1, rfl, rfl, HA, HK1, ⟨m1, rfl⟩⟩ := hrel
    cases gk with
    | zero => exact absurd HA.out (by simp [turnrowref01_Put.l0])
    | succ k1 =>
      have H := HA.out
      clear HA
      simp only [turnrowref01_Put.l0] at H
      by_cases c5 : x10_1 ≥ 0
      · rw [if_pos c5] at H
        have c5b0 : decide (0 ≤ x10_1) = true := decide_eq_true c5
        clear c5
        replace H := Option.bind_eq_some_iff.mp H
        obtain ⟨t101, A60, H⟩ := H
        replace H : (if x10_1 ≥ a1 then (if x10_1 < (wrap64 (a1 + a2)) then ((turnrowref01_Bit.f a3 (wrap64 (x10_1 - a1))).bind fun t102 => (turnrowref01_Put.l0 k1 a0 a1 a2 a3 (IntKind.u64.wrap ((IntKind.u64.wrap (2 * x9_1)) + t102)) (wrap64 (x10_1 - 1)))) else (turnrowref01_Put.l0 k1 a0 a1 a2 a3 (IntKind.u64.wrap ((IntKind.u64.wrap (2 * x9_1)) + t101)) (wrap64 (x10_1 - 1)))) else (turnrowref01_Put.l0 k1 a0 a1 a2 a3 (IntKind.u64.wrap ((IntKind.u64.wrap (2 * x9_1)) + t101)) (wrap64 (x10_1 - 1)))) = some r := H
        have A6 := Aside0.mk A60
        clear A60
        by_cases c7 : x10_1 ≥ a1
        · rw [if_pos c7] at H
          have c7b0 : decide (a1 ≤ x10_1) = true := decide_eq_true c7
          clear c7
          by_cases c8 : x10_1 < (wrap64 (a1 + a2))
          · rw [if_pos c8] at H
            have c8b0 : decide (x10_1 < (wrap64 (a1 + a2))) = true := decide_eq_true c8
            clear c8
            replace H := Option.bind_eq_some_iff.mp H
            obtain ⟨t102, A90, H⟩ := H
            replace H : (turnrowref01_Put.l0 k1 a0 a1 a2 a3 (IntKind.u64.wrap ((IntKind.u64.wrap (2 * x9_1)) + t102)) (wrap64 (x10_1 - 1))) = some r := H
            have A9 := Aside0.mk A90
            clear A90
            have H' := Aside0.mk H
            clear H
            go_wp2_with (first | ((with_reducible refine gate_callee (f := 42) rfl ?_); refine goesL_ (some 18) rfl rfl Try.func42 (by kernel_rfl) rfl #[.int .u64 a0, .int .i64 x10_1] rfl (by (try simp only [List.map_toArray, List.map_cons, List.map_nil]); first | done | rfl | (simp only [List.length_drop, List.length_take]; rfl)) ?_; (with_reducible refine (turnrowref01_Bit.calls a0 x10_1 t101 _ A6.out).mono ?_); rintro e w' ⟨rfl, ⟨nd, rfl⟩⟩; refine ⟨_, rfl, ?_⟩) | ((with_reducible refine gate_callee (f := 42) rfl ?_); refine goesL_ (some 33) rfl rfl Try.func42 (by kernel_rfl) rfl #[.int .u64 a3, .int .i64 (wrap64 (x10_1 - a1))] rfl (by (try simp only [List.map_toArray, List.map_cons, List.map_nil]); first | done | rfl | (simp only [List.length_drop, List.length_take]; rfl)) ?_; (with_reducible refine (turnrowref01_Bit.calls a3 (wrap64 (x10_1 - a1)) t102 _ A9.out).mono ?_); rintro e w' ⟨rfl, ⟨nd, rfl⟩⟩; refine ⟨_, rfl, ?_⟩))
            go_roundg k1
            case measure => have := HK1.out; omega
            case rel => exact ⟨(IntKind.u64.wrap ((IntKind.u64.wrap (2 * x9_1)) + t102)), (wrap64 (x10_1 - 1)), (by first | rfl | (simp; done) | (simp [*]; done)), (by first | rfl | (simp; done) | (simp [*]; done)), H', ⟨by have := HK1.out; omega⟩, by repeat (first | exact Drawn0.refl _ | apply Drawn0.step)⟩
          · rw [if_neg c8] at H
            have c8b0 : decide (x10_1 < (wrap64 (a1 + a2))) = false := decide_eq_false c8
            clear c8
            have H' := Aside0.mk H
            clear H
            go_wp2_with (first | ((with_reducible refine gate_callee (f := 42) rfl ?_); refine goesL_ (some 18) rfl rfl Try.func42 (by kernel_rfl) rfl #[.int .u64 a0, .int .i64 x10_1] rfl (by (try simp only [List.map_toArray, List.map_cons, List.map_nil]); first | done | rfl | (simp only [List.length_drop, List.length_take]; rfl)) ?_; (with_reducible refine (turnrowref01_Bit.calls a0 x10_1 t101 _ A6.out).mono ?_); rintro e w' ⟨rfl, ⟨nd, rfl⟩⟩; refine ⟨_, rfl, ?_⟩))
            go_roundg k1
            case measure => have := HK1.out; omega
            case rel => exact ⟨(IntKind.u64.wrap ((IntKind.u64.wrap (2 * x9_1)) + t101)), (wrap64 (x10_1 - 1)), (by first | rfl | (simp; done) | (simp [*]; done)), (by first | rfl | (simp; done) | (simp [*]; done)), H', ⟨by have := HK1.out; omega⟩, by repeat (first | exact Drawn0.refl _ | apply Drawn0.step)⟩
        · rw [if_neg c7] at H
          have c7b0 : decide (a1 ≤ x10_1) = false := decide_eq_false c7
          clear c7
          have H' := Aside0.mk H
          clear H
          go_wp2_with (first | ((with_reducible refine gate_callee (f := 42) rfl ?_); refine goesL_ (some 18) rfl rfl Try.func42 (by kernel_rfl) rfl #[.int .u64 a0, .int .i64 x10_1] rfl (by (try simp only [List.map_toArray, List.map_cons, List.map_nil]); first | done | rfl | (simp only [List.length_drop, List.length_take]; rfl)) ?_; (with_reducible refine (turnrowref01_Bit.calls a0 x10_1 t101 _ A6.out).mono ?_); rintro e w' ⟨rfl, ⟨nd, rfl⟩⟩; refine ⟨_, rfl, ?_⟩))
          go_roundg k1
          case measure => have := HK1.out; omega
          case rel => exact ⟨(IntKind.u64.wrap ((IntKind.u64.wrap (2 * x9_1)) + t101)), (wrap64 (x10_1 - 1)), (by first | rfl | (simp; done) | (simp [*]; done)), (by first | rfl | (simp; done) | (simp [*]; done)), H', ⟨by have := HK1.out; omega⟩, by repeat (first | exact Drawn0.refl _ | apply Drawn0.step)⟩
      · rw [if_neg c5] at H
        have c5b0 : decide (0 ≤ x10_1) = false := decide_eq_false c5
        clear c5
        obtain rfl := Option.some.inj H
        go_wp2
        go_ret
        exact ⟨by first | rfl | (simp; done) | (simp [*]; done), by repeat (first | exact Drawn0.refl _ | apply Drawn0.step)⟩

end Go.Proofs.Ytagccnjkgnaimaa.PPut
