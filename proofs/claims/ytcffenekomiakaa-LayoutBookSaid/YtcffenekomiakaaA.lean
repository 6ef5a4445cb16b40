/- Contracts of the package field: walks. -/
import Derived.Test.YtcffenekomiakaaShelf
import Derived.Test.YtcffenekomiakaaM
import Derived.Test.YtcffenekomiakaaK
import Derived.Test.YtcffenekomiakaaD
import Derived.Below
import Derived.WalkKit
import Derived.KernelRfl
import Derived.RowKit3
import Derived.OwnWalk
import Derived.Tactics
import Derived.Outline
import Derived.Laws.Slices
import Derived.Deep.QuietTactic
import Derived.BigQuiet
import Derived.WalkSmall
import Derived.Lib.Hide
import Derived.Deep.RegionHeld3
import Derived.Deep.DeepCutAuto
import Derived.WalkLawsBesides
namespace Go.Proofs.Ytcffenekomiakaa
open Go.RowKit


theorem mask_any (a n : Int) (w : World) (h0 : 0 ≤ a) (h1 : a < 64) (h2 : 0 < n) (h3 : n ≤ 64 - a) :
    Calls Try.prog 42 #[.agg #[.int .i64 a, .int .i64 n]] w fun e w' => e = .returned (.int .u64 (maskI a n)) ∧ Below w.heap.size w w' := by
  go_enter Try.func42, Try.ntmps42
  go_wp2
  go_quiet (fail)
  go_wp2
  go_ret
  exact ⟨rfl, below_drewN (below1 _ _) _⟩
theorem right_any (a n : Int) (w : World) :
    Calls Try.prog 41 #[.agg #[.int .i64 a, .int .i64 n]] w fun e w' => e = .returned (.bool (rightB a n)) ∧ Below w.heap.size w w' := by
  go_enter Try.func41, Try.ntmps41
  go_wp2
  all_goals (go_ret; exact ⟨ret_bool (by simp [rightB, *] <;> omega), below1 _ _⟩)
theorem put_none (x a n y : Int) (w : World) (h : rightB a n = false) :
    Calls Try.prog 39 #[.int .u64 x, .agg #[.int .i64 a, .int .i64 n], .int .u64 y] w fun e w' => e = .returned (.tuple #[.int .u64 0, .int .i64 2]) ∧ Below w.heap.size w w' := by
  go_enter Try.func39, Try.ntmps39
  go_wp2_with (go_at_call 41; refine (right_any _ _ _).mono ?_; rintro e w' ⟨rfl, hb⟩)
  go_ret2
  exact ⟨rfl, (below1 _ _).on hb⟩
theorem len64_any (y : Int) (w : World) (h0 : 0 ≤ y) (h1 : y < 18446744073709551616) : Calls Try.prog 43 #[.int .u64 y] w fun e w' => e = .returned (.int .i64 (len64 y)) ∧ w' = w := Try.bits_Len64 y w h0 (by omega)
theorem put_wide (x a n y : Int) (w : World) (h : rightB a n = true) (h0 : 0 ≤ y) (h1 : y < 18446744073709551616) (hl : n < len64 y) :
    Calls Try.prog 39 #[.int .u64 x, .agg #[.int .i64 a, .int .i64 n], .int .u64 y] w fun e w' => e = .returned (.tuple #[.int .u64 0, .int .i64 3]) ∧ Below w.heap.size w w' := by
  go_enter Try.func39, Try.ntmps39
  go_wp2_with (first | (go_at_call 41; refine (right_any _ _ _).mono ?_; rintro e w1 ⟨rfl, hb⟩; have e1 : w1.cell? ⟨w.heap.size, 1, none⟩ = some (.int .i64 n) := cell_on hb (by go_simp)))
  have B := (below1 _ _).on hb
  go_quiet ((go_at_call 43; exact Calls.quiet_of_same (len64_any _ _ h0 h1)))
  go_wp2
  go_ret2
  exact ⟨rfl, below_drewN B _⟩
theorem put_any (x a n y : Int) (w : World) (h : rightB a n = true) (h0 : 0 ≤ y) (h1 : y < 18446744073709551616) (hl : len64 y ≤ n) :
    Calls Try.prog 39 #[.int .u64 x, .agg #[.int .i64 a, .int .i64 n], .int .u64 y] w fun e w' => e = .returned (.tuple #[.int .u64 (putI x a n y), .int .i64 0]) ∧ Below w.heap.size w w' := by
  obtain ⟨g0, g1, g2, g3⟩ := rightB_iff.1 h
  go_enter Try.func39, Try.ntmps39
  go_wp2_with (first | (go_at_call 41; refine (right_any _ _ _).mono ?_; rintro e w1 ⟨rfl, hb⟩; have e0 : w1.cell? ⟨w.heap.size, 0, none⟩ = some (.int .i64 a) := cell_on hb (by go_simp); have e1 : w1.cell? ⟨w.heap.size, 1, none⟩ = some (.int .i64 n) := cell_on hb (by go_simp)))
  have B := (below1 _ _).on hb
  go_quiet ((go_at_call 43; exact Calls.quiet_of_same (len64_any _ _ h0 h1)))
  go_wp2
  go_region_held3 (fun wk => (wk.cell? ⟨w.heap.size, 0, none⟩ = some (.int .i64 a) ∧ wk.cell? ⟨w.heap.size, 1, none⟩ = some (.int .i64 n)) ∧ Below w.heap.size w wk) (first | exact kp2_drew ⟨⟨e0, e1⟩, below_drewN B _⟩ | exact kp2_call (by assumption) (by assumption)) (first | (go_at_call 42; refine (mask_any _ _ _ g0 g1 g2 g3).mono ?_; rintro e w1 ⟨rfl, hb1⟩))
  go_wp2
  go_ret2
  exact ⟨rfl, (by assumption : _ ∧ Below w.heap.size w _).2⟩

def IsFl (w : World) (A : Option Addr) (l : List (Int × Int)) : Prop := ∀ i, i < l.length → ∃ b o, A = some ⟨b, o, none⟩ ∧ w.cell? ⟨b, o + i * 2, none⟩ = some (.int .i64 (l.getD i (0, 0)).1) ∧ w.cell? ⟨b, o + i * 2 + 1, none⟩ = some (.int .i64 (l.getD i (0, 0)).2)
theorem IsFl.on {w w1 : World} {A : Option Addr} {l : List (Int × Int)} (h : IsFl w A l) (hb : Below w.heap.size w w1) : IsFl w1 A l := fun i hi => by
  obtain ⟨b, o, e, h1, h2⟩ := h i hi
  exact ⟨b, o, e, cell_on hb h1, cell_on hb h2⟩
theorem apart_any (A : Option Addr) (l : List (Int × Int)) (c : Nat) (w : World) (hl : IsFl w A l) (hc : l.length ≤ maxLen) :
    Calls Try.prog 38 #[.slice A l.length c] w fun e w' => e = .returned (.bool (apGo 0 l)) ∧ Below w.heap.size w w' := by
  unfold maxLen at hc
  have HL := Lib.hid hl
  clear hl
  go_enter Try.func38, Try.ntmps38
  go_wp2
  go_loopw [3, 8] (fun v3 v8 wr => ∃ (m : Int) (k : Nat), k ≤ l.length ∧ v3 = .int .u64 m ∧ v8 = .int .i64 k ∧ Hid (apGo m (l.drop k) = apGo 0 l) ∧ Below w.heap.size w wr) (fun _ v8 _ => l.length - (intOf v8).toNat)
  case atStart => exact ⟨0, 0, by omega, rfl, rfl, Lib.hid rfl, Below.refl _ _⟩
  case round =>
    obtain ⟨m, k, hk, rfl, rfl, HA, hb⟩ := hrel
    by_cases hlt : k < l.length
    · obtain ⟨b, o, rfl, c0, c1⟩ := HL.out k hlt
      replace c0 := cell_on hb c0
      replace c1 := cell_on hb c1
      have h1 := drop_at l k (0, 0) hlt
      generalize l.getD k (0, 0) = f at h1 c0 c1
      obtain ⟨fa, fn⟩ := f
      have HA := HA.out
      rw [h1] at HA
      simp only [apGo] at HA
      clear h1
      by_cases hr : rightB fa fn = true
      · rw [if_pos hr] at HA
        obtain ⟨g0, g1, g2, g3⟩ := rightB_iff.1 hr
        by_cases hm : bits .and .u64 m (maskI fa fn) = 0
        · rw [if_pos hm] at HA
          replace HA := Lib.hid HA
          have hm' : (bits .and .u64 m (maskI fa fn) != 0) = false := by simp [hm]
          clear hm
          go_wp2_with (first | (go_at_call 41; refine (right_any _ _ _).mono ?_; rintro e w1 ⟨rfl, hb1⟩; have d0 : w1.cell? ⟨wr.heap.size, 0, none⟩ = some (.int .i64 fa) := cell_on hb1 (by go_simp); have d1 : w1.cell? ⟨wr.heap.size, 1, none⟩ = some (.int .i64 fn) := cell_on hb1 (by go_simp); have B1 := (hb.on (below1 wr _)).on hb1; clear hb1) | (go_at_call 42; refine (mask_any _ _ _ g0 g1 g2 g3).mono ?_; rintro e w2 ⟨rfl, hb2⟩; replace d0 := cell_on hb2 d0; replace d1 := cell_on hb2 d1; replace B1 := B1.on hb2; clear hb2))
          go_roundw
          case rel => exact ⟨_, k + 1, by omega, rfl, by go_num, HA, B1⟩
          case measure => simp [intOf]; omega
        · rw [if_neg hm] at HA
          replace HA := Lib.hid HA
          have hm' : (bits .and .u64 m (maskI fa fn) != 0) = true := by simp [hm]
          clear hm
          go_wp2_with (first | (go_at_call 41; refine (right_any _ _ _).mono ?_; rintro e w1 ⟨rfl, hb1⟩; have d0 : w1.cell? ⟨wr.heap.size, 0, none⟩ = some (.int .i64 fa) := cell_on hb1 (by go_simp); have d1 : w1.cell? ⟨wr.heap.size, 1, none⟩ = some (.int .i64 fn) := cell_on hb1 (by go_simp); have B1 := (hb.on (below1 wr _)).on hb1; clear hb1) | (go_at_call 42; refine (mask_any _ _ _ g0 g1 g2 g3).mono ?_; rintro e w2 ⟨rfl, hb2⟩; replace d0 := cell_on hb2 d0; replace d1 := cell_on hb2 d1; replace B1 := B1.on hb2; clear hb2))
          go_ret
          exact ⟨ret_bool HA.out, B1⟩
      · rw [if_neg hr] at HA
        have hr' : rightB fa fn = false := by simpa using hr
        clear hr
        replace HA := Lib.hid HA
        go_wp2_with (first | (go_at_call 41; refine (right_any _ _ _).mono ?_; rintro e w1 ⟨rfl, hb1⟩; have B1 := (hb.on (below1 wr _)).on hb1; clear hb1))
        go_ret
        exact ⟨ret_bool HA.out, B1⟩
    · obtain rfl : k = l.length := by omega
      go_wp2
      go_ret
      have := HA.out
      rw [List.drop_length] at this
      exact ⟨ret_bool this, hb⟩
end Go.Proofs.Ytcffenekomiakaa
