/- FieldHalves: the walk. -/
import Derived.Test.YtagccnjkgnaimaaL1
namespace Go.Proofs.Ytagccnjkgnaimaa
open Go.RowKit
set_option linter.unusedVariables false
theorem cut_in (c n : Int) (h2 : 2 ≤ n) (hn : n ≤ 64) : 1 ≤ wrap64 (1 + wrap64 ((IntKind.u64.wrap c).tmod (n - 1))) ∧ wrap64 (1 + wrap64 ((IntKind.u64.wrap c).tmod (n - 1))) ≤ n - 1 := by
  rw [IntKind.wrap_u64, Int.tmod_eq_emod_of_nonneg (by omega)]
  have h3 := Int.emod_nonneg (c % 18446744073709551616) (show n - 1 ≠ 0 by omega)
  have h4 := Int.emod_lt_of_pos (c % 18446744073709551616) (show 0 < n - 1 by omega)
  generalize c % 18446744073709551616 % (n - 1) = r at *
  unfold wrap64
  omega
theorem halves_law (x a n k : Int) (hx0 : 0 ≤ x) (hx1 : x < 18446744073709551616) (hr : rightB a n = true) (hk1 : 1 ≤ k) (hk2 : k ≤ n - 1) :
    (getI x a n == IntKind.u64.wrap (IntKind.u64.wrap (getI x (a + k) (n - k) * 2 ^ k.toNat) + getI x a k)) = true := by
  obtain ⟨g0, g1, g2, g3⟩ := rightB_iff.1 hr
  obtain ⟨n, rfl⟩ := Int.eq_ofNat_of_zero_le (Int.le_of_lt g2)
  obtain ⟨a, rfl⟩ := Int.eq_ofNat_of_zero_le g0
  obtain ⟨x, rfl⟩ := Int.eq_ofNat_of_zero_le hx0
  obtain ⟨k, rfl⟩ := Int.eq_ofNat_of_zero_le (show 0 ≤ k by omega)
  rw [show (a : Int) + (k : Int) = ((a + k : Nat) : Int) by omega, show (n : Int) - (k : Int) = ((n - k : Nat) : Int) by omega]
  rw [getI_nat x a n (by omega) (by omega) (by omega), getI_nat x (a + k) (n - k) (by omega) (by omega) (by omega), getI_nat x a k (by omega) (by omega) (by omega)]
  have e1 : getN x a n = getN x (a + k) (n - k) * 2 ^ k + getN x a k := by
    apply Nat.eq_of_testBit_eq
    intro i
    rw [Nat.mul_comm, Nat.testBit_two_pow_mul_add _ (getN_lt x a k), getN_bit, getN_bit, getN_bit]
    by_cases h : i < k
    · simp [h]; omega
    · rw [if_neg h]
      rw [show a + k + (i - k) = a + i by omega]
      congr 1
      rw [decide_eq_decide]; omega
  have hlt := getN_lt x a n
  have hlt2 : getN x a n < 18446744073709551616 := Nat.lt_of_lt_of_le hlt (Nat.pow_le_pow_right (by decide) (by omega) : 2 ^ n ≤ 2 ^ 64)
  rw [e1] at hlt2 ⊢
  rw [Int.toNat_natCast]
  have e2 : ((getN x (a + k) (n - k) : Nat) : Int) * 2 ^ k = ((getN x (a + k) (n - k) * 2 ^ k : Nat) : Int) := by simp
  rw [e2]
  generalize getN x (a + k) (n - k) * 2 ^ k = p at *
  generalize getN x a k = q at *
  rw [IntKind.wrap_u64, IntKind.wrap_u64, beq_iff_eq]
  omega
theorem halves_walk (x a n c : Int) (w : World) (hx0 : 0 ≤ x) (hx1 : x < 18446744073709551616) :
    Calls Try.prog 7 #[.int .u64 x, .agg #[.int .i64 a, .int .i64 n], .int .i64 c] w fun e w' => e = .returned (.bool true) ∧ Below w.heap.size w w' := by
  by_cases hr : rightB a n = true
  · obtain ⟨g0, g1, g2, g3⟩ := rightB_iff.1 hr
    by_cases h2 : n < 2
    · go_enter Try.func7, Try.ntmps7
      go_wp2_with (first | (go_at_call 17; refine (ref_right a n _).mono ?_; rintro e w1 ⟨rfl, hbx⟩; have d0 : w1.cell? ⟨w.heap.size, 0, none⟩ = some (.int .i64 a) := cell_on hbx (by go_simp); have d1 : w1.cell? ⟨w.heap.size, 1, none⟩ = some (.int .i64 n) := cell_on hbx (by go_simp); have B1 := (below1 w _).on hbx; clear hbx) | (go_at_call 18; refine (alive_any _).mono ?_; rintro e w1 ⟨rfl, hbx⟩; replace d0 := cell_on hbx d0; replace d1 := cell_on hbx d1; replace B1 := B1.on hbx; clear hbx))
      go_ret
      exact ⟨rfl, B1⟩
    · have h2' : 2 ≤ n := by omega
      clear h2
      have HR := Lib.hid hr
      go_enter Try.func7, Try.ntmps7
      go_wp2_with (first | (go_at_call 17; refine (ref_right a n _).mono ?_; rintro e w1 ⟨rfl, hbx⟩; have d0 : w1.cell? ⟨w.heap.size, 0, none⟩ = some (.int .i64 a) := cell_on hbx (by go_simp); have d1 : w1.cell? ⟨w.heap.size, 1, none⟩ = some (.int .i64 n) := cell_on hbx (by go_simp); have B1 := (below1 w _).on hbx; clear hbx) | fail)
      refine (get_any _ _ _ _ HR.out).mono ?_
      rintro e w1 ⟨rfl, hb1⟩
      replace d0 := cell_on hb1 d0
      replace d1 := cell_on hb1 d1
      replace B1 := B1.on hb1
      clear hb1
      go_wp2_with fail
      have hk := cut_in c n h2' (by omega)
      generalize wrap64 (1 + wrap64 ((IntKind.u64.wrap c).tmod (n - 1))) = k at hk ⊢
      obtain ⟨hk1, hk2⟩ := hk
      refine (get_any _ _ _ _ (rightB_iff.2 ⟨g0, g1, by omega, by omega⟩)).mono ?_
      rintro e w2 ⟨rfl, hb1⟩
      replace d0 := cell_on hb1 d0
      replace d1 := cell_on hb1 d1
      replace B1 := B1.on hb1
      clear hb1
      go_wp2_with fail
      refine (get_any _ _ _ _ (rightB_iff.2 ⟨by omega, by omega, by omega, by omega⟩)).mono ?_
      rintro e w3 ⟨rfl, hb1⟩
      replace B1 := B1.on hb1
      clear hb1 d0 d1
      have HL := Lib.hid (halves_law x a n k hx0 hx1 HR.out hk1 hk2)
      go_wp2_with (first | (go_at_call 18; refine (alive_any _).mono ?_; rintro e w1 ⟨rfl, hbx⟩; replace B1 := B1.on hbx; clear hbx))
      go_ret
      have h := HL.out
      exact ⟨ret_bool h, B1⟩
  · have hr' : rightB a n = false := by simpa using hr
    clear hr
    go_enter Try.func7, Try.ntmps7
    go_wp2_with (first | (go_at_call 17; refine (ref_right a n _).mono ?_; rintro e w1 ⟨rfl, hbx⟩; have d0 : w1.cell? ⟨w.heap.size, 0, none⟩ = some (.int .i64 a) := cell_on hbx (by go_simp); have d1 : w1.cell? ⟨w.heap.size, 1, none⟩ = some (.int .i64 n) := cell_on hbx (by go_simp); have B1 := (below1 w _).on hbx; clear hbx) | (go_at_call 18; refine (alive_any _).mono ?_; rintro e w1 ⟨rfl, hbx⟩; replace d0 := cell_on hbx d0; replace d1 := cell_on hbx d1; replace B1 := B1.on hbx; clear hbx))
    go_ret
    exact ⟨rfl, B1⟩
end Go.Proofs.Ytagccnjkgnaimaa
