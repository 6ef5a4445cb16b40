/- FieldKeeps: the walk. -/
import Derived.Test.YtagccnjkgnaimaaL1
namespace Go.Proofs.Ytagccnjkgnaimaa
open Go.RowKit
set_option linter.unusedVariables false
def cutI (x n : Int) : Int := IntKind.u64.wrap (x * 2 ^ (64 - n).toNat) / 2 ^ (64 - n).toNat
theorem cut_ok (x n : Int) (h0 : 0 ≤ x) (h1 : x < 18446744073709551616) (hn : 0 < n) (hn' : n ≤ 64) : 0 ≤ cutI x n ∧ cutI x n < 18446744073709551616 ∧ len64 (cutI x n) ≤ n := by
  obtain ⟨n, rfl⟩ := Int.eq_ofNat_of_zero_le (Int.le_of_lt hn)
  obtain ⟨x, rfl⟩ := Int.eq_ofNat_of_zero_le h0
  have e : cutI x n = ((x % 2 ^ n : Nat) : Int) := by
    unfold cutI
    rw [show ((64 : Int) - (n : Int)).toNat = 64 - n by omega, IntKind.wrap_u64]
    have e1 : ((x : Int) * 2 ^ (64 - n) % 18446744073709551616) = ((x * 2 ^ (64 - n) % 2 ^ 64 : Nat) : Int) := by simp
    have e2 : (2 : Nat) ^ 64 = 2 ^ n * 2 ^ (64 - n) := by rw [← Nat.pow_add]; congr 1; omega
    rw [e1, e2, Nat.mul_mod_mul_right]
    have e3 : ((2 : Int) ^ (64 - n)) = ((2 ^ (64 - n) : Nat) : Int) := by simp
    rw [e3, ← Int.natCast_ediv, Nat.mul_div_cancel _ (Nat.two_pow_pos _)]
  have hlt : x % 2 ^ n < 2 ^ n := Nat.mod_lt _ (Nat.two_pow_pos _)
  have h64 : x % 2 ^ n < 18446744073709551616 := Nat.lt_of_le_of_lt (Nat.mod_le _ _) (by omega)
  rw [e]
  refine ⟨by omega, by omega, (len64_le _ n h64 (by omega)).2 hlt⟩
theorem keeps_law (x0 a n b m k : Int) (hx0 : 0 ≤ x0) (hx1 : x0 < 18446744073709551616) (hr : rightB a n = true) (hr2 : rightB b m = true) (hk0 : 0 ≤ k) (hk1 : k < 18446744073709551616) (hkl : len64 k ≤ n) :
    getI (putI x0 a n k) a n = k ∧ (apGo 0 [(a, n), (b, m)] = true → getI (putI x0 a n k) b m = getI x0 b m) := by
  obtain ⟨g0, g1, g2, g3⟩ := rightB_iff.1 hr
  obtain ⟨f0, f1, f2, f3⟩ := rightB_iff.1 hr2
  obtain ⟨n, rfl⟩ := Int.eq_ofNat_of_zero_le (Int.le_of_lt g2)
  obtain ⟨a, rfl⟩ := Int.eq_ofNat_of_zero_le g0
  obtain ⟨m, rfl⟩ := Int.eq_ofNat_of_zero_le (Int.le_of_lt f2)
  obtain ⟨b, rfl⟩ := Int.eq_ofNat_of_zero_le f0
  obtain ⟨x, rfl⟩ := Int.eq_ofNat_of_zero_le hx0
  obtain ⟨k, rfl⟩ := Int.eq_ofNat_of_zero_le hk0
  have hlt := (len64_le k n (by omega) (by omega)).1 hkl
  have hp := putN_lt x a n k (by omega) hlt (by omega)
  have hb := fun i => putN_bit x a n k i (by omega) hlt (by omega)
  rw [putI_nat x a n k (by omega) (by omega) (by omega) hlt]
  rw [getI_nat _ a n hp (by omega) (by omega), getI_nat _ b m hp (by omega) (by omega), getI_nat x b m (by omega) (by omega) (by omega)]
  constructor
  · congr 1
    apply Nat.eq_of_testBit_eq
    intro i
    rw [getN_bit, hb]
    by_cases h : i < n
    · rw [if_pos (by omega), show a + i - a = i by omega]; simp [h]
    · have : k.testBit i = false := Nat.testBit_lt_two_pow (Nat.lt_of_lt_of_le hlt (Nat.pow_le_pow_right (by decide) (by omega)))
      simp [h, this]
  · intro hap
    have hc := ((apGo_iff _ 0 (by decide)).1 hap).2
    congr 1
    apply Nat.eq_of_testBit_eq
    intro i
    rw [getN_bit, getN_bit, hb]
    by_cases h : i < m
    · by_cases hin : a ≤ b + i ∧ b + i < a + n
      · have := hc (b + i) (by omega)
        simp only [cnt] at this
        rw [if_pos (by omega), if_pos (by omega)] at this
        omega
      · rw [if_neg hin]
    · simp [h]
set_option maxHeartbeats 1000000 in
theorem keeps_walk (x0 x1 a n b m : Int) (w : World) (hx0 : 0 ≤ x0) (hx1 : x0 < 18446744073709551616) (hy0 : 0 ≤ x1) (hy1 : x1 < 18446744073709551616) :
    Calls Try.prog 6 #[.agg #[.int .u64 x0, .int .u64 x1], .agg #[.int .i64 a, .int .i64 n], .agg #[.int .i64 b, .int .i64 m]] w fun e w' => e = .returned (.bool true) ∧ Below w.heap.size w w' := by
  by_cases hr : rightB a n = true
  · obtain ⟨g0, g1, g2, g3⟩ := rightB_iff.1 hr
    by_cases hr2 : rightB b m = true
    · have HR := Lib.hid hr
      have HR2 := Lib.hid hr2
      go_enter Try.func6, Try.ntmps6
      go_wp2_with fail
      refine (ref_right a n _).mono ?_
      rintro e w1 ⟨rfl, hbx⟩
      have d0 : w1.cell? ⟨w.heap.size, 0, none⟩ = some (.int .u64 x0) := cell_on hbx (by go_simp); have d1 : w1.cell? ⟨w.heap.size, 1, none⟩ = some (.int .u64 x1) := cell_on hbx (by go_simp); have d2 : w1.cell? ⟨w.heap.size + 1, 0, none⟩ = some (.int .i64 a) := cell_on hbx (by go_simp); have d3 : w1.cell? ⟨w.heap.size + 1, 1, none⟩ = some (.int .i64 n) := cell_on hbx (by go_simp); have d4 : w1.cell? ⟨w.heap.size + 1 + 1, 0, none⟩ = some (.int .i64 b) := cell_on hbx (by go_simp); have d5 : w1.cell? ⟨w.heap.size + 1 + 1, 1, none⟩ = some (.int .i64 m) := cell_on hbx (by go_simp); have B1 := (((below1 w _).on (below1 _ _)).on (below1 _ _)).on hbx; clear hbx
      go_wp2_with fail
      refine (ref_right b m _).mono ?_
      rintro e w2 ⟨rfl, hbx⟩
      replace d0 := cell_on hbx d0; replace d1 := cell_on hbx d1; replace d2 := cell_on hbx d2; replace d3 := cell_on hbx d3; replace d4 := cell_on hbx d4; replace d5 := cell_on hbx d5; replace B1 := B1.on hbx; clear hbx
      go_wp2_with fail
      go_quiet (fail)
      go_wp2_with fail
      replace B1 := below_drewN B1 nq
      have hk := cut_ok x1 n hy0 hy1 (by omega) (by omega)
      have hkeep := keeps_law x0 a n b m (cutI x1 n) hx0 hx1 HR.out HR2.out hk.1 hk.2.1 hk.2.2
      unfold cutI at hk hkeep
      generalize IntKind.u64.wrap (x1 * 2 ^ (64 - n).toNat) / 2 ^ (64 - n).toNat = k at hk hkeep ⊢
      obtain ⟨hk1, hk2, hk3⟩ := hk
      obtain ⟨hz, hsame⟩ := hkeep
      have HZ := Lib.hid hz
      have HS := Lib.hid hsame
      clear hz hsame
      have hp := put_any x0 a n k
      refine (hp _ HR.out hk1 hk2 hk3).mono ?_
      clear hp
      rintro e w3 ⟨rfl, hbx⟩
      replace d0 := cell_on hbx d0; replace d1 := cell_on hbx d1; replace d2 := cell_on hbx d2; replace d3 := cell_on hbx d3; replace d4 := cell_on hbx d4; replace d5 := cell_on hbx d5; replace B1 := B1.on hbx; clear hbx
      generalize hy : putI x0 a n k = y at HZ HS ⊢
      clear hy
      go_wp2_with fail
      refine (get_any y a n _ HR.out).mono ?_
      rintro e w4 ⟨rfl, hbx⟩
      replace d0 := cell_on hbx d0; replace d1 := cell_on hbx d1; replace d2 := cell_on hbx d2; replace d3 := cell_on hbx d3; replace d4 := cell_on hbx d4; replace d5 := cell_on hbx d5; replace B1 := B1.on hbx; clear hbx
      rw [HZ.out]
      go_wp2_with fail
      refine (get_any x0 b m _ HR2.out).mono ?_
      rintro e w5 ⟨rfl, hbx⟩
      replace d0 := cell_on hbx d0; replace d1 := cell_on hbx d1; replace d2 := cell_on hbx d2; replace d3 := cell_on hbx d3; replace d4 := cell_on hbx d4; replace d5 := cell_on hbx d5; replace B1 := B1.on hbx; clear hbx
      go_wp2_with fail
      refine (get_any y b m _ HR2.out).mono ?_
      rintro e w6 ⟨rfl, hbx⟩
      replace d0 := cell_on hbx d0; replace d1 := cell_on hbx d1; replace d2 := cell_on hbx d2; replace d3 := cell_on hbx d3; replace d4 := cell_on hbx d4; replace d5 := cell_on hbx d5; replace B1 := B1.on hbx; clear hbx
      go_wp2_with fail
      refine (alive_any _).mono ?_
      rintro e w7 ⟨rfl, hbx⟩
      replace d0 := cell_on hbx d0; replace d1 := cell_on hbx d1; replace d2 := cell_on hbx d2; replace d3 := cell_on hbx d3; replace d4 := cell_on hbx d4; replace d5 := cell_on hbx d5; replace B1 := B1.on hbx; clear hbx
      go_wp2_with fail
      refine (apart_any _ [(a, n), (b, m)] 2 _ (fun i hi => ⟨_, _, rfl, ?_, ?_⟩) (by unfold maxLen; simp)).mono ?_
      · rcases i with _ | _ | i
        · go_simp
        · go_simp
        · simp at hi; omega
      · rcases i with _ | _ | i
        · go_simp
        · go_simp
        · simp at hi; omega
      rintro e w8 ⟨rfl, hbx⟩
      replace B1 := (B1.on (below1 _ _)).on hbx
      by_cases hap : apGo 0 [(a, n), (b, m)] = true
      · rw [hap, HS.out hap]
        go_wp2
        go_ret
        exact ⟨rfl, B1⟩
      · rw [Bool.eq_false_iff.2 hap]
        go_wp2
        go_ret
        exact ⟨rfl, B1⟩
    · have hr2' : rightB b m = false := by simpa using hr2
      clear hr2
      go_enter Try.func6, Try.ntmps6
      go_wp2_with fail
      refine (ref_right a n _).mono ?_
      rintro e w1 ⟨rfl, hbx⟩
      have d0 : w1.cell? ⟨w.heap.size, 0, none⟩ = some (.int .u64 x0) := cell_on hbx (by go_simp); have d1 : w1.cell? ⟨w.heap.size, 1, none⟩ = some (.int .u64 x1) := cell_on hbx (by go_simp); have d2 : w1.cell? ⟨w.heap.size + 1, 0, none⟩ = some (.int .i64 a) := cell_on hbx (by go_simp); have d3 : w1.cell? ⟨w.heap.size + 1, 1, none⟩ = some (.int .i64 n) := cell_on hbx (by go_simp); have d4 : w1.cell? ⟨w.heap.size + 1 + 1, 0, none⟩ = some (.int .i64 b) := cell_on hbx (by go_simp); have d5 : w1.cell? ⟨w.heap.size + 1 + 1, 1, none⟩ = some (.int .i64 m) := cell_on hbx (by go_simp); have B1 := (((below1 w _).on (below1 _ _)).on (below1 _ _)).on hbx; clear hbx
      go_wp2_with fail
      refine (ref_right b m _).mono ?_
      rintro e w2 ⟨rfl, hbx⟩
      replace d0 := cell_on hbx d0; replace d1 := cell_on hbx d1; replace d2 := cell_on hbx d2; replace d3 := cell_on hbx d3; replace d4 := cell_on hbx d4; replace d5 := cell_on hbx d5; replace B1 := B1.on hbx; clear hbx
      go_wp2_with (first | (go_at_call 18; refine (alive_any _).mono ?_; rintro e w1 ⟨rfl, hbx⟩; replace d0 := cell_on hbx d0; replace d1 := cell_on hbx d1; replace d2 := cell_on hbx d2; replace d3 := cell_on hbx d3; replace d4 := cell_on hbx d4; replace d5 := cell_on hbx d5; replace B1 := B1.on hbx; clear hbx))
      go_ret
      exact ⟨rfl, B1⟩
  · have hr' : rightB a n = false := by simpa using hr
    clear hr
    go_enter Try.func6, Try.ntmps6
    go_wp2_with (first | (go_at_call 17; refine (ref_right a n _).mono ?_; rintro e w1 ⟨rfl, hbx⟩; have d0 : w1.cell? ⟨w.heap.size, 0, none⟩ = some (.int .u64 x0) := cell_on hbx (by go_simp); have d1 : w1.cell? ⟨w.heap.size, 1, none⟩ = some (.int .u64 x1) := cell_on hbx (by go_simp); have d2 : w1.cell? ⟨w.heap.size + 1, 0, none⟩ = some (.int .i64 a) := cell_on hbx (by go_simp); have d3 : w1.cell? ⟨w.heap.size + 1, 1, none⟩ = some (.int .i64 n) := cell_on hbx (by go_simp); have d4 : w1.cell? ⟨w.heap.size + 1 + 1, 0, none⟩ = some (.int .i64 b) := cell_on hbx (by go_simp); have d5 : w1.cell? ⟨w.heap.size + 1 + 1, 1, none⟩ = some (.int .i64 m) := cell_on hbx (by go_simp); have B1 := (((below1 w _).on (below1 _ _)).on (below1 _ _)).on hbx; clear hbx) | (go_at_call 18; refine (alive_any _).mono ?_; rintro e w1 ⟨rfl, hbx⟩; replace d0 := cell_on hbx d0; replace d1 := cell_on hbx d1; replace d2 := cell_on hbx d2; replace d3 := cell_on hbx d3; replace d4 := cell_on hbx d4; replace d5 := cell_on hbx d5; replace B1 := B1.on hbx; clear hbx))
    go_ret
    exact ⟨rfl, B1⟩
end Go.Proofs.Ytagccnjkgnaimaa
