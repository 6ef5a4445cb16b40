/- FieldPuts: the walk. -/
import Derived.Test.YtagccnjkgnaimaaB
import Derived.Test.YtagccnjkgnaimaaE
namespace Go.Proofs.Ytagccnjkgnaimaa
open Go.RowKit
set_option linter.unusedVariables false
def U64x (x : Int) : Prop := 0 ≤ x ∧ x < 18446744073709551616
theorem fits_int (y n : Int) (hy0 : 0 ≤ y) (hy1 : y < 18446744073709551616) (h0 : 0 ≤ n) (h1 : n ≤ 64) (w : World) : Calls Try.prog 19 #[.int .u64 y, .int .i64 n] w fun e w'' => e = .returned (.bool (decide (len64 y ≤ n))) ∧ Below w.heap.size w w'' := by
  obtain ⟨n, rfl⟩ := Int.eq_ofNat_of_zero_le h0
  obtain ⟨y, rfl⟩ := Int.eq_ofNat_of_zero_le hy0
  exact ref_fits y n w (by omega) (by omega)
theorem refput_int (x a n y : Int) (hx0 : 0 ≤ x) (hx1 : x < 18446744073709551616) (hy0 : 0 ≤ y) (hr : rightB a n = true) (hl : len64 y ≤ n) (hy1 : y < 18446744073709551616) (w : World) :
    Calls Try.prog 20 #[.int .u64 x, .int .i64 a, .int .i64 n, .int .u64 y] w fun e w' => e = .returned (.int .u64 (putI x a n y)) ∧ Below w.heap.size w w' := by
  obtain ⟨g0, g1, g2, g3⟩ := rightB_iff.1 hr
  obtain ⟨n, rfl⟩ := Int.eq_ofNat_of_zero_le (Int.le_of_lt g2)
  obtain ⟨a, rfl⟩ := Int.eq_ofNat_of_zero_le g0
  obtain ⟨x, rfl⟩ := Int.eq_ofNat_of_zero_le hx0
  obtain ⟨y, rfl⟩ := Int.eq_ofNat_of_zero_le hy0
  exact ref_put x a n y w (by omega) (by omega) (by omega) ((len64_le y n (by omega) (by omega)).1 hl)
theorem puts_walk (x a n y : Int) (w : World) (hx0 : 0 ≤ x) (hx1 : x < 18446744073709551616) (hy0 : 0 ≤ y) (hy1 : y < 18446744073709551616) :
    Calls Try.prog 3 #[.int .u64 x, .agg #[.int .i64 a, .int .i64 n], .int .u64 y] w fun e w' => e = .returned (.bool true) ∧ Below w.heap.size w w' := by
  by_cases hr : rightB a n = true
  · obtain ⟨g0, g1, g2, g3⟩ := rightB_iff.1 hr
    have HR := Lib.hid hr
    by_cases hl : n < len64 y
    · have hd : decide (len64 y ≤ n) = false := by simp; omega
      go_enter Try.func3, Try.ntmps3
      go_wp2_with (first | (go_at_call 16; refine (put_wide _ _ _ _ _ HR.out hy0 hy1 hl).mono ?_; rintro e w1 ⟨rfl, hbx⟩; have d0 : w1.cell? ⟨w.heap.size, 0, none⟩ = some (.int .i64 a) := cell_on hbx (by go_simp); have d1 : w1.cell? ⟨w.heap.size, 1, none⟩ = some (.int .i64 n) := cell_on hbx (by go_simp); have B1 := (below1 w _).on hbx; clear hbx) | (go_at_call 17; refine (ref_right a n _).mono ?_; rintro e w1 ⟨rfl, hbx⟩; replace d0 := cell_on hbx d0; replace d1 := cell_on hbx d1; replace B1 := B1.on hbx; clear hbx) | (go_at_call 18; refine (alive_any _).mono ?_; rintro e w1 ⟨rfl, hbx⟩; replace d0 := cell_on hbx d0; replace d1 := cell_on hbx d1; replace B1 := B1.on hbx; clear hbx) | (go_at_call 19; refine (fits_int y n hy0 hy1 (by omega) (by omega) _).mono ?_; rintro e w1 ⟨rfl, hbx⟩; replace d0 := cell_on hbx d0; replace d1 := cell_on hbx d1; replace B1 := B1.on hbx; clear hbx))
      go_ret
      exact ⟨rfl, B1⟩
    · have hl' : len64 y ≤ n := by omega
      clear hl
      go_enter Try.func3, Try.ntmps3
      go_wp2_with (first | (go_at_call 16; refine (put_any _ _ _ _ _ HR.out hy0 hy1 hl').mono ?_; rintro e w1 ⟨rfl, hbx⟩; have d0 : w1.cell? ⟨w.heap.size, 0, none⟩ = some (.int .i64 a) := cell_on hbx (by go_simp); have d1 : w1.cell? ⟨w.heap.size, 1, none⟩ = some (.int .i64 n) := cell_on hbx (by go_simp); have B1 := (below1 w _).on hbx; clear hbx) | (go_at_call 17; refine (ref_right a n _).mono ?_; rintro e w1 ⟨rfl, hbx⟩; replace d0 := cell_on hbx d0; replace d1 := cell_on hbx d1; replace B1 := B1.on hbx; clear hbx) | (go_at_call 18; refine (alive_any _).mono ?_; rintro e w1 ⟨rfl, hbx⟩; replace d0 := cell_on hbx d0; replace d1 := cell_on hbx d1; replace B1 := B1.on hbx; clear hbx) | (go_at_call 19; refine (fits_int y n hy0 hy1 (by omega) (by omega) _).mono ?_; rintro e w1 ⟨rfl, hbx⟩; replace d0 := cell_on hbx d0; replace d1 := cell_on hbx d1; replace B1 := B1.on hbx; clear hbx) | (go_at_call 20; refine (refput_int x a n y hx0 hx1 hy0 HR.out hl' hy1 _).mono ?_; rintro e w1 ⟨rfl, hbx⟩; replace d0 := cell_on hbx d0; replace d1 := cell_on hbx d1; replace B1 := B1.on hbx; clear hbx))
      go_ret
      exact ⟨rfl, B1⟩
  · have hr' : rightB a n = false := by simpa using hr
    clear hr
    go_enter Try.func3, Try.ntmps3
    go_wp2_with (first | (go_at_call 16; refine (put_none _ _ _ _ _ hr').mono ?_; rintro e w1 ⟨rfl, hbx⟩; have d0 : w1.cell? ⟨w.heap.size, 0, none⟩ = some (.int .i64 a) := cell_on hbx (by go_simp); have d1 : w1.cell? ⟨w.heap.size, 1, none⟩ = some (.int .i64 n) := cell_on hbx (by go_simp); have B1 := (below1 w _).on hbx; clear hbx) | (go_at_call 17; refine (ref_right a n _).mono ?_; rintro e w1 ⟨rfl, hbx⟩; replace d0 := cell_on hbx d0; replace d1 := cell_on hbx d1; replace B1 := B1.on hbx; clear hbx) | (go_at_call 18; refine (alive_any _).mono ?_; rintro e w1 ⟨rfl, hbx⟩; replace d0 := cell_on hbx d0; replace d1 := cell_on hbx d1; replace B1 := B1.on hbx; clear hbx) | (go_at_call 19; refine (fits_int y n hy0 hy1 (by omega) (by omega) _).mono ?_; rintro e w1 ⟨rfl, hbx⟩; replace d0 := cell_on hbx d0; replace d1 := cell_on hbx d1; replace B1 := B1.on hbx; clear hbx))
    go_ret
    exact ⟨rfl, B1⟩
end Go.Proofs.Ytagccnjkgnaimaa
