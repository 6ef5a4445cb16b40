/- FieldGets: the walk. -/
import Derived.Test.YtagccnjkgnaimaaL1
import Derived.Test.YtagccnjkgnaimaaE2
namespace Go.Proofs.Ytagccnjkgnaimaa
open Go.RowKit Go.Proofs.YtagccnjkgnaimaaW.PrintWords
set_option linter.unusedVariables false
theorem refget_int (x a n : Int) (hx0 : 0 ≤ x) (hx1 : x < 18446744073709551616) (hr : rightB a n = true) (w : World) :
    Calls Try.prog 27 #[.int .u64 x, .int .i64 a, .int .i64 n] w fun e w' => e = .returned (.int .u64 (getI x a n)) ∧ Below w.heap.size w w' := by
  obtain ⟨g0, g1, g2, g3⟩ := rightB_iff.1 hr
  obtain ⟨n, rfl⟩ := Int.eq_ofNat_of_zero_le (Int.le_of_lt g2)
  obtain ⟨a, rfl⟩ := Int.eq_ofNat_of_zero_le g0
  obtain ⟨x, rfl⟩ := Int.eq_ofNat_of_zero_le hx0
  exact ref_get x a n w (by omega) (by omega) (by omega)
theorem len_take70 {α : Type} (l : List α) : ((l.take 70).length : Int) = if (l.length : Int) < 70 then (l.length : Int) else 70 := by
  rw [List.length_take]; split <;> omega
set_option maxHeartbeats 1000000 in
theorem gets_walk (x a n : Int) (A : Option Addr) (c : Nat) (l : List (Int × Int)) (w : World) (hx0 : 0 ≤ x) (hx1 : x < 18446744073709551616) (hl : SliceOf w A 2 enc2 (0, 0) l) (hc : l.length ≤ c) (hm : l.length ≤ maxLen) :
    Calls Try.prog 5 #[.int .u64 x, .agg #[.int .i64 a, .int .i64 n], .slice A l.length c] w fun e w' => e = .returned (.bool true) ∧ Below w.heap.size w w' := by
  unfold maxLen at hm
  have HL := Lib.hid (hl.take 70)
  clear hl
  go_enter Try.func5, Try.ntmps5
  go_wp2_with fail
  have hlen : (min (l.length : Int) 70).toNat = (l.take 70).length := by rw [List.length_take]; omega
  have h70 : (l.take 70).length ≤ 70 := by rw [List.length_take]; omega
  have hlc : (l.take 70).length ≤ c := by rw [List.length_take]; omega
  rw [hlen]
  clear hlen
  generalize l.take 70 = l' at HL h70 hlc ⊢
  have HL1 := Lib.hid (HL.out.on (below1 w (.cells #[.int .i64 a, .int .i64 n] 24)))
  refine (parts_any A c l' _ HL1.out h70 hlc).mono ?_
  rintro e w1 ⟨A1, c1, A2, c2, rfl, hc1, hc2, hC1, hC2, hbx⟩
  have d0 : w1.cell? ⟨w.heap.size, 0, none⟩ = some (.int .i64 a) := cell_on hbx (by go_simp)
  have d1 : w1.cell? ⟨w.heap.size, 1, none⟩ = some (.int .i64 n) := cell_on hbx (by go_simp)
  have B1 := (below1 w _).on hbx
  have HF := Lib.hid (HL1.out.on hbx).fl
  have HC1 := Lib.hid hC1
  have HC2 := Lib.hid hC2
  clear hC1 hC2 hbx HL HL1
  have hmx : l'.length ≤ maxLen := by unfold maxLen; omega
  by_cases hr : rightB a n = true
  · have HR := Lib.hid hr
    go_wp2_with fail
    refine (get_any _ _ _ _ HR.out).mono ?_
    rintro e w2 ⟨rfl, hbx⟩
    replace d0 := cell_on hbx d0; replace d1 := cell_on hbx d1; replace B1 := B1.on hbx; replace HF := Lib.hid (HF.out.on hbx); replace HC1 := Lib.hid (Kd.C_below HC1.out hbx); replace HC2 := Lib.hid (Kd.C_below HC2.out hbx); clear hbx
    go_wp2_with fail
    refine (ref_right a n _).mono ?_
    rintro e w3 ⟨rfl, hbx⟩
    replace d0 := cell_on hbx d0; replace d1 := cell_on hbx d1; replace B1 := B1.on hbx; replace HF := Lib.hid (HF.out.on hbx); replace HC1 := Lib.hid (Kd.C_below HC1.out hbx); replace HC2 := Lib.hid (Kd.C_below HC2.out hbx); clear hbx
    go_wp2_with fail
    refine (alive_any _).mono ?_
    rintro e w4 ⟨rfl, hbx⟩
    replace d0 := cell_on hbx d0; replace d1 := cell_on hbx d1; replace B1 := B1.on hbx; replace HF := Lib.hid (HF.out.on hbx); replace HC1 := Lib.hid (Kd.C_below HC1.out hbx); replace HC2 := Lib.hid (Kd.C_below HC2.out hbx); clear hbx
    go_wp2_with fail
    refine (right_any a n _).mono ?_
    rintro e w5 ⟨rfl, hbx⟩
    replace d0 := cell_on hbx d0; replace d1 := cell_on hbx d1; replace B1 := B1.on hbx; replace HF := Lib.hid (HF.out.on hbx); replace HC1 := Lib.hid (Kd.C_below HC1.out hbx); replace HC2 := Lib.hid (Kd.C_below HC2.out hbx); clear hbx
    go_wp2_with fail
    refine (apart_any A l' c _ HF.out hmx).mono ?_
    rintro e w6 ⟨rfl, hbx⟩
    replace d0 := cell_on hbx d0; replace d1 := cell_on hbx d1; replace B1 := B1.on hbx; replace HF := Lib.hid (HF.out.on hbx); replace HC1 := Lib.hid (Kd.C_below HC1.out hbx); replace HC2 := Lib.hid (Kd.C_below HC2.out hbx); clear hbx
    go_wp2_with fail
    refine (refapart_any A1 A2 c1 c2 l' _ h70 HC1.out HC2.out hc1 hc2).mono ?_
    rintro e w7 ⟨rfl, hbx⟩
    replace d0 := cell_on hbx d0; replace d1 := cell_on hbx d1; replace B1 := B1.on hbx; replace HF := Lib.hid (HF.out.on hbx); replace HC1 := Lib.hid (Kd.C_below HC1.out hbx); replace HC2 := Lib.hid (Kd.C_below HC2.out hbx); clear hbx
    cases apGo 0 l'
    all_goals
      go_wp2_with (first | (go_at_call 27; refine (refget_int x a n hx0 hx1 HR.out _).mono ?_; rintro e w1 ⟨rfl, hbx⟩; replace d0 := cell_on hbx d0; replace d1 := cell_on hbx d1; replace B1 := B1.on hbx; clear hbx))
      go_ret
      exact ⟨rfl, B1⟩
  · have hr' : rightB a n = false := by simpa using hr
    clear hr
    go_wp2_with fail
    refine (get_none _ _ _ _ hr').mono ?_
    rintro e w2 ⟨rfl, hbx⟩
    replace d0 := cell_on hbx d0; replace d1 := cell_on hbx d1; replace B1 := B1.on hbx; replace HF := Lib.hid (HF.out.on hbx); replace HC1 := Lib.hid (Kd.C_below HC1.out hbx); replace HC2 := Lib.hid (Kd.C_below HC2.out hbx); clear hbx
    go_wp2_with fail
    refine (ref_right a n _).mono ?_
    rintro e w3 ⟨rfl, hbx⟩
    replace d0 := cell_on hbx d0; replace d1 := cell_on hbx d1; replace B1 := B1.on hbx; replace HF := Lib.hid (HF.out.on hbx); replace HC1 := Lib.hid (Kd.C_below HC1.out hbx); replace HC2 := Lib.hid (Kd.C_below HC2.out hbx); clear hbx
    go_wp2_with fail
    refine (alive_any _).mono ?_
    rintro e w4 ⟨rfl, hbx⟩
    replace d0 := cell_on hbx d0; replace d1 := cell_on hbx d1; replace B1 := B1.on hbx; replace HF := Lib.hid (HF.out.on hbx); replace HC1 := Lib.hid (Kd.C_below HC1.out hbx); replace HC2 := Lib.hid (Kd.C_below HC2.out hbx); clear hbx
    go_wp2_with fail
    refine (right_any a n _).mono ?_
    rintro e w5 ⟨rfl, hbx⟩
    replace d0 := cell_on hbx d0; replace d1 := cell_on hbx d1; replace B1 := B1.on hbx; replace HF := Lib.hid (HF.out.on hbx); replace HC1 := Lib.hid (Kd.C_below HC1.out hbx); replace HC2 := Lib.hid (Kd.C_below HC2.out hbx); clear hbx
    go_wp2_with fail
    refine (apart_any A l' c _ HF.out hmx).mono ?_
    rintro e w6 ⟨rfl, hbx⟩
    replace d0 := cell_on hbx d0; replace d1 := cell_on hbx d1; replace B1 := B1.on hbx; replace HF := Lib.hid (HF.out.on hbx); replace HC1 := Lib.hid (Kd.C_below HC1.out hbx); replace HC2 := Lib.hid (Kd.C_below HC2.out hbx); clear hbx
    go_wp2_with fail
    refine (refapart_any A1 A2 c1 c2 l' _ h70 HC1.out HC2.out hc1 hc2).mono ?_
    rintro e w7 ⟨rfl, hbx⟩
    replace d0 := cell_on hbx d0; replace d1 := cell_on hbx d1; replace B1 := B1.on hbx; replace HF := Lib.hid (HF.out.on hbx); replace HC1 := Lib.hid (Kd.C_below HC1.out hbx); replace HC2 := Lib.hid (Kd.C_below HC2.out hbx); clear hbx
    cases apGo 0 l'
    all_goals
      go_wp2
      go_ret
      exact ⟨rfl, B1⟩
end Go.Proofs.Ytagccnjkgnaimaa
