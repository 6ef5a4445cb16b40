/- More contracts of the package store: walks. -/
import Derived.Test.YtkaflgbipjppmaaDoorTr
namespace Go.Proofs.YtkaflgbipjppmaaDoor
open Go.RowKit
set_option linter.unusedVariables false
set_option linter.unusedSimpArgs false
variable {w w' : World} {B Wb Ob p q size : Nat} {W W' own own' : List Int}
/-- Are n words from a on all somebody's? -/
def okW (own : List Int) (size a n : Nat) : Bool := (List.range n).all fun j => decide (own.getD ((a + j) / size) 0 ≠ 0)
theorem okW_iff {own : List Int} {size a n : Nat} : okW own size a n = true ↔ ∀ j, j < n → own.getD ((a + j) / size) 0 ≠ 0 := by
  unfold okW
  rw [List.all_eq_true]
  constructor
  · intro h j hj
    exact of_decide_eq_true (h j (List.mem_range.2 hj))
  · intro h j hj
    exact decide_eq_true (h j (List.mem_range.1 hj))
theorem okW_one {own : List Int} {size a : Nat} : okW own size a 1 = decide (own.getD (a / size) 0 ≠ 0) := by
  unfold okW; simp [List.range_succ]
/-- By chunks. -/
theorem okW_chunks {own : List Int} {size a n : Nat} (hs : 1 ≤ size) (hn : 1 ≤ n) (h : ∀ c, a / size ≤ c → c ≤ (a + n - 1) / size → own.getD c 0 ≠ 0) : okW own size a n = true :=
  okW_iff.2 fun j hj => h _ (Nat.div_le_div_right (by omega)) (Nat.div_le_div_right (by omega))
theorem okW_not {own : List Int} {size a n c : Nat} (hs : 1 ≤ size) (hn : 1 ≤ n) (h1 : a / size ≤ c) (h2 : c ≤ (a + n - 1) / size) (h : own.getD c 0 = 0) : okW own size a n = false := by
  rw [Bool.eq_false_iff]
  intro hk
  have hk := okW_iff.1 hk
  by_cases hc : a / size = c
  · exact hk 0 (by omega) (by rw [Nat.add_zero, hc]; exact h)
  · have h3 : a < c * size := by
      have h4 : a / size < c := by omega
      exact (Nat.div_lt_iff_lt_mul (by omega)).1 h4
    have h5 : c * size ≤ a + n - 1 := (Nat.le_div_iff_mul_le (by omega)).1 h2
    refine hk (c * size - a) (by omega) ?_
    rw [show a + (c * size - a) = c * size by omega, Nat.mul_div_cancel _ (by omega)]
    exact h
theorem at_out (h : StoreAt w B Wb Ob p q W size own) (a n : Int) (hi : ¬ (0 ≤ n ∧ 0 ≤ a ∧ a ≤ W.length ∧ n ≤ W.length - a)) : Calls Tryd.prog 55 #[.pointer (some ⟨B, 0, none⟩), .int .i64 a, .int .i64 n] w fun e w' => e = .returned (.int .i64 3) ∧ w = w' := by
  have h0 := h.c0
  have hl := h.wlen
  clear h
  by_cases c1 : n < 0
  · go_enter Tryd.func55, Tryd.ntmps55
    go_wp2
    go_ret
    exact ⟨rfl, rfl⟩
  · by_cases c2 : a < 0
    · go_enter Tryd.func55, Tryd.ntmps55
      go_wp2
      go_ret
      exact ⟨rfl, rfl⟩
    · by_cases c3 : (W.length : Int) < a
      · go_enter Tryd.func55, Tryd.ntmps55
        go_wp2
        go_ret
        exact ⟨rfl, rfl⟩
      · have c4 : (W.length : Int) - a < n := by omega
        clear hi
        go_enter Tryd.func55, Tryd.ntmps55
        go_wp2
        go_ret
        exact ⟨rfl, rfl⟩
def atE (own : List Int) (size a n : Nat) : Int := if okW own size a n = true then 0 else 17
theorem at_none (h : StoreAt w B Wb Ob p q W size own) (a : Nat) (hi : a ≤ W.length) : Calls Tryd.prog 55 #[.pointer (some ⟨B, 0, none⟩), .int .i64 a, .int .i64 0] w fun e w' => e = .returned (.int .i64 0) ∧ w = w' := by
  have h0 := h.c0
  have hl := h.wlen
  have c2 : ¬ (a : Int) < 0 := by omega
  have c3 : ¬ (W.length : Int) < (a : Int) := by omega
  have c4 : ¬ (W.length : Int) - (a : Int) < 0 := by omega
  clear h
  go_enter Tryd.func55, Tryd.ntmps55
  go_wp2
  go_ret
  exact ⟨rfl, rfl⟩
set_option maxRecDepth 100000 in
set_option maxHeartbeats 1000000 in
theorem at_some (h : StoreAt w B Wb Ob p q W size own) (a n : Nat) (hn : 1 ≤ n) (hi : a + n ≤ W.length) : Calls Tryd.prog 55 #[.pointer (some ⟨B, 0, none⟩), .int .i64 a, .int .i64 n] w fun e w' => e = .returned (.int .i64 (atE own size a n)) ∧ w = w' := by
  have h0 := h.c0
  have h1 := h.c1
  have h2 := h.c2
  have hl := h.wlen
  have hs1 := h.s1
  have hol := h.o2
  have c1 : ¬ (n : Int) < 0 := by omega
  have c2 : ¬ (a : Int) < 0 := by omega
  have c3 : ¬ (W.length : Int) < (a : Int) := by omega
  have c4 : ¬ (W.length : Int) - (a : Int) < (n : Int) := by omega
  have c5 : ((n : Int) == 0) = false := by simp; omega
  have c6 : ¬ (size : Int) = 0 := by omega
  have hrL : (a + n - 1) / size < own.length := by
    rw [Nat.div_lt_iff_lt_mul (by omega)]
    have := h.hW
    omega
  obtain ⟨q1, hq1⟩ : ∃ q1, q1 = a / size := ⟨_, rfl⟩
  obtain ⟨r1, hr1⟩ : ∃ r1, r1 = (a + n - 1) / size := ⟨_, rfl⟩
  have e1 : (a : Int).tdiv (size : Int) = (q1 : Int) := by rw [Int.tdiv_eq_ediv_of_nonneg (by omega), hq1]; simp
  have e2 : (a : Int) / (size : Int) = (q1 : Int) := by rw [hq1]; simp
  have e3 : ((a : Int) + (n : Int) - 1).tdiv (size : Int) = (r1 : Int) := by
    rw [Int.tdiv_eq_ediv_of_nonneg (by omega), hr1, show (a : Int) + (n : Int) - 1 = ((a + n - 1 : Nat) : Int) by omega]; simp
  have e4 : ((a : Int) + (n : Int) - 1) / (size : Int) = (r1 : Int) := by
    rw [hr1, show (a : Int) + (n : Int) - 1 = ((a + n - 1 : Nat) : Int) by omega]; simp
  have hqr : q1 ≤ r1 := by rw [hq1, hr1]; exact Nat.div_le_div_right (by omega)
  rw [← hr1] at hrL
  have HQ := Lib.hid hq1
  have HR := Lib.hid hr1
  have HOC := Lib.hid (fun i hi => h.own_cell i hi)
  clear h hq1 hr1
  go_enter Tryd.func55, Tryd.ntmps55
  go_wp2
  go_loopw [7] (fun v7 wr => ∃ c : Nat, q1 ≤ c ∧ c ≤ r1 + 1 ∧ v7 = .int .i64 c ∧ wr = w ∧ Hid (∀ j, q1 ≤ j → j < c → own.getD j 0 ≠ 0)) (fun v7 _ => r1 + 1 - (intOf v7).toNat)
  case atStart => exact ⟨q1, by omega, by omega, rfl, rfl, Lib.hid (fun j h1 h2 => by omega)⟩
  case round =>
    obtain ⟨c, hc1, hc2, rfl, rfl, HA⟩ := hrel
    by_cases hlt : c ≤ r1
    · have hlt' : (c : Int) ≤ (r1 : Int) := by omega
      have hcell := HOC.out c (by omega)
      by_cases hz : own.getD c 0 = 0
      · rw [hz] at hcell
        go_wp2
        go_ret
        have : atE own size a n = 17 := by unfold atE; rw [if_neg (by rw [okW_not hs1 hn (by rw [← HQ.out]; exact hc1) (by rw [← HR.out]; exact hlt) hz]; decide)]
        rw [this]
        exact ⟨rfl, rfl⟩
      · have HZ := Lib.hid hz
        have hzb : (own.getD c 0 == 0) = false := by simpa using hz
        generalize own.getD c 0 = y at hcell hzb
        clear hz
        go_wp2
        go_roundw
        case rel => exact ⟨c + 1, by omega, by omega, by go_num, trivial, Lib.hid (fun j h1 h2 => by
          by_cases hj : j = c
          · rw [hj]; exact HZ.out
          · exact HA.out j h1 (by omega))⟩
        case measure => simp [intOf]; omega
    · have hlt' : ¬ (c : Int) ≤ (r1 : Int) := by omega
      go_wp2
      go_ret
      have : atE own size a n = 0 := by unfold atE; rw [if_pos (okW_chunks hs1 hn (fun j h1 h2 => HA.out j (by rw [HQ.out]; exact h1) (by rw [← HR.out] at h2; omega)))]
      rw [this]
      exact ⟨rfl, rfl⟩
theorem owner_in (h : StoreAt w B Wb Ob p q W size own) (c : Nat) (hc : c < own.length) : Calls Tryd.prog 25 #[.pointer (some ⟨B, 0, none⟩), .int .i64 c] w fun e w' => e = .returned (.int .i64 (own.getD c 0)) ∧ w = w' := by
  have HC := Lib.hid (chunks_any h)
  have h2 := h.c2
  have hcell := h.own_cell c hc
  have hol := h.o2
  have c1 : ¬ (c : Int) < 0 := by omega
  have c2 : ¬ (own.length : Int) ≤ (c : Int) := by omega
  generalize own.getD c 0 = y at hcell ⊢
  clear h
  go_enter Tryd.func25, Tryd.ntmps25
  go_wp2_with (go_at_call 38; refine HC.out.mono ?_; rintro e w1 ⟨rfl, rfl⟩)
  go_ret
  exact ⟨rfl, rfl⟩
theorem owner_out (h : StoreAt w B Wb Ob p q W size own) (c : Int) (hc : c < 0 ∨ own.length ≤ c) : Calls Tryd.prog 25 #[.pointer (some ⟨B, 0, none⟩), .int .i64 c] w fun e w' => e = .returned (.int .i64 0) ∧ w = w' := by
  have HC := Lib.hid (chunks_any h)
  have hol := h.o2
  clear h
  by_cases c1 : c < 0
  · go_enter Tryd.func25, Tryd.ntmps25
    go_wp2_with (go_at_call 38; refine HC.out.mono ?_; rintro e w1 ⟨rfl, rfl⟩)
    go_ret
    exact ⟨rfl, rfl⟩
  · have c2 : (own.length : Int) ≤ c := by omega
    clear hc
    go_enter Tryd.func25, Tryd.ntmps25
    go_wp2_with (go_at_call 38; refine HC.out.mono ?_; rintro e w1 ⟨rfl, rfl⟩)
    go_ret
    exact ⟨rfl, rfl⟩
theorem check_out (h : StoreAt w B Wb Ob p q W size own) (c : Int) (hc : c < 0 ∨ own.length ≤ c) : Calls Tryd.prog 56 #[.pointer (some ⟨B, 0, none⟩), .int .i64 c] w fun e w' => e = .returned (.int .i64 3) ∧ w = w' := by
  have h2 := h.c2
  have hol := h.o2
  clear h
  by_cases c1 : c < 0
  · go_enter Tryd.func56, Tryd.ntmps56
    go_wp2
    go_ret
    exact ⟨rfl, rfl⟩
  · have c2 : (own.length : Int) ≤ c := by omega
    clear hc
    go_enter Tryd.func56, Tryd.ntmps56
    go_wp2
    go_ret
    exact ⟨rfl, rfl⟩
def chE (own : List Int) (c : Nat) : Int := if own.getD c 0 = 0 then 17 else 0
theorem check_in (h : StoreAt w B Wb Ob p q W size own) (c : Nat) (hc : c < own.length) : Calls Tryd.prog 56 #[.pointer (some ⟨B, 0, none⟩), .int .i64 c] w fun e w' => e = .returned (.int .i64 (chE own c)) ∧ w = w' := by
  have h2 := h.c2
  have hcell := h.own_cell c hc
  have hol := h.o2
  have c1 : ¬ (c : Int) < 0 := by omega
  have c2 : ¬ (own.length : Int) ≤ (c : Int) := by omega
  unfold chE
  generalize own.getD c 0 = y at hcell ⊢
  clear h
  by_cases hy : y = 0
  · rw [if_pos hy]
    subst hy
    go_enter Tryd.func56, Tryd.ntmps56
    go_wp2
    go_ret
    exact ⟨rfl, rfl⟩
  · rw [if_neg hy]
    have hzb : (y == 0) = false := by simpa using hy
    clear hy
    go_enter Tryd.func56, Tryd.ntmps56
    go_wp2
    go_ret
    exact ⟨rfl, rfl⟩
theorem read_out (h : StoreAt w B Wb Ob p q W size own) (a : Int) (ha : a < 0 ∨ W.length ≤ a) : Calls Tryd.prog 23 #[.pointer (some ⟨B, 0, none⟩), .int .i64 a] w fun e w' => e = .returned (.tuple #[.int .u64 0, .int .i64 3]) ∧ w = w' := by
  have HC := Lib.hid (at_out h a 1 (by omega))
  clear h
  go_enter Tryd.func23, Tryd.ntmps23
  go_wp2_with (go_at_call 55; refine HC.out.mono ?_; rintro e w1 ⟨rfl, rfl⟩)
  go_ret2
  exact ⟨rfl, rfl⟩
def readV (W own : List Int) (size a : Nat) : Int := if own.getD (a / size) 0 = 0 then 0 else W.getD a 0
theorem read_in (h : StoreAt w B Wb Ob p q W size own) (a : Nat) (ha : a < W.length) : Calls Tryd.prog 23 #[.pointer (some ⟨B, 0, none⟩), .int .i64 a] w fun e w' => e = .returned (.tuple #[.int .u64 (readV W own size a), .int .i64 (chE own (a / size))]) ∧ w = w' := by
  have HC0 := at_some h a 1 (by decide) (by omega)
  have h0 := h.c0
  have hl := h.wlen
  have hcell := h.word_cell a ha
  unfold atE at HC0
  rw [okW_one] at HC0
  unfold readV chE
  generalize W.getD a 0 = x at hcell ⊢
  generalize own.getD (a / size) 0 = y at HC0 ⊢
  clear h
  by_cases hy : y = 0
  · rw [if_pos hy, if_pos hy]
    rw [if_neg (by simp [hy])] at HC0
    have HC := Lib.hid HC0
    clear HC0
    go_enter Tryd.func23, Tryd.ntmps23
    go_wp2_with (go_at_call 55; refine HC.out.mono ?_; rintro e w1 ⟨rfl, rfl⟩)
    go_ret2
    exact ⟨rfl, rfl⟩
  · rw [if_neg hy, if_neg hy]
    rw [if_pos (by simp [hy])] at HC0
    have HC := Lib.hid HC0
    clear HC0 hy
    go_enter Tryd.func23, Tryd.ntmps23
    go_wp2_with (go_at_call 55; refine HC.out.mono ?_; rintro e w1 ⟨rfl, rfl⟩)
    go_ret2
    exact ⟨rfl, rfl⟩
end Go.Proofs.YtkaflgbipjppmaaDoor
