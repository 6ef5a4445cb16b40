/- The first place that is b from a place on, in plain words. No program is imported. -/
import Derived.Test.YtkaflgbipjppmaaDoorBm
import Derived.Lib.TrailingZeros
namespace Go.Proofs.YtkaflgbipjppmaaDoor
open Go.RowKit
set_option linter.unusedVariables false
set_option linter.unusedSimpArgs false
def seek (b : Bool) (bits : List Bool) (i : Nat) : Nat :=
  if i < bits.length then if bits.getD i false = b then i else seek b bits (i + 1) else bits.length
termination_by bits.length - i
variable {b : Bool} {bits : List Bool} {ws : List Nat}
theorem seek_hit {i : Nat} (hi : i < bits.length) (h : bits.getD i false = b) : seek b bits i = i := by rw [seek, if_pos hi, if_pos h]
theorem seek_end {i : Nat} (hi : bits.length ≤ i) : seek b bits i = bits.length := by rw [seek, if_neg (by omega)]
theorem seek_step {i : Nat} (h : bits.getD i false ≠ b) : seek b bits i = seek b bits (i + 1) := by
  by_cases hi : i < bits.length
  · rw [seek, if_pos hi, if_neg h]
  · rw [seek_end (by omega), seek_end (by omega)]
theorem seek_skip : ∀ (d i : Nat), (∀ j, i ≤ j → j < i + d → j < bits.length → bits.getD j false ≠ b) → seek b bits i = seek b bits (i + d)
  | 0, _, _ => rfl
  | d + 1, i, h => by
    by_cases hi : i < bits.length
    · rw [seek_step (h i (Nat.le_refl _) (by omega) hi), seek_skip d (i + 1) (fun j h1 h2 h3 => h j (by omega) (by omega) h3)]
      congr 1; omega
    · rw [seek_end (by omega), seek_end (by omega)]
theorem seek_to {i k : Nat} (hik : i ≤ k) (h : ∀ j, i ≤ j → j < k → j < bits.length → bits.getD j false ≠ b) : seek b bits i = seek b bits k := by
  have := seek_skip (b := b) (bits := bits) (k - i) i (fun j h1 h2 h3 => h j h1 (by omega) h3)
  rwa [show i + (k - i) = k by omega] at this
theorem seek_spec (b : Bool) (bits : List Bool) : ∀ (d i : Nat), bits.length - i = d → i ≤ bits.length → i ≤ seek b bits i ∧ seek b bits i ≤ bits.length ∧ (seek b bits i < bits.length → bits.getD (seek b bits i) false = b) ∧ ∀ j, i ≤ j → j < seek b bits i → bits.getD j false ≠ b
  | 0, i, hd, hi => by
    rw [seek_end (by omega)]
    exact ⟨hi, Nat.le_refl _, fun h => absurd h (Nat.lt_irrefl _), fun j h1 h2 => by omega⟩
  | d + 1, i, hd, hi => by
    by_cases h : bits.getD i false = b
    · rw [seek_hit (by omega) h]
      exact ⟨Nat.le_refl _, by omega, fun _ => h, fun j h1 h2 => by omega⟩
    · rw [seek_step h]
      obtain ⟨a1, a2, a3, a4⟩ := seek_spec b bits d (i + 1) (by omega) (by omega)
      refine ⟨by omega, a2, a3, fun j h1 h2 => ?_⟩
      rcases Nat.lt_or_ge i j with g | g
      · exact a4 j g h2
      · rw [show j = i by omega]; exact h
theorem seek_le (b : Bool) (bits : List Bool) (i : Nat) : seek b bits i ≤ bits.length := by
  rcases Nat.le_total i bits.length with h | h
  · exact (seek_spec b bits _ i rfl h).2.1
  · rw [seek_end h]; exact Nat.le_refl _
theorem seek_ge {i : Nat} (h : i ≤ bits.length) : i ≤ seek b bits i := (seek_spec b bits _ i rfl h).1
theorem seek_at {i : Nat} (h : seek b bits i < bits.length) : bits.getD (seek b bits i) false = b := by
  rcases Nat.le_total i bits.length with g | g
  · exact (seek_spec b bits _ i rfl g).2.2.1 h
  · rw [seek_end g] at h; exact absurd h (Nat.lt_irrefl _)
theorem seek_between {i j : Nat} (h1 : i ≤ j) (h2 : j < seek b bits i) : bits.getD j false ≠ b := by
  rcases Nat.le_total i bits.length with g | g
  · exact (seek_spec b bits _ i rfl g).2.2.2 j h1 h2
  · rw [seek_end g] at h2; omega
/-- The lowest bit. -/
theorem ctz_spec (y : Nat) (h0 : y ≠ 0) (h : y < 18446744073709551616) : Lib.ctz 64 y < 64 ∧ y.testBit (Lib.ctz 64 y) = true ∧ ∀ j, j < Lib.ctz 64 y → y.testBit j = false := by
  obtain ⟨m, hm, hk⟩ := Lib.ctzFrom_spec 64 y (by omega) h
  have e : Lib.ctz 64 y = Lib.ctzFrom 64 y := by rw [Lib.ctz, if_neg h0]
  rw [e]
  generalize Lib.ctzFrom 64 y = k at *
  subst hm
  refine ⟨hk, ?_, fun j hj => ?_⟩
  · rw [Nat.mul_comm, Nat.testBit_mul_two_pow]; simp
  · rw [Nat.mul_comm, Nat.testBit_mul_two_pow]; simp; omega
theorem bit_lt {x k : Nat} (hx : x < 18446744073709551616) (h : x.testBit k = true) : k < 64 := by
  apply Nat.lt_of_not_le
  intro hk
  have := Nat.testBit_lt_two_pow (x := x) (i := k) (Nat.lt_of_lt_of_le hx (Nat.pow_le_pow_right (n := 2) (by decide) hk))
  rw [this] at h; cases h
/-- Of a word y that tells, from bit r % 64 on, where the places are b. -/
structure Tells (b : Bool) (bits : List Bool) (r y : Nat) : Prop where
  lt : y < 18446744073709551616
  on : ∀ k, r % 64 + k < 64 → (y.testBit k = true ↔ bits.getD (r + k) false = b)
  off : ∀ k, ¬ r % 64 + k < 64 → y.testBit k = false
theorem Tells.none {r y : Nat} (h : Tells b bits r y) (h0 : y = 0) : seek b bits r = seek b bits ((r / 64 + 1) * 64) := by
  subst h0
  refine seek_to (by omega) fun j h1 h2 _ e => ?_
  have := (h.on (j - r) (by omega)).2 (by rw [show r + (j - r) = j by omega]; exact e)
  simp at this
theorem Tells.some {r y : Nat} (h : Tells b bits r y) (h0 : y ≠ 0) : bits.getD (r + Lib.ctz 64 y) false = b ∧ seek b bits r = seek b bits (r + Lib.ctz 64 y) ∧ Lib.ctz 64 y < 64 := by
  obtain ⟨h1, h2, h3⟩ := ctz_spec y h0 h.lt
  generalize Lib.ctz 64 y = k at *
  have hk : r % 64 + k < 64 := by
    apply Classical.byContradiction
    intro g
    rw [h.off k g] at h2; cases h2
  refine ⟨(h.on k hk).1 h2, seek_to (by omega) fun j g1 g2 _ e => ?_, h1⟩
  have := (h.on (j - r) (by omega)).2 (by rw [show r + (j - r) = j by omega]; exact e)
  rw [h3 _ (by omega)] at this; cases this
theorem Words.bit_at (h : Words bits ws) (r k : Nat) (hk : r % 64 + k < 64) : (ws.getD (r / 64) 0).testBit (r % 64 + k) = bits.getD (r + k) false := by
  have := h.bit (r + k)
  rw [show (r + k) / 64 = r / 64 by omega, show (r + k) % 64 = r % 64 + k by omega] at this
  exact this
theorem Words.tells_on (h : Words bits ws) (r : Nat) : Tells true bits r (ws.getD (r / 64) 0 / 2 ^ (r % 64)) := by
  have hb := h.bound (r / 64)
  refine ⟨Nat.lt_of_le_of_lt (Nat.div_le_self _ _) hb, fun k hk => ?_, fun k hk => ?_⟩
  · rw [Nat.testBit_div_two_pow, Nat.add_comm k, h.bit_at r k hk]
  · rw [Nat.testBit_div_two_pow, Nat.add_comm k]
    cases e : (ws.getD (r / 64) 0).testBit (r % 64 + k)
    · rfl
    · exact absurd (bit_lt hb e) hk
theorem Words.tells_off (h : Words bits ws) (r : Nat) : Tells false bits r ((18446744073709551615 - ws.getD (r / 64) 0) / 2 ^ (r % 64)) := by
  have hb := h.bound (r / 64)
  have key : ∀ j, (18446744073709551615 - ws.getD (r / 64) 0).testBit j = (decide (j < 64) && !(ws.getD (r / 64) 0).testBit j) := by
    intro j
    have := Nat.testBit_two_pow_sub_succ (n := 64) (x := ws.getD (r / 64) 0) hb j
    rw [← this]; congr 1; omega
  refine ⟨Nat.lt_of_le_of_lt (Nat.div_le_self _ _) (by omega), fun k hk => ?_, fun k hk => ?_⟩
  · rw [Nat.testBit_div_two_pow, Nat.add_comm k, key, h.bit_at r k hk]
    simp [hk]
  · rw [Nat.testBit_div_two_pow, Nat.add_comm k, key]
    simp [hk]
end Go.Proofs.YtkaflgbipjppmaaDoor
