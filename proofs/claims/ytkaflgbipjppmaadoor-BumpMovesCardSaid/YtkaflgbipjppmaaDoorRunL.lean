/- The first run of n places that are off, in plain words. No program is imported. -/
import Derived.Test.YtkaflgbipjppmaaDoorSeek
namespace Go.Proofs.YtkaflgbipjppmaaDoor
set_option linter.unusedVariables false
set_option linter.unusedSimpArgs false
variable {bits : List Bool}
/-- n places from i on are there, and off. -/
def Off (bits : List Bool) (i n : Nat) : Prop := i + n ≤ bits.length ∧ ∀ j, i ≤ j → j < i + n → bits.getD j false = false
open Classical in
noncomputable def runL (n : Nat) (bits : List Bool) (i : Nat) : Nat × Bool :=
  if i + n ≤ bits.length then if Off bits i n then (i, true) else runL n bits (i + 1) else (0, false)
termination_by bits.length + 1 - i
theorem run_hit {n i : Nat} (h : Off bits i n) : runL n bits i = (i, true) := by rw [runL, if_pos h.1, if_pos h]
theorem run_none {n i : Nat} (h : bits.length < i + n) : runL n bits i = (0, false) := by rw [runL, if_neg (by omega)]
theorem run_step {n i : Nat} (h : ¬ Off bits i n) : runL n bits i = runL n bits (i + 1) := by
  by_cases hi : i + n ≤ bits.length
  · rw [runL, if_pos hi, if_neg h]
  · rw [run_none (by omega), run_none (by omega)]
theorem run_skip (n : Nat) : ∀ (d i : Nat), (∀ j, i ≤ j → j < i + d → ¬ Off bits j n) → runL n bits i = runL n bits (i + d)
  | 0, _, _ => rfl
  | d + 1, i, h => by
    rw [run_step (h i (Nat.le_refl _) (by omega)), run_skip n d (i + 1) (fun j h1 h2 => h j (by omega) (by omega))]
    congr 1; omega
theorem run_to {n i k : Nat} (hik : i ≤ k) (h : ∀ j, i ≤ j → j < k → ¬ Off bits j n) : runL n bits i = runL n bits k := by
  have := run_skip (bits := bits) n (k - i) i (fun j h1 h2 => h j h1 (by omega))
  rwa [show i + (k - i) = k by omega] at this
theorem run_spec (n : Nat) (bits : List Bool) : ∀ (d i : Nat), bits.length + 1 - i = d → (∃ a, runL n bits i = (a, true) ∧ i ≤ a ∧ Off bits a n ∧ ∀ j, i ≤ j → j < a → ¬ Off bits j n) ∨ (runL n bits i = (0, false) ∧ ∀ j, i ≤ j → ¬ Off bits j n)
  | 0, i, hd => .inr ⟨run_none (by omega), fun j h1 h2 => by have := h2.1; omega⟩
  | d + 1, i, hd => by
    by_cases h : Off bits i n
    · exact .inl ⟨i, run_hit h, Nat.le_refl _, h, fun j h1 h2 => by omega⟩
    · rw [run_step h]
      rcases run_spec n bits d (i + 1) (by omega) with ⟨a, g1, g2, g3, g4⟩ | ⟨g1, g2⟩
      · refine .inl ⟨a, g1, by omega, g3, fun j h1 h2 => ?_⟩
        rcases Nat.lt_or_ge i j with g | g
        · exact g4 j g h2
        · rw [show j = i by omega]; exact h
      · refine .inr ⟨g1, fun j h1 => ?_⟩
        rcases Nat.lt_or_ge i j with g | g
        · exact g2 j g
        · rw [show j = i by omega]; exact h
/-- From a place that is off: the run to the next one that is on is long enough. -/
theorem run_long {n a e : Nat} (ha : a < bits.length) (he : seek true bits a = e) (hn : n ≤ e - a) : runL n bits a = (a, true) := by
  have h1 := seek_le true bits a
  have h2 : a ≤ seek true bits a := seek_ge (by omega)
  refine run_hit ⟨by omega, fun j g1 g2 => ?_⟩
  have := seek_between (b := true) (bits := bits) g1 (by omega)
  simpa using this
/-- It is not: on behind it. -/
theorem run_short {n a e : Nat} (ha : a < bits.length) (he : seek true bits a = e) (hn : e - a < n) : runL n bits a = runL n bits e := by
  have h1 := seek_le true bits a
  have h2 : a ≤ seek true bits a := seek_ge (by omega)
  refine run_to (by omega) fun j g1 g2 g => ?_
  rcases Nat.lt_or_ge e bits.length with g3 | g3
  · have := g.2 e (by omega) (by omega)
    have g4 := seek_at (b := true) (bits := bits) (i := a) (by omega)
    rw [he] at g4
    rw [g4] at this; cases this
  · have := g.1; omega
/-- Over those that are on. -/
theorem run_over {n a e : Nat} (hn : 1 ≤ n) (ha : a ≤ bits.length) (he : seek false bits a = e) : runL n bits a = runL n bits e := by
  have h2 : a ≤ seek false bits a := seek_ge ha
  refine run_to (by omega) fun j g1 g2 g => ?_
  have := seek_between (b := false) (bits := bits) g1 (by omega)
  exact this (g.2 j (Nat.le_refl _) (by omega))
theorem run_last {n : Nat} (hn : 1 ≤ n) : runL n bits bits.length = (0, false) := run_none (by omega)
end Go.Proofs.YtkaflgbipjppmaaDoor
