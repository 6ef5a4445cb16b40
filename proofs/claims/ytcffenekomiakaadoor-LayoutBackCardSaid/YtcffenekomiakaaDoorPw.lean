/- A layout's words in plain words: no program is imported. -/
import Derived.Test.YtcffenekomiakaaDoorP
import Derived.Test.YtcffenekomiakaaDoorD
import Derived.Lib.TrailingZeros
namespace Go.Proofs.YtcffenekomiakaaDoor
open Go.RowKit
set_option linter.unusedVariables false
/-- The bits that are on, below k. -/
def bitsTo (w k : Nat) : List Int := ((List.range k).filter fun i => w.testBit i).map fun i : Nat => (i : Int)
def bitsL (w : Nat) : List Int := bitsTo w 64
theorem bitsTo_succ (w k : Nat) : bitsTo w (k + 1) = bitsTo w k ++ (if w.testBit k = true then [(k : Int)] else []) := by
  unfold bitsTo
  rw [List.range_succ, List.filter_append, List.map_append]
  congr 1
  simp only [List.filter]
  cases w.testBit k <;> rfl
theorem bitsTo_len (w k : Nat) : (bitsTo w k).length ≤ k := by
  have := List.length_filter_le (fun i => w.testBit i) (List.range k)
  unfold bitsTo
  simpa using this
theorem bitsTo_skip (w : Nat) {k j : Nat} (hkj : k ≤ j) (h : ∀ i, k ≤ i → i < j → w.testBit i = false) : bitsTo w j = bitsTo w k := by
  induction j with
  | zero => obtain rfl : k = 0 := by omega
            rfl
  | succ j ih =>
    by_cases e : k = j + 1
    · rw [e]
    · rw [bitsTo_succ, h j (by omega) (by omega), if_neg (by decide), List.append_nil]
      exact ih (by omega) (fun i h1 h2 => h i h1 (by omega))
theorem bitsTo_mem (w k : Nat) (a : Int) : a ∈ bitsTo w k ↔ 0 ≤ a ∧ a < k ∧ w.testBit a.toNat = true := by
  unfold bitsTo
  rw [List.mem_map]
  constructor
  · rintro ⟨i, hi, rfl⟩
    rw [List.mem_filter, List.mem_range] at hi
    exact ⟨by omega, by omega, by simpa using hi.2⟩
  · rintro ⟨h1, h2, h3⟩
    exact ⟨a.toNat, by rw [List.mem_filter, List.mem_range]; exact ⟨by omega, h3⟩, by omega⟩
theorem bitsTo_rise (w k : Nat) : (bitsTo w k).Pairwise (· < ·) := by
  unfold bitsTo
  rw [List.pairwise_map]
  exact (List.Pairwise.filter _ List.pairwise_lt_range).imp (fun hab => by omega)
/-- The lowest bit of a word, and the word without it. -/
theorem low_bit (v : Nat) (h0 : v ≠ 0) (h : v < 18446744073709551616) : v.testBit (Lib.ctz 64 v) = true ∧ (∀ i, i < Lib.ctz 64 v → v.testBit i = false) ∧ Lib.ctz 64 v < 64 ∧ ∀ i, (v &&& (v - 1)).testBit i = (v.testBit i && decide (i ≠ Lib.ctz 64 v)) := by
  obtain ⟨m, hm, hk⟩ := Lib.ctzFrom_spec 64 v (by omega) (by simpa using h)
  have e : Lib.ctz 64 v = Lib.ctzFrom 64 v := by simp [Lib.ctz, h0]
  rw [e]
  generalize Lib.ctzFrom 64 v = j at *
  have hp : 0 < 2 ^ j := Nat.two_pow_pos _
  have hv1 : v - 1 = 2 ^ j * (2 * m) + (2 ^ j - 1) := by
    rw [hm, Nat.mul_add, Nat.mul_one]; omega
  have hb : ∀ i, v.testBit i = (decide (j ≤ i) && (2 * m + 1).testBit (i - j)) := fun i => by
    rw [hm, Nat.testBit_two_pow_mul]
  have hc : ∀ i, (v - 1).testBit i = if i < j then (2 ^ j - 1).testBit i else (2 * m).testBit (i - j) := fun i => by
    rw [hv1, Nat.testBit_two_pow_mul_add _ (by omega)]
  refine ⟨?_, fun i hi => ?_, hk, fun i => ?_⟩
  · rw [hb, Nat.sub_self, Nat.testBit_zero]; simp
  · rw [hb]; simp; omega
  · rw [Nat.testBit_and, hb, hc]
    by_cases hi : j ≤ i
    · rw [if_neg (by omega)]
      by_cases he : i = j
      · subst he
        rw [Nat.sub_self, Nat.testBit_zero, Nat.testBit_zero]; simp
      · obtain ⟨d, rfl⟩ : ∃ d, i = j + (d + 1) := ⟨i - j - 1, by omega⟩
        rw [show j + (d + 1) - j = d + 1 by omega, Nat.testBit_succ, Nat.testBit_succ, show (2 * m + 1) / 2 = m by omega, show (2 * m) / 2 = m by omega]
        have : decide (j + (d + 1) ≠ j) = true := decide_eq_true (by omega)
        rw [this]
        simp
    · have : decide (j ≤ i) = false := decide_eq_false hi
      rw [this]
      simp
/-- A bit for each place, from the top down. -/
def wordUp (l : List Int) : Nat → Nat
  | 0 => 0
  | d + 1 => 2 * wordUp l d + (if ((63 - d : Nat) : Int) ∈ l then 1 else 0)
theorem wordUp_lt (l : List Int) : ∀ d, wordUp l d < 2 ^ d
  | 0 => by simp [wordUp]
  | d + 1 => by
    have := wordUp_lt l d
    simp only [wordUp, Nat.pow_succ]
    split <;> omega
theorem wordUp_bit (l : List Int) : ∀ d j, d ≤ 64 → (wordUp l d).testBit j = (decide (j < d) && decide (((64 - d + j : Nat) : Int) ∈ l))
  | 0, j, _ => by simp [wordUp]
  | d + 1, j, h => by
    simp only [wordUp]
    cases j with
    | zero =>
      rw [Nat.testBit_zero, show 64 - (d + 1) + 0 = 63 - d by omega]
      split
      · rename_i hm
        rw [decide_eq_true hm]
        simp
      · rename_i hm
        rw [decide_eq_false hm]
        simp
    | succ j =>
      rw [Nat.testBit_succ]
      have e : (2 * wordUp l d + (if ((63 - d : Nat) : Int) ∈ l then 1 else 0)) / 2 = wordUp l d := by split <;> omega
      rw [e, wordUp_bit l d j (by omega), show 64 - (d + 1) + (j + 1) = 64 - d + j by omega]
      congr 1
      exact decide_eq_decide.2 (by omega)
def gatherN (m : Nat) : List Int → Nat
  | [] => m
  | p :: t => gatherN (m ||| 2 ^ p.toNat) t
theorem gatherN_bit : ∀ (l : List Int) (m j : Nat), (∀ p ∈ l, 0 ≤ p) → (gatherN m l).testBit j = (m.testBit j || decide ((j : Int) ∈ l))
  | [], m, j, _ => by simp [gatherN]
  | p :: t, m, j, h => by
    have hp := h p (by simp)
    rw [gatherN, gatherN_bit t _ j (fun q hq => h q (by simp [hq])), Nat.testBit_or, Nat.testBit_two_pow, Bool.or_assoc]
    congr 1
    rw [Bool.eq_iff_iff]
    simp only [Bool.or_eq_true, decide_eq_true_eq, List.mem_cons]
    constructor
    · rintro (h1 | h1)
      · exact .inl (by omega)
      · exact .inr h1
    · rintro (h1 | h1)
      · exact .inl (by omega)
      · exact .inr h1
theorem gather_word (l : List Int) (h : ∀ p ∈ l, 0 ≤ p ∧ p < 64) : gatherN 0 l = wordUp l 64 := by
  apply Nat.eq_of_testBit_eq
  intro j
  rw [gatherN_bit l 0 j (fun p hp => (h p hp).1), wordUp_bit l 64 j (by omega), show 64 - 64 + j = j by omega, Nat.zero_testBit, Bool.false_or]
  by_cases hj : (j : Int) ∈ l
  · have := h _ hj
    rw [decide_eq_true hj, decide_eq_true (by omega)]; rfl
  · rw [decide_eq_false hj]; simp
theorem gather_lt (l : List Int) (h : ∀ p ∈ l, 0 ≤ p ∧ p < 64) : gatherN 0 l < 2 ^ 64 := by
  rw [gather_word l h]; exact wordUp_lt l 64
theorem bits_gather (l : List Int) (hs : l.Pairwise (· < ·)) (h : ∀ p ∈ l, 0 ≤ p ∧ p < 64) : bitsL (gatherN 0 l) = l := by
  refine sorted_ext _ _ (bitsTo_rise _ _) hs (fun a => ?_)
  unfold bitsL
  rw [bitsTo_mem, gatherN_bit l 0 _ (fun p hp => (h p hp).1)]
  constructor
  · rintro ⟨h1, h2, h3⟩
    rw [Nat.zero_testBit, Bool.false_or, decide_eq_true_eq] at h3
    rwa [show ((a.toNat : Nat) : Int) = a by omega] at h3
  · intro ha
    have := h a ha
    refine ⟨this.1, by omega, ?_⟩
    rw [Nat.zero_testBit, Bool.false_or, decide_eq_true_eq, show ((a.toNat : Nat) : Int) = a by omega]
    exact ha
theorem gather_bits (w : Nat) (hw : w < 2 ^ 64) : gatherN 0 (bitsL w) = w := by
  apply Nat.eq_of_testBit_eq
  intro j
  unfold bitsL
  rw [gatherN_bit _ 0 j (fun p hp => ((bitsTo_mem w 64 p).1 hp).1), Nat.zero_testBit, Bool.false_or]
  by_cases hj : j < 64
  · rw [Bool.eq_iff_iff, decide_eq_true_eq, bitsTo_mem]
    constructor
    · rintro ⟨_, _, h3⟩; simpa using h3
    · intro h3; exact ⟨by omega, by omega, by simpa using h3⟩
  · rw [Nat.testBit_lt_two_pow (Nat.lt_of_lt_of_le hw (Nat.pow_le_pow_right (by decide) (by omega)))]
    exact decide_eq_false (fun h => by have := ((bitsTo_mem w 64 _).1 h).2.1; omega)
/-- The layout of three words. -/
def decLay (a b c : Nat) : Lay := ⟨((a % 256 : Nat) : Int), bitsL b, ((a / 256 : Nat) : Int), bitsL c⟩
def decOk (a b c : Nat) : Bool := decide (a < 65536) && (decLay a b c).right
theorem get_low (a : Nat) (ha : a < 2 ^ 64) : getI a 0 8 = ((a % 256 : Nat) : Int) := by
  rw [show ((0 : Int)) = ((0 : Nat) : Int) from rfl, show ((8 : Int)) = ((8 : Nat) : Int) from rfl, getI_nat a 0 8 ha (by decide) (by decide)]
  congr 1
  apply Nat.eq_of_testBit_eq
  intro i
  rw [getN_bit, show 256 = 2 ^ 8 from rfl, Nat.testBit_mod_two_pow, Nat.zero_add]
theorem get_mid (a : Nat) (ha : a < 2 ^ 64) : getI a 8 8 = ((a / 256 % 256 : Nat) : Int) := by
  rw [show ((8 : Int)) = ((8 : Nat) : Int) from rfl, getI_nat a 8 8 ha (by decide) (by decide)]
  congr 1
  apply Nat.eq_of_testBit_eq
  intro i
  rw [getN_bit, show 256 = 2 ^ 8 from rfl, Nat.testBit_mod_two_pow, Nat.testBit_div_two_pow, Nat.add_comm]
theorem get_high (a : Nat) (ha : a < 2 ^ 64) : getI a 16 48 = ((a / 65536 : Nat) : Int) := by
  rw [show ((16 : Int)) = ((16 : Nat) : Int) from rfl, show ((48 : Int)) = ((48 : Nat) : Int) from rfl, getI_nat a 16 48 ha (by decide) (by decide)]
  congr 1
  apply Nat.eq_of_testBit_eq
  intro i
  rw [getN_bit, show 65536 = 2 ^ 16 from rfl, Nat.testBit_div_two_pow, Nat.add_comm]
  by_cases hi : i < 48
  · rw [decide_eq_true hi, Bool.true_and]
  · rw [decide_eq_false hi, Bool.false_and, Nat.testBit_lt_two_pow (Nat.lt_of_lt_of_le ha (Nat.pow_le_pow_right (by decide) (by omega)))]
end Go.Proofs.YtcffenekomiakaaDoor
