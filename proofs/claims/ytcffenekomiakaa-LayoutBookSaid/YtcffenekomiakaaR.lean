/- Do places rise: walks. -/
import Derived.Test.YtcffenekomiakaaM
import Derived.Test.YtcffenekomiakaaP
namespace Go.Proofs.Ytcffenekomiakaa
open Go.RowKit
set_option linter.unusedVariables false
set_option linter.unusedSimpArgs false
variable {w w' : World}
theorem rise_more {l : List Int} {size : Int} {k : Nat} {last : Int} (h : riseGo size last (l.drop k) = riseB l size) (hk : k < l.length) (h1 : last < l.getD k 0) (h2 : l.getD k 0 < size) : riseGo size (l.getD k 0) (l.drop (k + 1)) = riseB l size := by
  rw [← h, drop_at l k 0 hk]
  simp only [riseGo]
  rw [decide_eq_true h1, decide_eq_true h2]; rfl
theorem rise_out {l : List Int} {size : Int} {k : Nat} {last : Int} (h : riseGo size last (l.drop k) = riseB l size) (hk : k < l.length) (h1 : ¬ (last < l.getD k 0) ∨ ¬ (l.getD k 0 < size)) : riseB l size = false := by
  rw [← h, drop_at l k 0 hk]
  simp only [riseGo]
  rcases h1 with h1 | h1
  · rw [decide_eq_false h1]; rfl
  · rw [decide_eq_false h1]; simp
theorem rise_end {l : List Int} {size : Int} {last : Int} (h : riseGo size last (l.drop l.length) = riseB l size) : riseB l size = true := by
  rw [← h, List.drop_length]; rfl
theorem refrise_any (A : Option Addr) (l : List Int) (c : Nat) (size : Int) (w : World) (hl : SliceOf w A 1 encI 0 l) (hc : l.length ≤ maxLen) :
    Calls Try.prog 24 #[.slice A l.length c, .int .i64 size] w fun e w' => e = .returned (.bool (riseB l size)) ∧ Below w.heap.size w w' := by
  unfold maxLen at hc
  have HL := Lib.hid hl
  clear hl
  go_enter Try.func24, Try.ntmps24
  go_wp2
  go_loopw [5, 6] (fun v5 v6 wr => ∃ (last : Int) (k : Nat), k ≤ l.length ∧ v5 = .int .i64 last ∧ v6 = .int .i64 k ∧ Hid (riseGo size last (l.drop k) = riseB l size) ∧ wr = w) (fun _ v6 _ => l.length - (intOf v6).toNat)
  case atStart => exact ⟨-1, 0, by omega, rfl, rfl, Lib.hid rfl, rfl⟩
  case round =>
    obtain ⟨last, k, hk, rfl, rfl, HR, rfl⟩ := hrel
    by_cases hlt : k < l.length
    · obtain ⟨b, o, rfl, hx⟩ := ints_at HL.out k hlt
      by_cases h1 : last < l.getD k 0
      · by_cases h2 : l.getD k 0 < size
        · have HR2 := Lib.hid (rise_more HR.out hlt h1 h2)
          generalize l.getD k 0 = p at *
          have d1 : decide (p ≤ last) = false := decide_eq_false (by omega)
          have d2 : decide (size ≤ p) = false := decide_eq_false (by omega)
          clear h1 h2
          go_wp2
          go_roundw
          case rel => exact ⟨p, k + 1, by omega, rfl, by go_num, HR2, trivial⟩
          case measure => simp [intOf]; omega
        · have HR2 := Lib.hid (rise_out HR.out hlt (.inr h2))
          generalize l.getD k 0 = p at *
          have d1 : decide (p ≤ last) = false := decide_eq_false (by omega)
          have d2 : decide (size ≤ p) = true := decide_eq_true (by omega)
          clear h1 h2
          go_wp2
          go_ret
          exact ⟨ret_bool HR2.out.symm, Below.refl _ _⟩
      · have HR2 := Lib.hid (rise_out HR.out hlt (.inl h1))
        generalize l.getD k 0 = p at *
        have d1 : decide (p ≤ last) = true := decide_eq_true (by omega)
        clear h1
        go_wp2
        go_ret
        exact ⟨ret_bool HR2.out.symm, Below.refl _ _⟩
    · obtain rfl : k = l.length := by omega
      have HR2 := Lib.hid (rise_end HR.out)
      go_wp2
      go_ret
      exact ⟨ret_bool HR2.out.symm, Below.refl _ _⟩
def prevOf (l : List Int) (k : Nat) : Int := if k = 0 then -1 else l.getD (k - 1) 0
theorem rises_any (A : Option Addr) (l : List Int) (c : Nat) (size : Int) (w : World) (hl : SliceOf w A 1 encI 0 l) (hc : l.length ≤ maxLen) :
    Calls Try.prog 33 #[.slice A l.length c, .int .i64 size] w fun e w' => e = .returned (.bool (riseB l size)) ∧ Below w.heap.size w w' := by
  unfold maxLen at hc
  have HL := Lib.hid hl
  clear hl
  go_enter Try.func33, Try.ntmps33
  go_wp2
  go_loopw [9] (fun v9 wr => ∃ k : Nat, k ≤ l.length ∧ v9 = .int .i64 k ∧ Hid (-1 ≤ prevOf l k ∧ riseGo size (prevOf l k) (l.drop k) = riseB l size) ∧ wr = w) (fun v9 _ => l.length - (intOf v9).toNat)
  case atStart => exact ⟨0, by omega, rfl, Lib.hid ⟨by simp [prevOf], by simp [prevOf]; rfl⟩, rfl⟩
  case round =>
    obtain ⟨k, hk, rfl, HR, rfl⟩ := hrel
    by_cases hlt : k < l.length
    · obtain ⟨b, o, rfl, hx⟩ := ints_at HL.out k hlt
      have hnext : prevOf l (k + 1) = l.getD k 0 := by simp [prevOf]
      by_cases h1 : prevOf l k < l.getD k 0
      · have h0 := HR.out.1
        by_cases h2 : l.getD k 0 < size
        · have HR2 : Hid (-1 ≤ prevOf l (k + 1) ∧ riseGo size (prevOf l (k + 1)) (l.drop (k + 1)) = riseB l size) := Lib.hid (by rw [hnext]; exact ⟨by omega, rise_more HR.out.2 hlt h1 h2⟩)
          by_cases hk0 : k = 0
          · subst hk0
            rw [Nat.add_zero] at hx
            generalize l.getD 0 0 = p at *
            have d1 : decide (p < 0) = false := decide_eq_false (by omega)
            have d2 : decide (size ≤ p) = false := decide_eq_false (by omega)
            clear h1 h2 h0 hnext
            go_wp2
            go_roundw
            case rel => exact ⟨1, by omega, by go_num, HR2, trivial⟩
            case measure => simp [intOf]; omega
          · obtain ⟨j, rfl⟩ : ∃ j, k = j + 1 := ⟨k - 1, by omega⟩
            obtain ⟨_, _, he, hz⟩ := ints_at HL.out j (by omega)
            cases he
            have hp : prevOf l (j + 1) = l.getD j 0 := by simp [prevOf]
            rw [hp] at h1 h0
            generalize l.getD (j + 1) 0 = p at *
            generalize l.getD j 0 = q at *
            have d1 : decide (p < 0) = false := decide_eq_false (by omega)
            have d2 : decide (size ≤ p) = false := decide_eq_false (by omega)
            have d3 : decide (p ≤ q) = false := decide_eq_false (by omega)
            clear h1 h2 h0 hnext hp
            go_wp2
            go_roundw
            case rel => exact ⟨j + 2, by omega, by go_num, HR2, trivial⟩
            case measure => simp [intOf]; omega
        · have HR2 := Lib.hid (rise_out HR.out.2 hlt (.inr h2))
          generalize l.getD k 0 = p at *
          have d1 : decide (p < 0) = false := decide_eq_false (by omega)
          have d2 : decide (size ≤ p) = true := decide_eq_true (by omega)
          clear h1 h2 h0 hnext
          go_wp2
          go_ret
          exact ⟨ret_bool HR2.out.symm, Below.refl _ _⟩
      · have HR2 := Lib.hid (rise_out HR.out.2 hlt (.inl h1))
        by_cases hneg : l.getD k 0 < 0
        · generalize l.getD k 0 = p at *
          have d1 : decide (p < 0) = true := decide_eq_true hneg
          clear h1 hneg hnext
          go_wp2
          go_ret
          exact ⟨ret_bool HR2.out.symm, Below.refl _ _⟩
        · by_cases h2 : l.getD k 0 < size
          · have hk0 : k ≠ 0 := fun e => by subst e; rw [show prevOf l 0 = -1 from rfl] at h1; omega
            obtain ⟨j, rfl⟩ : ∃ j, k = j + 1 := ⟨k - 1, by omega⟩
            obtain ⟨_, _, he, hz⟩ := ints_at HL.out j (by omega)
            cases he
            have hp : prevOf l (j + 1) = l.getD j 0 := by simp [prevOf]
            rw [hp] at h1
            generalize l.getD (j + 1) 0 = p at *
            generalize l.getD j 0 = q at *
            have d1 : decide (p < 0) = false := decide_eq_false hneg
            have d2 : decide (size ≤ p) = false := decide_eq_false (by omega)
            have d3 : decide (p ≤ q) = true := decide_eq_true (by omega)
            clear h1 h2 hneg hnext hp hk0
            go_wp2
            go_ret
            exact ⟨ret_bool HR2.out.symm, Below.refl _ _⟩
          · generalize l.getD k 0 = p at *
            have d1 : decide (p < 0) = false := decide_eq_false hneg
            have d2 : decide (size ≤ p) = true := decide_eq_true (by omega)
            clear h1 h2 hneg hnext
            go_wp2
            go_ret
            exact ⟨ret_bool HR2.out.symm, Below.refl _ _⟩
    · obtain rfl : k = l.length := by omega
      have HR2 := Lib.hid (rise_end HR.out.2)
      go_wp2
      go_ret
      exact ⟨ret_bool HR2.out.symm, Below.refl _ _⟩
end Go.Proofs.Ytcffenekomiakaa
