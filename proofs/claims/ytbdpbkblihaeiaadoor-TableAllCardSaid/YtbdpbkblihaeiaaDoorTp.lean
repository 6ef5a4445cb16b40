/- What Get tells behind Set, Drop and Add: plain laws. -/
import Derived.Test.YtbdpbkblihaeiaaDoorTi
namespace Go.Proofs.YtbdpbkblihaeiaaDoor
open Go.RowKit
set_option linter.unusedVariables false
set_option linter.unusedSimpArgs false
variable {l : List Slot}
theorem fresh_iff {i g : Int} : freshT l i g = true ↔ ∃ k : Nat, i = k ∧ k < l.length ∧ (l.getD k slot0).used = true ∧ ((l.getD k slot0).gen : Int) = g :=
  ⟨fresh_out, fun ⟨k, h0, h1, h2, h3⟩ => h0 ▸ fresh_in h1 h2 h3⟩
theorem set_ne (l : List Slot) {k j : Nat} (h : j ≠ k) (x : Slot) : (l.set k x).getD j slot0 = l.getD j slot0 := by simp [List.getD, List.getElem?_set, Ne.symm h]
theorem set_at (l : List Slot) {k : Nat} (h : k < l.length) (x : Slot) : (l.set k x).getD k slot0 = x := set_getD l k h x
/-- Two fresh tokens of one slot are the same. -/
theorem fresh_one {i g g' : Int} (h : freshT l i g = true) (h' : freshT l i g' = true) : g = g' := by
  obtain ⟨k, e, _, _, h1⟩ := fresh_out h
  obtain ⟨k', e', _, _, h2⟩ := fresh_out h'
  obtain rfl : k = k' := by omega
  omega
theorem fresh_set (i g : Int) (e : Entry) (a b : Int) : freshT (setT l i g e) a b = freshT l a b := by
  unfold setT
  split
  · rename_i h
    obtain ⟨k, rfl, h1, h2, h3⟩ := fresh_out h
    rw [Bool.eq_iff_iff, fresh_iff, fresh_iff]
    refine exists_congr fun j => ?_
    simp only [Int.toNat_natCast, List.length_set]
    by_cases hj : j = k
    · subst hj
      rw [set_at l h1]
      constructor
      · rintro ⟨a1, a2, _, a4⟩; exact ⟨a1, a2, h2, a4⟩
      · rintro ⟨a1, a2, _, a4⟩; exact ⟨a1, a2, rfl, a4⟩
    · rw [set_ne l hj]
  · rfl
theorem get_set (i g : Int) (e : Entry) (a b : Int) : getE (setT l i g e) a b = if (a = i ∧ b = g) ∧ freshT l i g = true then e else getE l a b := by
  unfold getE
  rw [fresh_set]
  by_cases hf : freshT l i g = true
  · by_cases hab : a = i ∧ b = g
    · obtain ⟨rfl, rfl⟩ := hab
      rw [if_pos (show (a = a ∧ b = b) ∧ freshT l a b = true from ⟨⟨rfl, rfl⟩, hf⟩), if_pos hf]
      obtain ⟨k, rfl, h1, h2, h3⟩ := fresh_out hf
      unfold setT
      rw [if_pos hf, Int.toNat_natCast, set_at l h1]
    · rw [if_neg (show ¬ ((a = i ∧ b = g) ∧ freshT l i g = true) from fun h => hab h.1)]
      by_cases hfa : freshT l a b = true
      · rw [if_pos hfa, if_pos hfa]
        obtain ⟨k, rfl, h1, h2, h3⟩ := fresh_out hf
        obtain ⟨j, rfl, h4, h5, h6⟩ := fresh_out hfa
        have hj : j ≠ k := fun e => hab ⟨by omega, by subst e; omega⟩
        unfold setT
        rw [if_pos hf, Int.toNat_natCast, Int.toNat_natCast, set_ne l hj]
      · rw [if_neg hfa, if_neg hfa]
  · rw [if_neg (show ¬ ((a = i ∧ b = g) ∧ freshT l i g = true) from fun h => hf h.2)]
    unfold setT
    rw [if_neg hf]
theorem fresh_drop (i g a b : Int) : freshT (dropT l i g) a b = if (a = i ∧ b = g) then false else freshT l a b := by
  by_cases hf : freshT l i g = true
  · unfold dropT
    rw [if_pos hf]
    obtain ⟨k, rfl, h1, h2, h3⟩ := fresh_out hf
    rw [Int.toNat_natCast]
    unfold dropL
    by_cases hab : a = k ∧ b = g
    · rw [if_pos hab]
      obtain ⟨rfl, rfl⟩ := hab
      cases hx : freshT (l.set k ⟨(l.getD k slot0).gen, false, noEntry⟩) k b with
      | false => rfl
      | true =>
        obtain ⟨j, e, h4, h5, h6⟩ := fresh_out hx
        obtain rfl : k = j := by omega
        rw [set_at l h1] at h5
        cases h5
    · rw [if_neg hab, Bool.eq_iff_iff, fresh_iff, fresh_iff]
      refine exists_congr fun j => ?_
      simp only [List.length_set]
      by_cases hj : j = k
      · subst hj
        rw [set_at l h1]
        constructor
        · rintro ⟨_, _, h, _⟩; cases h
        · rintro ⟨a1, a2, a3, a4⟩; exact absurd ⟨a1, by omega⟩ hab
      · rw [set_ne l hj]
  · unfold dropT
    rw [if_neg hf]
    split
    · rename_i h; obtain ⟨rfl, rfl⟩ := h; simpa using hf
    · rfl
theorem get_drop (i g a b : Int) : getE (dropT l i g) a b = if (a = i ∧ b = g) then noEntry else getE l a b := by
  unfold getE
  rw [fresh_drop]
  by_cases hab : a = i ∧ b = g
  · rw [if_pos hab, if_pos hab]; rfl
  · rw [if_neg hab, if_neg hab]
    by_cases hfa : freshT l a b = true
    · rw [if_pos hfa, if_pos hfa]
      unfold dropT
      by_cases hf : freshT l i g = true
      · rw [if_pos hf]
        obtain ⟨k, rfl, h1, h2, h3⟩ := fresh_out hf
        obtain ⟨j, rfl, h4, h5, h6⟩ := fresh_out hfa
        have hj : j ≠ k := fun e => hab ⟨by omega, by subst e; omega⟩
        unfold dropL
        rw [Int.toNat_natCast, Int.toNat_natCast, set_ne l hj]
      · rw [if_neg hf]
    · rw [if_neg hfa, if_neg hfa]
theorem err_drop_self (i g : Int) : errI (dropT l i g) i g = 8 := by
  unfold errI; rw [fresh_drop, if_pos (show i = i ∧ g = g from ⟨rfl, rfl⟩)]; rfl
theorem err_cases (i g : Int) : (freshT l i g = true ∧ errI l i g = 0) ∨ (freshT l i g = false ∧ errI l i g = 8) := by
  unfold errI
  cases freshT l i g
  · exact .inr ⟨rfl, rfl⟩
  · exact .inl ⟨rfl, rfl⟩
end Go.Proofs.YtbdpbkblihaeiaaDoor
