/- Pieces of two spaces, in plain words: they lie apart, and each word tells its piece. -/
import Derived.Test.YtkaflgbipjppmaaDoorPl
namespace Go.Proofs.YtkaflgbipjppmaaDoor
open Go.RowKit
set_option linter.unusedVariables false
set_option linter.unusedSimpArgs false
/-- What is left of the present chunk lies in it, and it is an owner's. -/
def RoomIn (size : Nat) (own : List Int) (ow : Int) (a e : Nat) : Prop := a < e → ∃ c, c * size ≤ a ∧ e = (c + 1) * size ∧ own.getD c 0 = ow ∧ c < own.length
structure Pcs (size : Nat) (own W : List Int) (a0 e0 a1 e1 : Nat) (ps : List (Nat × Nat)) : Prop where
  pw : ∀ (j x n : Nat), ps[j]? = some (x, n) → ∀ k, k < n → x + k < W.length ∧ own.getD ((x + k) / size) 0 ≠ 0 ∧ W.getD (x + k) 0 = (j : Int) + 1 ∧ ¬ (a0 ≤ x + k ∧ x + k < e0) ∧ ¬ (a1 ≤ x + k ∧ x + k < e1)
  r0 : RoomIn size own 1 a0 e0
  r1 : RoomIn size own 2 a1 e1
/-- A piece that was told, of which m words are written. -/
structure Pend (size : Nat) (own W : List Int) (a0 e0 a1 e1 : Nat) (ps : List (Nat × Nat)) (x n m : Nat) (ow : Int) : Prop where
  old : Pcs size own W a0 e0 a1 e1 ps
  new : ∀ k, k < n → x + k < W.length ∧ own.getD ((x + k) / size) 0 = ow ∧ ¬ (a0 ≤ x + k ∧ x + k < e0) ∧ ¬ (a1 ≤ x + k ∧ x + k < e1) ∧ ∀ (j y n' : Nat), ps[j]? = some (y, n') → ∀ i, i < n' → y + i ≠ x + k
  done : ∀ k, k < m → W.getD (x + k) 0 = (ps.length : Int) + 1
theorem Pcs.start (size : Nat) (own W : List Int) : Pcs size own W 0 0 0 0 [] := ⟨fun j x n h => by simp at h, fun h => by omega, fun h => by omega⟩
theorem Pend.write {size : Nat} {own W : List Int} {a0 e0 a1 e1 : Nat} {ps : List (Nat × Nat)} {x n m : Nat} {ow : Int} (h : Pend size own W a0 e0 a1 e1 ps x n m ow) (hm : m < n) : Pend size own (W.set (x + m) ((ps.length : Int) + 1)) a0 e0 a1 e1 ps x n (m + 1) ow := by
  have hl := (h.new m hm).1
  refine ⟨⟨fun j y n' hj k hk => ?_, h.old.r0, h.old.r1⟩, fun k hk => ?_, fun k hk => ?_⟩
  · obtain ⟨g1, g2, g3, g4⟩ := h.old.pw j y n' hj k hk
    have hne := (h.new m hm).2.2.2.2 j y n' hj k hk
    exact ⟨by rw [List.length_set]; exact g1, g2, by rw [set_getD _ _ _ hl, if_neg hne]; exact g3, g4⟩
  · obtain ⟨g1, g2⟩ := h.new k hk
    exact ⟨by rw [List.length_set]; exact g1, g2⟩
  · rw [set_getD _ _ _ hl]
    by_cases e : k = m
    · rw [if_pos (by rw [e])]
    · rw [if_neg (by omega)]; exact h.done k (by omega)
theorem Pend.close {size : Nat} {own W : List Int} {a0 e0 a1 e1 : Nat} {ps : List (Nat × Nat)} {x n : Nat} {ow : Int} (h : Pend size own W a0 e0 a1 e1 ps x n n ow) (ho : ow ≠ 0) : Pcs size own W a0 e0 a1 e1 (ps ++ [(x, n)]) := by
  refine ⟨fun j y n' hj k hk => ?_, h.old.r0, h.old.r1⟩
  rcases Nat.lt_or_ge j ps.length with g | g
  · rw [List.getElem?_append_left g] at hj
    exact h.old.pw j y n' hj k hk
  · rw [List.getElem?_append_right g] at hj
    have hj0 : j - ps.length = 0 := by
      have := (List.getElem?_eq_some_iff.1 hj).1
      simp at this; omega
    rw [hj0] at hj
    simp at hj
    obtain ⟨rfl, rfl⟩ := hj
    obtain ⟨g1, g2, g3, g4, _⟩ := h.new k hk
    have := h.done k hk
    exact ⟨g1, by rw [g2]; exact ho, by rw [this]; congr 1; omega, g3, g4⟩
theorem in_chunk {size c y : Nat} (hs : 1 ≤ size) (h1 : c * size ≤ y) (h2 : y < (c + 1) * size) : y / size = c := by
  rw [Nat.div_eq_iff (by omega)]
  rw [Nat.succ_mul] at h2
  constructor <;> omega
/-- A piece in the present chunk of the first space. -/
theorem Pcs.room0 {size : Nat} {own W : List Int} {a0 e0 a1 e1 n : Nat} {ps : List (Nat × Nat)} (h : Pcs size own W a0 e0 a1 e1 ps) (hs : 1 ≤ size) (hW : W.length = own.length * size) (hn : 1 ≤ n) (hr : n ≤ e0 - a0) : Pend size own W (a0 + n) e0 a1 e1 ps a0 n 0 1 ∧ a0 / size = (a0 + n - 1) / size := by
  obtain ⟨c, c1, c2, c3, c4⟩ := h.r0 (by omega)
  have hle : (c + 1) * size ≤ own.length * size := Nat.mul_le_mul_right _ c4
  have hch : ∀ k, k < n → (a0 + k) / size = c := fun k hk => in_chunk hs (by omega) (by omega)
  refine ⟨⟨⟨fun j x m hj k hk => ?_, fun g => ⟨c, by omega, c2, c3, c4⟩, h.r1⟩, fun k hk => ⟨by omega, by rw [hch k hk]; exact c3, by omega, fun g => ?_, fun j y m hj i hi e => ?_⟩, fun k hk => by omega⟩, ?_⟩
  · obtain ⟨g1, g2, g3, g4, g5⟩ := h.pw j x m hj k hk
    exact ⟨g1, g2, g3, by omega, g5⟩
  · obtain ⟨c', d1, d2, d3, d4⟩ := h.r1 (by omega)
    have h1 := hch k hk
    have h2 : (a0 + k) / size = c' := in_chunk hs (by omega) (by omega)
    rw [h1] at h2; subst h2; rw [c3] at d3; exact absurd d3 (by decide)
  · obtain ⟨g1, g2, g3, g4, g5⟩ := h.pw j y m hj i hi
    omega
  · have h1 := hch 0 (by omega)
    have h2 := hch (n - 1) (by omega)
    rw [Nat.add_zero] at h1
    rw [h1, show a0 + n - 1 = a0 + (n - 1) by omega, h2]
theorem Pcs.room1 {size : Nat} {own W : List Int} {a0 e0 a1 e1 n : Nat} {ps : List (Nat × Nat)} (h : Pcs size own W a0 e0 a1 e1 ps) (hs : 1 ≤ size) (hW : W.length = own.length * size) (hn : 1 ≤ n) (hr : n ≤ e1 - a1) : Pend size own W a0 e0 (a1 + n) e1 ps a1 n 0 2 ∧ a1 / size = (a1 + n - 1) / size := by
  obtain ⟨c, c1, c2, c3, c4⟩ := h.r1 (by omega)
  have hle : (c + 1) * size ≤ own.length * size := Nat.mul_le_mul_right _ c4
  have hch : ∀ k, k < n → (a1 + k) / size = c := fun k hk => in_chunk hs (by omega) (by omega)
  refine ⟨⟨⟨fun j x m hj k hk => ?_, h.r0, fun g => ⟨c, by omega, c2, c3, c4⟩⟩, fun k hk => ⟨by omega, by rw [hch k hk]; exact c3, fun g => ?_, by omega, fun j y m hj i hi e => ?_⟩, fun k hk => by omega⟩, ?_⟩
  · obtain ⟨g1, g2, g3, g4, g5⟩ := h.pw j x m hj k hk
    exact ⟨g1, g2, g3, g4, by omega⟩
  · obtain ⟨c', d1, d2, d3, d4⟩ := h.r0 (by omega)
    have h1 := hch k hk
    have h2 : (a1 + k) / size = c' := in_chunk hs (by omega) (by omega)
    rw [h1] at h2; subst h2; rw [c3] at d3; exact absurd d3 (by decide)
  · obtain ⟨g1, g2, g3, g4, g5⟩ := h.pw j y m hj i hi
    omega
  · have h1 := hch 0 (by omega)
    have h2 := hch (n - 1) (by omega)
    rw [Nat.add_zero] at h1
    rw [h1, show a1 + n - 1 = a1 + (n - 1) by omega, h2]
/-- What a run that is taken leaves of the pieces and rooms that were. -/
theorem RoomIn.fill {size : Nat} {own : List Int} {ow o : Int} {a e x k : Nat} (h : RoomIn size own ow a e) (ho : ow ≠ 0) (hx : x + k ≤ own.length) (hz : ∀ j, x ≤ j → j < x + k → own.getD j 0 = 0) : RoomIn size (fillO own x o k) ow a e := fun g => by
  obtain ⟨c, c1, c2, c3, c4⟩ := h g
  refine ⟨c, c1, c2, ?_, by rw [fillO_length]; exact c4⟩
  rw [fillO_getD own x o c k hx, if_neg (fun e => by rw [hz c e.1 e.2] at c3; exact ho c3.symm)]
  exact c3
theorem Pcs.fill {size : Nat} {own W : List Int} {a0 e0 a1 e1 x k : Nat} {o : Int} {ps : List (Nat × Nat)} (h : Pcs size own W a0 e0 a1 e1 ps) (hs : 1 ≤ size) (hW : W.length = own.length * size) (hx : x + k ≤ own.length) (hz : ∀ j, x ≤ j → j < x + k → own.getD j 0 = 0) :
    Pcs size (fillO own x o k) (zeroW W (x * size) (k * size)) a0 e0 a1 e1 ps ∧ (∀ (j y n' : Nat), ps[j]? = some (y, n') → ∀ i, i < n' → ¬ (x * size ≤ y + i ∧ y + i < x * size + k * size)) := by
  have hxw : x * size + k * size ≤ W.length := by rw [hW, ← Nat.add_mul]; exact Nat.mul_le_mul_right _ hx
  have hno : ∀ (j y n' : Nat), ps[j]? = some (y, n') → ∀ i, i < n' → ¬ (x * size ≤ y + i ∧ y + i < x * size + k * size) := fun j y n' hj i hi g => by
    obtain ⟨g1, g2, _⟩ := h.pw j y n' hj i hi
    refine g2 (hz _ ?_ ?_)
    · rw [Nat.le_div_iff_mul_le (by omega)]; exact g.1
    · rw [Nat.div_lt_iff_lt_mul (by omega), Nat.add_mul]; exact g.2
  refine ⟨⟨fun j y n' hj i hi => ?_, h.r0.fill (by decide) hx hz, h.r1.fill (by decide) hx hz⟩, hno⟩
  obtain ⟨g1, g2, g3, g4⟩ := h.pw j y n' hj i hi
  refine ⟨by rw [zeroW_length _ _ _ hxw]; exact g1, ?_, ?_, g4⟩
  · rw [fillO_getD own x o _ k hx]
    by_cases e : x ≤ (y + i) / size ∧ (y + i) / size < x + k
    · exact absurd (hz _ e.1 e.2) g2
    · rw [if_neg e]; exact g2
  · rw [zeroW_getD hxw, if_neg (hno j y n' hj i hi)]; exact g3
end Go.Proofs.YtkaflgbipjppmaaDoor
