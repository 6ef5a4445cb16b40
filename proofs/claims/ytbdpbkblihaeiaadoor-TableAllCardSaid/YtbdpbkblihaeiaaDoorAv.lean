/- The document's example: a walk. -/
import Derived.Test.YtbdpbkblihaeiaaDoorSm
namespace Go.Proofs.YtbdpbkblihaeiaaDoor
open Go.RowKit
set_option linter.unusedVariables false
set_option linter.unusedSimpArgs false
variable {w w' : World} {p q : Nat} {bits : List Bool} {ws : List Nat} {T T' : TypeId}
theorem Turned.below {B : Nat} {a b c : World} {bits' : List Bool} (hb : Below B a b) (ht : Turned b p q bits' T T' c) (hp : B ≤ p) (hq : B ≤ q) (hB : B ≤ b.heap.size) : Below B a c := by
  obtain ⟨_, _, hm⟩ := ht
  exact Mod.below hb hm (fun k hk => by rcases hk with rfl | rfl <;> assumption) hB
def aliveL : List Bool := [true, true, false, true, false, false, false, false]
theorem alive_bits : (fillL (List.replicate 8 false) 0 true 2).set 3 true = aliveL := by decide
theorem alive_first : FirstL aliveL 0 = (2, true) := by
  have : seek false aliveL 0 = 2 := by rw [seek_step (by decide), seek_step (by decide), seek_hit (by decide) (by decide)]
  unfold FirstL; rw [this]; rfl
theorem alive_run : runL 2 aliveL 0 = (4, true) := by
  have h : ∀ j, 0 ≤ j → j < 4 → ¬ Off aliveL j 2 := by
    intro j _ hj hoff
    have h0 := hoff.2 j (by omega) (by omega)
    have h1 := hoff.2 (j + 1) (by omega) (by omega)
    have : j = 0 ∨ j = 1 ∨ j = 2 ∨ j = 3 := by omega
    rcases this with rfl | rfl | rfl | rfl <;> revert h0 h1 <;> decide
  rw [run_to (k := 4) (by omega) h]
  refine run_hit ⟨by decide, fun j h1 h2 => ?_⟩
  have : j = 4 ∨ j = 5 := by omega
  rcases this with rfl | rfl <;> decide
theorem alive_ones : ones aliveL = [0, 1, 3] := by decide
theorem alive_many : many aliveL = 3 := by decide
theorem ints_lit (w : World) (l : List Nat) (t : TypeId) (hl : l.length ≤ 1048576) : Ints (w.alloc (.cells (l.map intV).toArray t)) (.slice (some ⟨w.heap.size, 0, none⟩) l.length l.length) l := by
  refine ⟨_, _, rfl, Nat.le_refl _, by unfold maxLen; omega, fun i hi => ⟨_, _, rfl, fun j v hv => ?_⟩⟩
  have := blk_cells (heap_alloc_new w (.cells (l.map intV).toArray t)) (0 + i * 1 + j)
  rw [this]
  cases j with
  | zero => simp at hv ⊢; simp [List.getD, hi] at hv; exact ⟨_, by simp [hi], hv⟩
  | succ j => simp at hv
set_option maxRecDepth 100000 in
theorem alive_any (hT : Tab w) : Calls Tryd.prog 17 #[] w fun e w' => e = .returned (.bool true) ∧ Below w.heap.size w w' := by
  have HT := Lib.hid hT
  have hg0 : 0 < w.heap.size := lt_of_cell (hT 0 (by decide))
  clear hT
  go_enter Tryd.func17, Tryd.ntmps17
  go_wp2_with fail
  refine (new_in 8 w (by decide) (by decide)).mono ?_
  rintro e w1 ⟨rfl, hM1, hB1⟩
  have HM1 := Lib.hid hM1
  have HB1 := Lib.hid hB1
  clear hM1
  go_wp2_with fail
  refine (fill_in HM1.out 0 2 true (by simp)).mono ?_
  rintro e w2 ⟨rfl, ht2⟩
  have HB2 := Lib.hid (ht2.below HB1.out (by omega) (by omega) hB1.size)
  obtain ⟨ws2, hM2, _⟩ := ht2
  have HM2 := Lib.hid hM2
  clear hM2 hB1
  go_wp2_with fail
  refine (set_in HM2.out 3 true (by rw [fillL_length]; simp)).mono ?_
  rintro e w3 ⟨rfl, ht3⟩
  have HB3 := Lib.hid (ht3.below HB2.out (by omega) (by omega) HB2.out.size)
  obtain ⟨ws3, hM3, _⟩ := ht3
  rw [alive_bits] at hM3
  have HM3 := Lib.hid hM3
  have HT3 := Lib.hid (HT.out.below HB3.out hg0)
  clear hM3
  go_wp2_with fail
  refine (first_of HM3.out HT3.out 0 2 true alive_first).mono ?_
  rintro e w4 ⟨rfl, rfl⟩
  go_wp2_with fail
  refine (run_any HM3.out HT3.out 2 (by decide)).mono ?_
  rintro e w4 ⟨rfl, rfl⟩
  rw [alive_run]
  go_wp2_with fail
  refine (all_any HM3.out HT3.out).mono ?_
  rintro e w5 ⟨v5, rfl, hrow, _, hb5⟩
  rw [alive_ones] at hrow
  have hI := ints_of_own hrow (by decide)
  have HM5 := Lib.hid (HM3.out.on hb5)
  have HI5 := Lib.hid (hI.on (below1 w5 (.cells ([0, 1, 3].map intV).toArray 3)))
  have HL5 := Lib.hid (ints_lit w5 [0, 1, 3] 3 (by decide))
  have HB5 := Lib.hid (HB3.out.on hb5)
  clear hrow hI hb5
  go_wp2_with fail
  refine (same_any HI5.out HL5.out).mono ?_
  rintro e w6 ⟨rfl, hb6⟩
  have HM6 := Lib.hid ((HM5.out.on (below1 _ _)).on hb6)
  have HB6 := Lib.hid ((HB5.out.on (below1 _ _)).on hb6)
  clear hb6
  rw [decide_eq_true rfl]
  go_wp2_with fail
  refine (count_any HM6.out).mono ?_
  rintro e w7 ⟨rfl, rfl⟩
  rw [alive_many]
  go_wp2
  go_ret
  exact ⟨rfl, HB6.out⟩
end Go.Proofs.YtbdpbkblihaeiaaDoor
