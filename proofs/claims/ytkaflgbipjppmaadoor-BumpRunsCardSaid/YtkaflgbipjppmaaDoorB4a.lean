/- BumpRuns: the state behind short pieces. -/
import Derived.Test.YtkaflgbipjppmaaDoorBd
import Derived.Test.YtkaflgbipjppmaaDoorTw4
import Derived.Test.YtkaflgbipjppmaaDoorPl
import Derived.Test.YtkaflgbipjppmaaDoorB1
namespace Go.Proofs.YtkaflgbipjppmaaDoor
open Go.RowKit
set_option linter.unusedVariables false
set_option linter.unusedSimpArgs false
variable {base w w' : World} {B Wb Ob p q size P0 P1 : Nat} {W own : List Int} {v v0 v1 : Value}
/-- The owners when the first c chunks of 60 are 1's. -/
def ones60 (c : Nat) : List Int := List.replicate c 1 ++ List.replicate (60 - c) 0
theorem ones60_get (c j : Nat) (hc : c ≤ 60) : (ones60 c).getD j 0 = if j < c then 1 else 0 := by
  unfold ones60
  simp only [List.getD, List.getElem?_append, List.length_replicate, List.getElem?_replicate]
  by_cases h : j < c
  · simp [h]
  · simp [h]
    split <;> rfl
theorem ones60_len (c : Nat) (hc : c ≤ 60) : (ones60 c).length = 60 := by simp [ones60]; omega
theorem ones60_run (c n : Nat) (hn : 1 ≤ n) (hc : c + n ≤ 60) : runAtO (ones60 c) n = (c, true) := by
  refine runAtO_first hn (by rw [ones60_len c (by omega)]; omega) (fun j h1 h2 => ?_) (fun j hj => ?_)
  · rw [ones60_get c j (by omega), if_neg (by omega)]
  · rw [ones60_get c j (by omega), if_pos hj]; decide
theorem ones60_full (c n : Nat) (hn : 1 ≤ n) (hc : c ≤ 60) (h : ¬ c + n ≤ 60) : runAtO (ones60 c) n = (0, false) := by
  generalize hr : runAtO (ones60 c) n = r
  obtain ⟨a, b⟩ := r
  rcases run_at hr with ⟨_, h1, h2⟩ | ⟨rfl, rfl⟩
  · rw [ones60_len c hc] at h1
    have h3 := h2 a (Nat.le_refl _) (by omega)
    rw [ones60_get c a hc] at h3
    by_cases e : a < c
    · rw [if_pos e] at h3; exact absurd h3 (by decide)
    · omega
  · rfl
theorem ones60_next (c : Nat) (hc : c < 60) : fillO (ones60 c) c 1 1 = ones60 (c + 1) := by
  show (ones60 c).set (c + 0) 1 = _
  unfold ones60
  rw [Nat.add_zero, List.set_append, List.length_replicate, if_neg (by omega), Nat.sub_self]
  have : List.replicate (60 - c) (0 : Int) = 0 :: List.replicate (60 - (c + 1)) 0 := by
    rw [show 60 - c = (60 - (c + 1)) + 1 by omega, List.replicate_succ]
  rw [this, List.set_cons_zero, List.replicate_succ' (n := c), List.append_assoc]
  rfl
theorem parts200_get (c i : Nat) (h : i < c) : (parts200 c)[i]? = some (i, 1) := by simp [parts200, h]
/-- The state behind i pieces, none of them longer than a chunk. -/
def RunSt (base : World) (B Wb Ob p q size P0 P1 i : Nat) (w : World) : Prop := ∃ W v0 c a e, TW base w B Wb Ob p q W size (ones60 c) P0 P1 v0 (.slice none 0 0) (parts200 c) [] a e 0 0 ∧ c ≤ i ∧ e - a ≤ size
theorem RunSt.step {i n : Nat} (h : RunSt base B Wb Ob p q size P0 P1 i w) (hT : Tab base) (h0 : 0 < base.heap.size) (hi : i < 12) (hn1 : 1 ≤ n) (hn : n ≤ size) (hs : size ≤ 10) :
    Calls Tryd.prog 18 #[.pointer (some ⟨P0, 0, none⟩), .int .i64 n] w fun e w' => (∃ x : Int, e = .returned (.tuple #[.int .i64 x, .int .i64 0])) ∧ RunSt base B Wb Ob p q size P0 P1 (i + 1) w' ∧ Keeps w w' := by
  obtain ⟨W, v0, c, a, e, h1, h2, h3⟩ := h
  by_cases hr : n ≤ e - a
  · refine (h1.room0 n hn1 hr).mono ?_
    rintro e' w' ⟨rfl, h4, hm⟩
    exact ⟨⟨_, rfl⟩, ⟨W, v0, c, a + n, e, h4, by omega, by omega⟩, AllocS_calm h1.two.s0 h1.two.st hm⟩
  · have hneed : need size n = 1 := by
      unfold need
      rw [Nat.div_eq_of_lt (by omega)]
    have hrun : runAtO (ones60 c) (need size n) = (c, true) := by rw [hneed]; exact ones60_run c 1 (by omega) (by omega)
    refine (h1.run0 hT h0 n c hn1 (by omega) hr hrun (by rw [parts200_len]; omega)).mono ?_
    rintro e' w' ⟨rfl, ⟨v', h4⟩, hm⟩
    rw [hneed, ones60_next c (by omega), parts200_next, if_pos rfl, if_pos rfl] at h4
    refine ⟨⟨_, rfl⟩, ⟨_, v', c + 1, c * size + n, (c + 1) * size, h4, by omega, ?_⟩, AllocS_calm h1.two.s0 h1.two.st hm⟩
    rw [Nat.succ_mul]; omega
theorem k64_nat (a : Nat) (h : a ≤ 1000000) : IntKind.i64.wrap (a : Int) = (a : Int) := by rw [IntKind.wrap_i64]; omega
theorem w64_nat (a : Nat) (h : a ≤ 1000000) : wrap64 (a : Int) = (a : Int) := by simp only [wrap64]; omega
theorem tdiv_nat (a b : Nat) : (a : Int).tdiv (b : Int) = ((a / b : Nat) : Int) := by rw [Int.tdiv_eq_ediv_of_nonneg (by omega)]; simp
theorem findI_last (c n : Nat) : findI (parts200 c ++ [(c, n)]) c = c := by
  refine findI_to (by rw [List.length_append, parts200_len]; simp) ?_ (fun j hj => ?_)
  · simp [List.getD, List.getElem?_append_right, parts200_len]
  · have e : (parts200 c ++ [(c, n)]).getD j (0, 0) = (j, 1) := by
      rw [List.getD, List.getElem?_append_left (by rw [parts200_len]; exact hj), parts200_get c j hj]; rfl
    rw [e]; show (j : Int) ≠ c; omega
theorem bigL_last (c n i : Nat) (hn : 2 ≤ n) : bigL (parts200 c ++ [(c, n)]) ((c : Int) + (i : Int)) = decide (i < n) := by
  unfold bigL
  rw [List.any_append]
  have e : (parts200 c).any (fun x => decide (1 < x.2) && (decide ((x.1 : Int) ≤ (c : Int) + i) && decide ((c : Int) + i < (x.1 : Int) + (x.2 : Int)))) = false := by
    rw [List.any_eq_false]
    intro x hx
    obtain ⟨j, _, rfl⟩ := List.mem_map.1 hx
    simp
  rw [e]
  simp only [List.any_cons, List.any_nil, Bool.false_or, Bool.or_false]
  rw [decide_eq_true (show 1 < n by omega), decide_eq_true (show (c : Int) ≤ (c : Int) + i by omega), Bool.true_and, Bool.true_and]
  by_cases h : i < n
  · rw [decide_eq_true h, decide_eq_true (by omega)]
  · rw [decide_eq_false h, decide_eq_false (by omega)]
theorem chunks_last (c n : Nat) : (chunksL (parts200 c ++ [(c, n)])).length = c + n := by
  rw [chunksL_snoc, List.length_append, parts200_chunks]; simp [chunkL]
end Go.Proofs.YtkaflgbipjppmaaDoor
