/- What the store's laws need in plain words. -/
import Derived.Test.YtkaflgbipjppmaaDoorW1
namespace Go.Proofs.YtkaflgbipjppmaaDoor
open Go.RowKit
set_option linter.unusedVariables false
set_option linter.unusedSimpArgs false
theorem many_count : ∀ own : List Int, many (own.map busy) + own.count 0 = own.length
  | [] => rfl
  | x :: t => by
    have ih := many_count t
    unfold many at *
    rw [List.map_cons, List.count_cons, List.count_cons, List.length_cons]
    by_cases h : x = 0
    · subst h
      have : busy 0 = false := by decide
      rw [this]; simp; omega
    · have : busy x = true := by simp [busy, h]
      rw [this]; simp [h]; omega
theorem freeN_count (own : List Int) : freeN own = own.count 0 := by have := many_count own; unfold freeN; omega
theorem count_set0 (own : List Int) (i : Nat) (x : Int) (h : i < own.length) : (own.set i x).count 0 + (if own.getD i 0 = 0 then 1 else 0) = own.count 0 + (if x = 0 then 1 else 0) := by
  induction own generalizing i with
  | nil => simp at h
  | cons y t ih =>
    cases i with
    | zero =>
      simp only [List.set_cons_zero, List.count_cons, List.getD_cons_zero]
      by_cases h1 : y = 0 <;> by_cases h2 : x = 0 <;> simp [h1, h2]
    | succ i =>
      have := ih i (by simpa using h)
      simp only [List.set_cons_succ, List.count_cons, List.getD_cons_succ]
      omega
theorem free_set {own : List Int} {i : Nat} {x : Int} (h : i < own.length) (h0 : own.getD i 0 = 0) (hx : x ≠ 0) : freeN (own.set i x) + 1 = freeN own := by
  have := count_set0 own i x h
  rw [if_pos h0, if_neg hx] at this
  rw [freeN_count, freeN_count]; omega
theorem free_unset {own : List Int} {i : Nat} (h : i < own.length) (h0 : own.getD i 0 ≠ 0) : freeN (own.set i 0) = freeN own + 1 := by
  have := count_set0 own i 0 h
  rw [if_neg h0, if_pos rfl] at this
  rw [freeN_count, freeN_count]; omega
theorem free_reset {own : List Int} {i : Nat} {x : Int} (h : i < own.length) (h0 : own.getD i 0 ≠ 0) (hx : x ≠ 0) : freeN (own.set i x) = freeN own := by
  have := count_set0 own i x h
  rw [if_neg h0, if_neg hx] at this
  rw [freeN_count, freeN_count]; omega
theorem free_fill {own : List Int} {a : Nat} {o : Int} (ho : o ≠ 0) : ∀ n, a + n ≤ own.length → (∀ j, a ≤ j → j < a + n → own.getD j 0 = 0) → freeN (fillO own a o n) + n = freeN own
  | 0, _, _ => rfl
  | n + 1, h, hz => by
    have ih := free_fill ho n (by omega) (fun j h1 h2 => hz j h1 (by omega))
    have hl := fillO_length own a o n
    have h0 : (fillO own a o n).getD (a + n) 0 = 0 := by
      rw [fillO_getD own a o (a + n) n (by omega), if_neg (by omega)]
      exact hz _ (by omega) (by omega)
    have := free_set (own := fillO own a o n) (i := a + n) (x := o) (by omega) h0 ho
    show freeN ((fillO own a o n).set (a + n) o) + (n + 1) = _
    omega
theorem free_pos {own : List Int} {i : Nat} (h : i < own.length) (h0 : own.getD i 0 = 0) : 1 ≤ freeN own := by
  have := free_set h h0 (x := 1) (by decide); omega
/-- What a run is: free, and no earlier one is. -/
theorem run_first {own : List Int} {n a : Nat} (h : runAtO own n = (a, true)) : a + n ≤ own.length ∧ (∀ j, a ≤ j → j < a + n → own.getD j 0 = 0) ∧ (∀ j, j < a → j + n ≤ own.length → ∃ i, j ≤ i ∧ i < j + n ∧ own.getD i 0 ≠ 0) := by
  unfold runAtO at h
  rcases run_spec n (own.map busy) _ 0 rfl with ⟨a', g1, g2, g3, g4⟩ | ⟨g1, g2⟩
  · rw [g1] at h
    cases h
    have h4 := g3.1
    rw [List.length_map] at h4
    refine ⟨h4, fun j h1 h2 => ?_, fun j h1 h2 => ?_⟩
    · have h3 := g3.2 j h1 h2
      rw [busy_get (by omega)] at h3
      simpa [busy] using h3
    · have h5 := g4 j (Nat.zero_le _) h1
      refine Classical.byContradiction fun hn => h5 ⟨by simpa using h2, fun i g5 g6 => ?_⟩
      have : own.getD i 0 = 0 := Classical.byContradiction fun h7 => hn ⟨i, g5, g6, h7⟩
      rw [busy_get (by omega), this]; decide
  · rw [g1] at h
    cases h
theorem run_nowhere {own : List Int} {n a : Nat} (h : runAtO own n = (a, false)) : a = 0 ∧ ∀ j, j + n ≤ own.length → ∃ i, j ≤ i ∧ i < j + n ∧ own.getD i 0 ≠ 0 := by
  unfold runAtO at h
  rcases run_spec n (own.map busy) _ 0 rfl with ⟨a', g1, g2, g3, g4⟩ | ⟨g1, g2⟩
  · rw [g1] at h
    cases h
  · rw [g1] at h
    cases h
    refine ⟨rfl, fun j h2 => Classical.byContradiction fun hn => g2 j (Nat.zero_le _) ⟨by simpa using h2, fun i g5 g6 => ?_⟩⟩
    have : own.getD i 0 = 0 := Classical.byContradiction fun h7 => hn ⟨i, g5, g6, h7⟩
    rw [busy_get (by omega), this]; decide
theorem free_none {own : List Int} (h : ∀ j, j < own.length → own.getD j 0 ≠ 0) : freeN own = 0 := by
  rw [freeN_count]
  refine List.count_eq_zero.2 fun hm => ?_
  obtain ⟨i, hi, he⟩ := List.getElem_of_mem hm
  exact h i hi (by simp [List.getD, hi, he])
/-- A word of a run that was taken. -/
theorem zero_at {W own : List Int} {a n size i : Nat} {o : Int} (ho : o ≠ 0) (hs : 1 ≤ size) (hW : W.length = own.length * size) (h : a + n ≤ own.length) (hi : i < n * size) :
    a * size + i < W.length ∧ readV (zeroW W (a * size) (n * size)) (fillO own a o n) size (a * size + i) = 0 ∧ chE (fillO own a o n) ((a * size + i) / size) = 0 := by
  have h1 : (a + n) * size ≤ W.length := by rw [hW]; exact Nat.mul_le_mul_right _ h
  rw [Nat.add_mul] at h1
  have hq : (a * size + i) / size = a + i / size := by rw [Nat.add_comm (a * size) i, Nat.add_mul_div_right i a (show 0 < size by omega), Nat.add_comm]
  have hq2 : i / size < n := by rw [Nat.div_lt_iff_lt_mul (by omega)]; exact hi
  have ho2 : (fillO own a o n).getD (a + i / size) 0 = o := by rw [fillO_getD own a o _ n h, if_pos ⟨Nat.le_add_right _ _, Nat.add_lt_add_left hq2 a⟩]
  refine ⟨by omega, ?_, ?_⟩
  · unfold readV
    rw [hq, ho2, if_neg ho, zeroW_getD (by omega), if_pos (by omega)]
  · unfold chE
    rw [hq, ho2, if_neg ho]
theorem mem_owned {own : List Int} {o : Int} {c : Nat} : c ∈ ownedL own o ↔ c < own.length ∧ own.getD c 0 ≠ 0 ∧ own.getD c 0 = o := by
  unfold ownedL selO ones onesTo
  rw [List.mem_filter, List.mem_filter, List.mem_range, List.length_map]
  constructor
  · rintro ⟨⟨h1, h2⟩, h3⟩
    rw [busy_get h1] at h2
    exact ⟨h1, by simpa [busy] using h2, by simpa using h3⟩
  · rintro ⟨h1, h2, h3⟩
    exact ⟨⟨h1, by rw [busy_get h1]; simp [busy, h2, - List.getD_eq_getElem?_getD]⟩, by simp [h3, - List.getD_eq_getElem?_getD]⟩
theorem owned_le (own : List Int) (o : Int) : (ownedL own o).length ≤ own.length := by
  have h1 := selO_le own o (ones (own.map busy))
  have h2 := onesTo_le (bits := own.map busy) (own.map busy).length
  rw [List.length_map] at h2
  unfold ownedL
  unfold ones at h1 ⊢
  rw [List.length_map] at h1 ⊢
  omega
/-- The first k of a row. -/
def rowL (f : Nat → Int) (k : Nat) : List Int := (List.range k).map f
theorem rowL_succ (f : Nat → Int) (k : Nat) : rowL f (k + 1) = rowL f k ++ [f k] := by unfold rowL; rw [List.range_succ]; simp
theorem rowL_len (f : Nat → Int) (k : Nat) : (rowL f k).length = k := by simp [rowL]
theorem rowL_get {f : Nat → Int} {k i : Nat} (h : i < k) : (rowL f k).getD i 0 = f i := by simp [rowL, List.getD, h]
theorem rem_nat (a : Int) (d : Nat) (hd : 1 ≤ d) : ∃ R : Nat, (IntKind.u64.wrap a).tmod (d : Int) = (R : Int) ∧ R < d := by
  have h1 : 0 ≤ IntKind.u64.wrap a := by rw [IntKind.wrap_u64]; omega
  obtain ⟨x, hx⟩ : ∃ x : Nat, IntKind.u64.wrap a = x := ⟨(IntKind.u64.wrap a).toNat, by omega⟩
  refine ⟨x % d, ?_, Nat.mod_lt _ hd⟩
  rw [hx]
  rfl
theorem owner_n (ow : Int) : ∃ o : Nat, (o : Int) = 1 + max 0 ow % 1000 ∧ 1 ≤ o ∧ o ≤ 1000 :=
  ⟨(1 + max 0 ow % 1000).toNat, by have := Int.emod_nonneg (max 0 ow) (show (1000 : Int) ≠ 0 by decide); omega, by have := Int.emod_nonneg (max 0 ow) (show (1000 : Int) ≠ 0 by decide); omega, by have := Int.emod_lt_of_pos (max 0 ow) (show (0 : Int) < 1000 by decide); omega⟩
theorem words_of (l : List Int) : l.map wordV = l.flatMap encW := by induction l <;> simp_all [wordV, encW]
/-- A word of chunk R. -/
theorem word_in {W own : List Int} {size R i : Nat} (hs : 1 ≤ size) (hW : W.length = own.length * size) (h : R < own.length) (hi : i < size) : R * size + i < W.length ∧ (R * size + i) / size = R := by
  have h1 : (R + 1) * size ≤ W.length := by rw [hW]; exact Nat.mul_le_mul_right _ h
  rw [Nat.add_mul] at h1
  refine ⟨by omega, ?_⟩
  rw [Nat.add_comm (R * size) i, Nat.add_mul_div_right i R (show 0 < size by omega), Nat.div_eq_of_lt hi, Nat.zero_add]
theorem mem_take_succ {L : List Nat} {R k : Nat} (h : k < L.length) : (R ∈ L.take (k + 1)) ↔ (R ∈ L.take k ∨ L.getD k 0 = R) := by
  have e : L.getD k 0 = L[k] := by simp [List.getD, h]
  rw [List.take_succ_eq_append_getElem h, List.mem_append, List.mem_singleton, e, @eq_comm _ R]
/-- n from j on are free. -/
def FreeRun (own : List Int) (j n : Nat) : Prop := ∀ i, j ≤ i → i < j + n → own.getD i 0 = 0
/-- What is known of the first run, once all from m on were looked at. -/
def FstR (own : List Int) (n : Nat) (m : Int) (fv : Int) : Prop :=
  (fv = -1 ∧ ∀ j : Nat, m ≤ j → j + n ≤ own.length → ¬ FreeRun own j n) ∨ (∃ a : Nat, fv = a ∧ a + n ≤ own.length ∧ FreeRun own a n ∧ m ≤ a ∧ ∀ j : Nat, m ≤ j → j < a → ¬ FreeRun own j n)
theorem FstR.start (own : List Int) (n : Nat) : FstR own n ((own.length : Int) - n + 1) (-1) := .inl ⟨rfl, fun j h1 h2 => by omega⟩
theorem FstR.yes {own : List Int} {n c : Nat} {fv : Int} (h : FstR own n ((c : Int) + 1) fv) (hr : FreeRun own c n) (hc : c + n ≤ own.length) : FstR own n (c : Int) (c : Int) := .inr ⟨c, rfl, hc, hr, by omega, fun j h1 h2 => by omega⟩
theorem FstR.no {own : List Int} {n c : Nat} {fv : Int} (h : FstR own n ((c : Int) + 1) fv) (hr : ¬ FreeRun own c n) : FstR own n (c : Int) fv := by
  rcases h with ⟨h1, h2⟩ | ⟨a, h1, h2, h3, h4, h5⟩
  · refine .inl ⟨h1, fun j g1 g2 => ?_⟩
    by_cases e : j = c
    · rw [e]; exact hr
    · exact h2 j (by omega) g2
  · refine .inr ⟨a, h1, h2, h3, by omega, fun j g1 g2 => ?_⟩
    by_cases e : j = c
    · rw [e]; exact hr
    · exact h5 j (by omega) g2
theorem FstR.none {own : List Int} {n a : Nat} {m fv : Int} (h : FstR own n m fv) (hm : m ≤ 0) (hn : 1 ≤ n) (hr : runAtO own n = (a, false)) : fv = -1 := by
  rcases h with ⟨h1, _⟩ | ⟨a, h1, h2, h3, h4, h5⟩
  · exact h1
  · obtain ⟨i, g1, g2, g3⟩ := (run_nowhere hr).2 a h2
    exact absurd (h3 i g1 g2) g3
theorem FstR.some {own : List Int} {n a : Nat} {m fv : Int} (h : FstR own n m fv) (hm : m ≤ 0) (hr : runAtO own n = (a, true)) : fv = a := by
  obtain ⟨g1, g2, g3⟩ := run_first hr
  rcases h with ⟨h1, h2⟩ | ⟨a', h1, h2, h3, h4, h5⟩
  · exact absurd (fun i e1 e2 => g2 i e1 e2) (h2 a (by omega) g1)
  · have : a' = a := by
      rcases Nat.lt_trichotomy a' a with e | e | e
      · obtain ⟨i, e1, e2, e3⟩ := g3 a' e h2
        exact absurd (h3 i e1 e2) e3
      · exact e
      · exact absurd (fun i e1 e2 => g2 i e1 e2) (h5 a (by omega) e)
    rw [h1, this]
theorem freeRun_succ {own : List Int} {j k : Nat} : FreeRun own j (k + 1) ↔ FreeRun own j k ∧ own.getD (j + k) 0 = 0 := by
  constructor
  · intro h
    exact ⟨fun i h1 h2 => h i h1 (by omega), h _ (by omega) (by omega)⟩
  · rintro ⟨h1, h2⟩ i h3 h4
    by_cases e : i = j + k
    · rw [e]; exact h2
    · exact h1 i h3 (by omega)
open Classical in
noncomputable def frB (own : List Int) (j n : Nat) : Bool := decide (FreeRun own j n)
theorem frB_yes {own : List Int} {j n : Nat} (h : FreeRun own j n) : frB own j n = true := by simp [frB, h]
theorem frB_no {own : List Int} {j n : Nat} (h : ¬ FreeRun own j n) : frB own j n = false := by simp [frB, h]
def encB (b : Bool) : List Value := [.bool b]
/-- Which of the first k are free. -/
def freeB (own : List Int) (k : Nat) : List Bool := (own.take k).map fun x => x == 0
theorem freeB_succ {own : List Int} {k : Nat} (h : k < own.length) : freeB own (k + 1) = freeB own k ++ [own.getD k 0 == 0] := by
  have e : own.take (k + 1) = own.take k ++ [own.getD k 0] := by rw [List.take_add_one]; simp [List.getD, h]
  unfold freeB
  rw [e, List.map_append]; rfl
theorem freeB_len {own : List Int} {k : Nat} (h : k ≤ own.length) : (freeB own k).length = k := by simp [freeB]; omega
theorem freeB_get {own : List Int} {i : Nat} (h : i < own.length) : (freeB own own.length).getD i false = (own.getD i 0 == 0) := by simp [freeB, List.getD, h]
theorem run_n (z : Int) : ∃ c : Nat, (c : Int) = 1 + max 0 z % 6 ∧ 1 ≤ c ∧ c ≤ 6 :=
  ⟨(1 + max 0 z % 6).toNat, by have := Int.emod_nonneg (max 0 z) (show (6 : Int) ≠ 0 by decide); omega, by have := Int.emod_nonneg (max 0 z) (show (6 : Int) ≠ 0 by decide); omega, by have := Int.emod_lt_of_pos (max 0 z) (show (0 : Int) < 6 by decide); omega⟩
def encO (x : Int) : List Value := [.int .i64 x]
theorem ints_of (l : List Int) : l.map ownV = l.flatMap encO := by induction l <;> simp_all [ownV, encO]
end Go.Proofs.YtkaflgbipjppmaaDoor
