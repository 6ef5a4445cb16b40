/- Layouts in plain words: no program is imported. -/
import Derived.Test.YtcffenekomiakaaK
import Derived.Test.YtcffenekomiakaaO
namespace Go.Proofs.Ytcffenekomiakaa
open Go.RowKit
set_option linter.unusedVariables false
/-- A layout. -/
structure Lay where
  fixed : Int
  refs : List Int
  record : Int
  recs : List Int
def riseGo (size : Int) : Int → List Int → Bool
  | _, [] => true
  | last, p :: t => decide (last < p) && (decide (p < size) && riseGo size p t)
def riseB (l : List Int) (size : Int) : Bool := riseGo size (-1) l
def Lay.nums (x : Lay) : Bool := decide (0 ≤ x.fixed ∧ x.fixed ≤ 64 ∧ 0 ≤ x.record ∧ x.record ≤ 64 ∧ 0 < x.fixed + x.record)
def Lay.right (x : Lay) : Bool := x.nums && (riseB x.refs x.fixed && riseB x.recs x.record)
/-- The size, and the error. -/
def Lay.size (x : Lay) (c : Int) : Int × Int :=
  if x.right = true then (if c < 0 ∨ 1024 < c ∨ (0 < c ∧ x.record = 0) then (0, 3) else if 8192 ≤ x.fixed + c * x.record then (0, 10) else (x.fixed + c * x.record, 0)) else (0, 2)
def Lay.isRef (x : Lay) (p : Int) : Bool := if p < x.fixed then decide (p ∈ x.refs) else decide (((p - x.fixed) % x.record) ∈ x.recs)
def Lay.slots (x : Lay) (c : Nat) : List Int := x.refs ++ (List.range c).flatMap fun r : Nat => x.recs.map fun p => x.fixed + (r : Int) * x.record + p
theorem Lay.slots_succ (x : Lay) (c : Nat) : x.slots (c + 1) = x.slots c ++ x.recs.map fun p => x.fixed + c * x.record + p := by
  unfold Lay.slots
  rw [List.range_succ, List.flatMap_append, List.append_assoc]
  simp
theorem Lay.slots_zero (x : Lay) : x.slots 0 = x.refs := by simp [Lay.slots]
theorem riseGo_all : ∀ (l : List Int) (size last : Int), riseGo size last l = true → l.Pairwise (· < ·) ∧ ∀ p ∈ l, last < p ∧ p < size
  | [], _, _, _ => ⟨.nil, by simp⟩
  | p :: t, size, last, h => by
    simp only [riseGo, Bool.and_eq_true, decide_eq_true_eq] at h
    obtain ⟨h1, h2, h3⟩ := h
    obtain ⟨g1, g2⟩ := riseGo_all t size p h3
    refine ⟨List.pairwise_cons.2 ⟨fun a ha => (g2 a ha).1, g1⟩, fun a ha => ?_⟩
    rcases List.mem_cons.1 ha with rfl | ha
    · exact ⟨h1, h2⟩
    · have := g2 a ha; omega
theorem rise_all {l : List Int} {size : Int} (h : riseB l size = true) : l.Pairwise (· < ·) ∧ ∀ p ∈ l, 0 ≤ p ∧ p < size := by
  obtain ⟨h1, h2⟩ := riseGo_all l size (-1) h
  exact ⟨h1, fun p hp => by have := h2 p hp; omega⟩
theorem sorted_ext : ∀ l1 l2 : List Int, l1.Pairwise (· < ·) → l2.Pairwise (· < ·) → (∀ a, a ∈ l1 ↔ a ∈ l2) → l1 = l2
  | [], [], _, _, _ => rfl
  | [], b :: t, _, _, h => by have := (h b).2 (by simp); simp at this
  | a :: t, [], _, _, h => by have := (h a).1 (by simp); simp at this
  | a :: s, b :: t, h1, h2, h => by
    obtain ⟨p1, q1⟩ := List.pairwise_cons.1 h1
    obtain ⟨p2, q2⟩ := List.pairwise_cons.1 h2
    have e : a = b := by
      rcases List.mem_cons.1 ((h a).1 (by simp)) with e | e
      · exact e
      · rcases List.mem_cons.1 ((h b).2 (by simp)) with g | g
        · exact g.symm
        · have := p2 a e; have := p1 b g; omega
    subst e
    rw [sorted_ext s t q1 q2 (fun c => ⟨fun hc => ?_, fun hc => ?_⟩)]
    · rcases List.mem_cons.1 ((h c).1 (by simp [hc])) with e | e
      · have := p1 c hc; omega
      · exact e
    · rcases List.mem_cons.1 ((h c).2 (by simp [hc])) with e | e
      · have := p2 c hc; omega
      · exact e
theorem Lay.right_out {x : Lay} (h : x.right = true) : 0 ≤ x.fixed ∧ x.fixed ≤ 64 ∧ 0 ≤ x.record ∧ x.record ≤ 64 ∧ 0 < x.fixed + x.record ∧ riseB x.refs x.fixed = true ∧ riseB x.recs x.record = true := by
  unfold Lay.right Lay.nums at h
  simp only [Bool.and_eq_true, decide_eq_true_eq] at h
  obtain ⟨⟨h1, h2, h3, h4, h5⟩, h6, h7⟩ := h
  exact ⟨h1, h2, h3, h4, h5, h6, h7⟩
theorem mul_step (c : Nat) (r : Int) : ((c + 1 : Nat) : Int) * r = c * r + r := by rw [Int.natCast_succ, Int.add_mul, Int.one_mul]
theorem Lay.slots_mem {x : Lay} (h : x.right = true) : ∀ (c : Nat), (0 < c → 0 < x.record) → (x.slots c).Pairwise (· < ·) ∧ ∀ a, a ∈ x.slots c ↔ 0 ≤ a ∧ a < x.fixed + c * x.record ∧ x.isRef a = true
  | 0, _ => by
    obtain ⟨h1, h2, h3, h4, h5, h6, h7⟩ := Lay.right_out h
    obtain ⟨g1, g2⟩ := rise_all h6
    rw [Lay.slots_zero]
    refine ⟨g1, fun a => ⟨fun ha => ?_, fun ⟨ha, hb, hc⟩ => ?_⟩⟩
    · have := g2 a ha
      refine ⟨this.1, by simp; exact this.2, ?_⟩
      unfold Lay.isRef
      rw [if_pos this.2]; exact decide_eq_true ha
    · have hb' : a < x.fixed := by simpa using hb
      unfold Lay.isRef at hc
      rw [if_pos hb'] at hc
      exact of_decide_eq_true hc
  | c + 1, hr => by
    obtain ⟨h1, h2, h3, h4, h5, h6, h7⟩ := Lay.right_out h
    obtain ⟨g1, g2⟩ := rise_all h7
    have hrec := hr (by omega)
    obtain ⟨k1, k2⟩ := Lay.slots_mem h c (fun _ => hrec)
    have hcr : 0 ≤ (c : Int) * x.record := Int.mul_nonneg (by omega) (by omega)
    have hms := mul_step c x.record
    rw [Lay.slots_succ, hms]
    have hdiv : ∀ p, 0 ≤ p → p < x.record → (x.fixed + c * x.record + p - x.fixed) % x.record = p := fun p hp hq => by
      rw [show x.fixed + c * x.record + p - x.fixed = p + c * x.record by omega, Int.add_mul_emod_self_right]
      exact Int.emod_eq_of_lt hp hq
    generalize hcc : (c : Int) * x.record = m at *
    refine ⟨List.pairwise_append.2 ⟨k1, ?_, fun a ha b hb => ?_⟩, fun a => ⟨fun ha => ?_, fun ⟨ha, hb, hc⟩ => ?_⟩⟩
    · rw [List.pairwise_map]
      exact g1.imp (fun hab => by omega)
    · obtain ⟨p, hp, rfl⟩ := List.mem_map.1 hb
      have := ((k2 a).1 ha).2.1
      have := g2 p hp
      omega
    · rcases List.mem_append.1 ha with ha | ha
      · have := (k2 a).1 ha
        exact ⟨this.1, by omega, this.2.2⟩
      · obtain ⟨p, hp, rfl⟩ := List.mem_map.1 ha
        have := g2 p hp
        refine ⟨by omega, by omega, ?_⟩
        unfold Lay.isRef
        rw [if_neg (by omega), hdiv p this.1 this.2]
        exact decide_eq_true hp
    · by_cases hlt : a < x.fixed + m
      · exact List.mem_append_left _ ((k2 a).2 ⟨ha, hlt, hc⟩)
      · refine List.mem_append_right _ (List.mem_map.2 ⟨a - (x.fixed + m), ?_, by omega⟩)
        unfold Lay.isRef at hc
        rw [if_neg (by omega)] at hc
        have := hdiv (a - (x.fixed + m)) (by omega) (by omega)
        rw [show x.fixed + m + (a - (x.fixed + m)) - x.fixed = a - x.fixed by omega] at this
        rw [this] at hc
        exact of_decide_eq_true hc
/-- The places up to n that are references. -/
def Lay.upTo (x : Lay) (n : Nat) : List Int := ((List.range n).map fun i : Nat => (i : Int)).filter fun a => x.isRef a
theorem Lay.upTo_succ (x : Lay) (n : Nat) : x.upTo (n + 1) = x.upTo n ++ (if x.isRef n = true then [(n : Int)] else []) := by
  unfold Lay.upTo
  rw [List.range_succ, List.map_append, List.filter_append]
  congr 1
  simp only [List.map_cons, List.map_nil, List.filter]
  cases x.isRef n <;> rfl
theorem Lay.upTo_le (x : Lay) (n : Nat) : (x.upTo n).length ≤ n := by
  have := List.length_filter_le (fun a => x.isRef a) ((List.range n).map fun i : Nat => (i : Int))
  unfold Lay.upTo
  simpa using this
theorem Lay.slots_upTo {x : Lay} (h : x.right = true) (c n : Nat) (hr : 0 < c → 0 < x.record) (hn : (n : Int) = x.fixed + c * x.record) : x.slots c = x.upTo n := by
  obtain ⟨h1, h2⟩ := Lay.slots_mem h c hr
  refine sorted_ext _ _ h1 ?_ (fun a => ?_)
  · unfold Lay.upTo
    refine List.Pairwise.filter _ ?_
    rw [List.pairwise_map]
    exact List.pairwise_lt_range.imp (fun hab => by omega)
  · rw [h2]
    unfold Lay.upTo
    rw [List.mem_filter, List.mem_map]
    constructor
    · rintro ⟨g1, g2, g3⟩
      exact ⟨⟨a.toNat, by rw [List.mem_range]; omega, by omega⟩, g3⟩
    · rintro ⟨⟨i, hi, rfl⟩, g3⟩
      rw [List.mem_range] at hi
      exact ⟨by omega, by omega, g3⟩
end Go.Proofs.Ytcffenekomiakaa
