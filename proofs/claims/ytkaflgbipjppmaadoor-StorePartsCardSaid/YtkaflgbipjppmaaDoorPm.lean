/- StoreParts in plain words: how many of each owner, which owners were met. -/
import Derived.Test.YtkaflgbipjppmaaDoorPl
import Derived.Maps.OwnOps
import Derived.Maps.OwnIn
import Derived.Maps.Views
namespace Go.Proofs.YtkaflgbipjppmaaDoor
open Go.RowKit
set_option linter.unusedVariables false
set_option linter.unusedSimpArgs false
theorem int_key : Maps.Keyed Tryd.prog 3 := Maps.int_keyed Tryd.underlying3
theorem int_zero (w : World) : (zeroValue 3).run Tryd.prog w = .ok (.int .i64 0) w := by kernel_rfl
theorem lit_inj {a b : Int} (h : (.lit (.int .i64 a) : DataW Unit) = .lit (.int .i64 b)) : a = b := by injection h with h; injection h
theorem wf_of {x : Int} (h1 : 0 ≤ x) (h2 : x < 9223372036854775808) : (Lit.int .i64 x).wf = true := by simp [Lit.wf, IntKind.min, IntKind.max, IntKind.bits, IntKind.signed]; omega
/-- A map that tells how often each number is in a list. -/
def CntMap (D : DataW Unit) (l : List Int) : Prop := Maps.IsMap D ∧ ∀ o : Int, D.atKey (.int .i64 o) (.lit (.int .i64 0)) = .lit (.int .i64 (l.count o : Nat))
theorem CntMap.start : CntMap (.map []) [] := ⟨Maps.isMap_empty, fun o => rfl⟩
theorem CntMap.step {D : DataW Unit} {l : List Int} (h : CntMap D l) (x : Int) : CntMap (D.put (.int .i64 x) (.lit (.int .i64 ((l.count x : Nat) + 1)))) (l ++ [x]) := by
  refine ⟨h.1.put _ _, fun o => ?_⟩
  by_cases e : o = x
  · subst e
    rw [Maps.atKey_put_same h.1 (show WideAt.IsKeyLit (.int .i64 o) from trivial)]
    simp [List.count_append]
  · rw [Maps.atKey_put_other (fun g => e (by injection g)), h.2 o]
    have : (l ++ [x]).count o = l.count o := by rw [List.count_append]; simp [List.count_singleton, Ne.symm e]
    rw [this]
theorem CntMap.next {D : DataW Unit} {l : List Int} (h : CntMap D l) (x : Int) : ∃ (cy : Nat) (d : Int), l.count x = cy ∧ d = (cy : Int) + 1 ∧ D.atKey (.int .i64 x) (.lit (.int .i64 0)) = .lit (.int .i64 cy) ∧ CntMap (D.put (.int .i64 x) (.lit (.int .i64 d))) (l ++ [x]) ∧ (D.put (.int .i64 x) (.lit (.int .i64 d))).atKey (.int .i64 x) (.lit (.int .i64 0)) = .lit (.int .i64 d) ∧ cy ≤ l.length ∧ 1 ≤ d ∧ (l.length ≤ 1000 → d ≤ 1001 ∧ wrap64 ((cy : Int) + 1) = d ∧ (Lit.int .i64 d).wf = true) ∧ (cy = 0 ∨ (d == 1) = false) := by
  have hl : l.count x ≤ l.length := List.count_le_length
  refine ⟨l.count x, _, rfl, rfl, h.2 x, h.step x, Maps.atKey_put_same h.1 (show WideAt.IsKeyLit (.int .i64 x) from trivial) _ _, hl, by omega, fun g => ⟨by omega, by simp only [wrap64]; omega, wf_of (by omega) (by omega)⟩, ?_⟩
  by_cases e : l.count x = 0
  · exact .inl e
  · exact .inr (beq_eq_false_iff_ne.2 (by omega))
/-- The owners of the first c chunks that are no 0. -/
def nzO (own : List Int) (c : Nat) : List Int := (own.take c).filter fun x => x != 0
theorem take_snoc {own : List Int} {c : Nat} (h : c < own.length) : own.take (c + 1) = own.take c ++ [own.getD c 0] := by rw [List.take_add_one]; simp [List.getD, h]
theorem nzO_yes {own : List Int} {c : Nat} (h : c < own.length) (h0 : own.getD c 0 ≠ 0) : nzO own (c + 1) = nzO own c ++ [own.getD c 0] := by
  unfold nzO; rw [take_snoc h, List.filter_append]; simp [h0, - List.getD_eq_getElem?_getD]
theorem nzO_no {own : List Int} {c : Nat} (h : c < own.length) (h0 : own.getD c 0 = 0) : nzO own (c + 1) = nzO own c := by
  unfold nzO; rw [take_snoc h, List.filter_append]; simp [h0, - List.getD_eq_getElem?_getD]
theorem nzO_le (own : List Int) (c : Nat) : (nzO own c).length ≤ c := by
  have := List.length_filter_le (fun x : Int => x != 0) (own.take c)
  have h2 : (own.take c).length ≤ c := List.length_take_le _ _
  unfold nzO; omega
theorem nzO_count {own : List Int} {c : Nat} {o : Int} (ho : o ≠ 0) : (nzO own c).count o = 0 ↔ o ∉ own.take c := by
  rw [List.count_eq_zero]
  unfold nzO
  rw [List.mem_filter]
  constructor
  · intro h g; exact h ⟨g, by simpa using ho⟩
  · intro h g; exact h g.1
/-- How many chunks have an owner that was met among the first c. -/
def seenN (own : List Int) (c : Nat) : Nat := ((List.range own.length).filter fun j => decide (own.getD j 0 ≠ 0 ∧ own.getD j 0 ∈ own.take c)).length
theorem seen_zero (own : List Int) : seenN own 0 = 0 := by
  unfold seenN
  rw [List.length_eq_zero_iff, List.filter_eq_nil_iff]
  intro j _
  simp
theorem seen_old {own : List Int} {c : Nat} (hc : c < own.length) (h : own.getD c 0 = 0 ∨ own.getD c 0 ∈ own.take c) : seenN own (c + 1) = seenN own c := by
  unfold seenN
  congr 1
  refine List.filter_congr fun j _ => ?_
  rw [take_snoc hc]
  generalize own.getD c 0 = x at *
  generalize own.getD j 0 = y
  rw [decide_eq_decide, List.mem_append, List.mem_singleton]
  constructor
  · rintro ⟨h1, h2 | h2⟩
    · exact ⟨h1, h2⟩
    · subst h2
      exact h.elim (fun e => absurd e h1) (fun e => ⟨h1, e⟩)
  · rintro ⟨h1, h2⟩; exact ⟨h1, .inl h2⟩
theorem filter_or_len {α : Type} (p q : α → Bool) : ∀ l : List α, (∀ a ∈ l, ¬ (p a = true ∧ q a = true)) → (l.filter fun a => p a || q a).length = (l.filter p).length + (l.filter q).length
  | [], _ => rfl
  | a :: t, h => by
    have ih := filter_or_len p q t (fun b hb => h b (List.mem_cons_of_mem _ hb))
    have h0 := h a (by simp)
    simp only [List.filter_cons]
    cases hp : p a <;> cases hq : q a <;> simp_all <;> omega
theorem seen_new {own : List Int} {c : Nat} (hc : c < own.length) (h0 : own.getD c 0 ≠ 0) (h : own.getD c 0 ∉ own.take c) : seenN own (c + 1) = seenN own c + (ownedL own (own.getD c 0)).length := by
  rw [ownedL_eq h0]
  unfold seenN upO selO
  rw [← filter_or_len]
  · congr 1
    refine List.filter_congr fun j _ => ?_
    rw [take_snoc hc]
    generalize own.getD c 0 = x at *
    generalize own.getD j 0 = y
    rw [← Bool.decide_or, decide_eq_decide, List.mem_append, List.mem_singleton]
    constructor
    · rintro ⟨h1, h2 | h2⟩
      · exact .inl ⟨h1, h2⟩
      · exact .inr h2
    · rintro (⟨h1, h2⟩ | h2)
      · exact ⟨h1, .inl h2⟩
      · exact ⟨by rw [h2]; exact h0, .inr h2⟩
  · intro j _ ⟨h1, h2⟩
    have h1 := of_decide_eq_true h1
    have h2 := of_decide_eq_true h2
    rw [h2] at h1
    exact h h1.2
theorem seen_all (own : List Int) : freeN own + seenN own own.length = own.length := by
  rw [freeN_up]
  unfold seenN upO selO
  rw [← filter_or_len]
  · have : ((List.range own.length).filter fun a => decide (own.getD a 0 = 0) || decide (own.getD a 0 ≠ 0 ∧ own.getD a 0 ∈ own.take own.length)) = List.range own.length := by
      rw [List.filter_eq_self]
      intro j hj
      have hj' : j < own.length := by simpa using hj
      have hm : own.getD j 0 ∈ own := by
        have : own.getD j 0 = own[j] := by simp [List.getD, hj']
        rw [this]; exact List.getElem_mem hj'
      rw [List.take_length]
      by_cases h0 : own.getD j 0 = 0
      · simp [h0, - List.getD_eq_getElem?_getD]
      · simp [h0, hm, - List.getD_eq_getElem?_getD]
    rw [this, List.length_range]
  · intro j _ ⟨h1, h2⟩
    exact (of_decide_eq_true h2).1 (of_decide_eq_true h1)
theorem seen_le (own : List Int) (c : Nat) : seenN own c ≤ own.length := by
  have := List.length_filter_le (fun j => decide (own.getD j 0 ≠ 0 ∧ own.getD j 0 ∈ own.take c)) (List.range own.length)
  rw [List.length_range] at this
  exact this
theorem count_up (own : List Int) (o : Int) (c : Nat) : ∀ k, (upO own o k).count c = if c < k ∧ own.getD c 0 = o then 1 else 0
  | 0 => by simp [upO, selO]
  | k + 1 => by
    have ih := count_up own o c k
    by_cases h : own.getD k 0 = o
    · rw [upO_yes h, List.count_append, ih]
      by_cases e : c = k
      · subst e
        rw [if_neg (by omega), if_pos ⟨by omega, h⟩]; simp
      · have : [k].count c = 0 := by simp [List.count_singleton, Ne.symm e]
        rw [this]
        by_cases g : c < k ∧ own.getD c 0 = o
        · rw [if_pos g, if_pos ⟨by omega, g.2⟩]
        · rw [if_neg g, if_neg (fun g2 => g ⟨by omega, g2.2⟩)]
    · rw [upO_no h, ih]
      by_cases g : c < k ∧ own.getD c 0 = o
      · rw [if_pos g, if_pos ⟨by omega, g.2⟩]
      · rw [if_neg g, if_neg (fun g2 => g ⟨by
          have : c ≠ k := fun e => h (e ▸ g2.2)
          omega, g2.2⟩)]
theorem owned_once {own : List Int} {c : Nat} (hc : c < own.length) (h0 : own.getD c 0 ≠ 0) : (ownedL own (own.getD c 0)).count c = 1 := by
  rw [ownedL_eq h0, count_up, if_pos ⟨hc, rfl⟩]
theorem count_take_succ {L : List Nat} {c k : Nat} (h : k < L.length) : (L.take (k + 1)).count c = (L.take k).count c + if L.getD k 0 = c then 1 else 0 := by
  have e : L.getD k 0 = L[k] := by simp [List.getD, h]
  rw [List.take_succ_eq_append_getElem h, List.count_append, e, List.count_singleton]
  by_cases g : L[k] = c
  · simp [g]
  · simp [g]
end Go.Proofs.YtkaflgbipjppmaaDoor
