/- same: does a table tell what the document's has: a walk. -/
import Derived.Test.YtbdpbkblihaeiaaDoorRx
import Derived.Test.YtbdpbkblihaeiaaDoorTk
namespace Go.Proofs.YtbdpbkblihaeiaaDoor
open Go.RowKit Go.Shelf
set_option linter.unusedVariables false
set_option linter.unusedSimpArgs false
attribute [local go_sem] Oper.semAt_some
variable {w w' base : World} {B S p q bd G : Nat} {l r : List Slot} {v : Value} {told : List (Int × Int)}
theorem counts_ref : ∀ l : List Slot, (∀ s ∈ l, s.gen ≤ 255) → cU (l.map refOf) = usedN l ∧ cG (l.map refOf) = goneN l ∧ cL (l.map refOf) + (usedN l + goneN l) = l.length
  | [], _ => ⟨rfl, rfl, rfl⟩
  | s :: t, h => by
    obtain ⟨h1, h2, h3⟩ := counts_ref t (fun x hx => h x (List.mem_cons_of_mem _ hx))
    have hs := h s List.mem_cons_self
    unfold cU cG cL usedN goneN at *
    have e1 : ∀ (p : Slot → Bool) (x : Slot) (u : List Slot), (List.filter p (x :: u)).length = (if p x = true then 1 else 0) + (List.filter p u).length := fun p x u => by
      rw [List.filter_cons]; split <;> simp <;> omega
    rw [List.map_cons, e1, e1, e1, e1, e1, h1, h2, List.length_cons, ← h3]
    by_cases hu : s.used = true
    · have a1 : (refOf s).used = true := hu
      have a2 : retired s = false := by unfold retired; rw [hu]; rfl
      simp [a1, a2, hu]; omega
    · have hu' : s.used = false := by simpa using hu
      have a1 : (refOf s).used = false := hu'
      have a3 : (refOf s).gen = s.gen + 1 := by unfold refOf; rw [hu']; rfl
      by_cases hg : s.gen = 255
      · have a2 : retired s = true := by unfold retired; rw [hu', hg]; rfl
        simp [a1, a2, a3, hu', hg]; omega
      · have a2 : retired s = false := by unfold retired; rw [hu']; simp [hg]
        have a4 : s.gen + 1 ≤ 255 := by omega
        simp [a1, a2, a3, a4, hu']; omega
theorem range_get (l : List Slot) : (List.range l.length).map (fun i => l.getD i slot0) = l :=
  slots_ext (by simp) (fun i hi => by
    have hi' : i < l.length := by simpa using hi
    simp [List.getD, hi'])
theorem toks_range (l : List Slot) : toks l = (List.range l.length).filterMap (tokOf l) := by
  unfold toks toksTo ones onesTo
  rw [List.length_map]
  generalize hR : List.range l.length = R
  have hm : ∀ i ∈ R, i < l.length := fun i hi => by rw [← hR] at hi; exact List.mem_range.1 hi
  clear hR
  induction R with
  | nil => rfl
  | cons i R ih =>
    have hi := hm i List.mem_cons_self
    have ih := ih (fun j hj => hm j (List.mem_cons_of_mem _ hj))
    have e : (l.map taken).getD i false = taken (l.getD i slot0) := by simp [List.getD, hi]
    rw [List.filter_cons, e, List.filterMap_cons]
    cases ht : taken (l.getD i slot0) with
    | true =>
      rw [if_pos rfl, List.filterMap_cons, ih]
    | false =>
      have hu : (l.getD i slot0).used = false := by
        unfold taken at ht
        cases h : (l.getD i slot0).used
        · rfl
        · rw [h] at ht; simp at ht
      have hn : tokOf l i = none := by unfold tokOf; rw [hu]; rfl
      rw [hn, if_neg (by decide), ih]
theorem used_toks (l : List Slot) : (toks l).length = usedN l := by
  rw [toks_range, List.length_filterMap_eq_countP]
  have h1 : (List.range l.length).countP (fun i => (tokOf l i).isSome) = ((List.range l.length).map (fun i => l.getD i slot0)).countP (·.used) := by
    rw [List.countP_map]
    refine List.countP_congr fun i _ => ?_
    unfold tokOf
    cases h : (l.getD i slot0).used <;> simp [h, - List.getD_eq_getElem?_getD]
  rw [h1, range_get]
  unfold usedN
  rw [List.countP_eq_length_filter]
theorem mem_toks {x : Int × Int × Entry} (h : x ∈ toks l) : ∃ k : Nat, k < l.length ∧ (l.getD k slot0).used = true ∧ x = (((k : Nat) : Int), (((l.getD k slot0).gen : Nat) : Int), (l.getD k slot0).e) := by
  rw [toks_range] at h
  obtain ⟨k, hk, he⟩ := List.mem_filterMap.1 h
  unfold tokOf at he
  split at he
  · rename_i hu
    exact ⟨k, List.mem_range.1 hk, hu, (Option.some.inj he).symm⟩
  · cases he
theorem toks_rise (l : List Slot) : (toks l).Pairwise (fun x y => x.1 < y.1) := by
  rw [toks_range]
  refine List.Pairwise.filterMap _ ?_ (List.pairwise_lt_range (n := l.length))
  intro i j hij x hx y hy
  unfold tokOf at hx hy
  split at hx
  · split at hy
    · cases hx; cases hy; show (i : Int) < (j : Int); omega
    · cases hy
  · cases hx
/-- The index that was told last. -/
def lastI (pre : List (Int × Int × Entry)) : Int := match pre.getLast? with
  | some x => x.1
  | none => -1
theorem lastI_snoc (pre : List (Int × Int × Entry)) (x : Int × Int × Entry) : lastI (pre ++ [x]) = x.1 := by unfold lastI; simp
theorem lastI_lt {pre : List (Int × Int × Entry)} {x : Int × Int × Entry} (h : (pre ++ [x]) <+: toks l) : lastI pre < x.1 ∧ x ∈ toks l := by
  have hx : x ∈ toks l := h.subset (by simp)
  refine ⟨?_, hx⟩
  obtain ⟨k, _, _, e⟩ := mem_toks hx
  unfold lastI
  cases hp : pre.getLast? with
  | none => rw [e]; show (-1 : Int) < (k : Int); omega
  | some z =>
    have hz : z ∈ pre := List.mem_of_getLast? hp
    have hs := (toks_rise l).sublist h.sublist
    exact (List.pairwise_append.1 hs).2.2 z hz x (by simp)
end Go.Proofs.YtbdpbkblihaeiaaDoor
