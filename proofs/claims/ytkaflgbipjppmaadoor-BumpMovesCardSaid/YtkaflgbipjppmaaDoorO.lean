/- Slices of whatever elements, read out of an argument: no program is imported. -/
import Derived.Deep.Slices
import Derived.Below
import Derived.WalkKit
import Derived.RowKit3
import Derived.Test.YtkaflgbipjppmaaDoorK
namespace Go.Proofs.YtkaflgbipjppmaaDoor
open Go.RowKit
set_option linter.unusedVariables false
/-- The cells of a slice's elements, each of them 'size' cells. -/
def SliceOf {α : Type} (w : World) (A : Option Addr) (size : Nat) (enc : α → List Value) (d : α) (l : List α) : Prop :=
  ∀ i, i < l.length → ∃ b o, A = some ⟨b, o, none⟩ ∧ ∀ j v, (enc (l.getD i d))[j]? = some v → w.cell? ⟨b, o + i * size + j, none⟩ = some v
theorem SliceOf.on {α : Type} {w w1 : World} {A : Option Addr} {size : Nat} {enc : α → List Value} {d : α} {l : List α} (h : SliceOf w A size enc d l) (hb : Below w.heap.size w w1) : SliceOf w1 A size enc d l := fun i hi => by
  obtain ⟨b, o, e, h1⟩ := h i hi
  exact ⟨b, o, e, fun j v hv => cell_on hb (h1 j v hv)⟩
theorem SliceOf.take {α : Type} {w : World} {A : Option Addr} {size : Nat} {enc : α → List Value} {d : α} {l : List α} (h : SliceOf w A size enc d l) (n : Nat) : SliceOf w A size enc d (l.take n) := fun i hi => by
  have hi' : i < n ∧ i < l.length := by simpa [List.length_take, Nat.lt_min] using hi
  obtain ⟨b, o, e, h1⟩ := h i hi'.2
  refine ⟨b, o, e, fun j v hv => h1 j v ?_⟩
  have : (l.take n).getD i d = l.getD i d := by simp [List.getD, hi'.1]
  rw [this] at hv; exact hv
section
variable {H : Type} {enc0 : TypeId × Value → H} {P : Program} {w : World} {base : Nat} {spare : Nat → Bool} {held : Bool}
theorem open_sliceOf {α : Type} {t e : TypeId} {size : Nat} (enc : α → List Value) (good : α → Prop) (d : α) {A : Option Addr} {len cap : Nat} {D : DataW H} {p : List MemPlace}
    (ht : P.underlying t = some (.slice e)) (hsz : P.cellsOf e = size) (hpos : 0 < size) (hs : ∀ a, (enc a).length = size)
    (hopen : ∀ fuel cs x, cs.length = size → DataW.trod enc0 P w base spare held fuel e cs = some x → ∃ a, cs = enc a ∧ good a)
    (h : DataW.Trod enc0 P w base spare held t (.slice A len cap) D p) :
    ∃ l : List α, l.length = len ∧ len ≤ cap ∧ len ≤ maxLen ∧ (∀ x ∈ l, good x) ∧ SliceOf w A size enc d l := by
  obtain ⟨fuel, hf⟩ := h
  rcases Deep.open_slice ht hf with ⟨hcs, _⟩ | ⟨a, len', cap', m, n, D', Pl, hcs, hb, hl, hm, hmm, _, hx⟩
  · simp [Value.cells] at hcs
    obtain ⟨rfl, rfl, rfl⟩ := hcs
    exact ⟨[], rfl, Nat.le_refl _, by simp, by simp, fun i hi => by simp at hi⟩
  · simp [Value.cells] at hcs
    obtain ⟨rfl, rfl, rfl⟩ := hcs
    have hlm : len ≤ m := by rw [hmm]; split <;> omega
    have hk : ∀ i, i < len → ∃ x, good x ∧ ∀ j v, (enc x)[j]? = some v → w.cell? (a.add (i * size + j)) = some v := fun i hi => by
      obtain ⟨cs', h1, h2⟩ := hx i (by omega)
      rw [hsz] at h1
      obtain ⟨_, hlen, hc⟩ := World.cells?_some h1
      obtain ⟨x, rfl, hg⟩ := hopen _ _ _ hlen h2
      refine ⟨x, hg, fun j v hv => ?_⟩
      have hj : j < size := by have := (List.getElem?_eq_some_iff.1 hv).1; rw [hs] at this; exact this
      have := hc j hj
      rw [Deep.add_add] at this
      rw [this, hv]
    have hlist : ∃ l : List α, l.length = len ∧ ∀ i, i < len → good (l.getD i d) ∧ ∀ j v, (enc (l.getD i d))[j]? = some v → w.cell? (a.add (i * size + j)) = some v := by
      refine ⟨(List.range len).map (fun i => if h : i < len then Classical.choose (hk i h) else d), by simp, fun i hi => ?_⟩
      have hget : ((List.range len).map (fun i => if h : i < len then Classical.choose (hk i h) else d)).getD i d = Classical.choose (hk i hi) := by
        simp [List.getD, hi]
      rw [hget]
      exact Classical.choose_spec (hk i hi)
    obtain ⟨l, hll, hall⟩ := hlist
    refine ⟨l, hll, hl, by omega, ?_, ?_⟩
    · intro x hx'
      obtain ⟨i, hi, rfl⟩ := List.getElem_of_mem hx'
      have := (hall i (by omega)).1
      simpa [List.getD, hi] using this
    · intro i hi
      have h0 := (hall i (by omega)).2
      have hs0 : ∃ v, (enc (l.getD i d))[0]? = some v := ⟨_, List.getElem?_eq_getElem (by rw [hs]; exact hpos)⟩
      obtain ⟨v0, hv0⟩ := hs0
      have hc0 := h0 0 v0 hv0
      -- the place has no spot
      have hspot : a.spot = none := by
        have h00 := (hall 0 (by omega)).2
        obtain ⟨u0, hu0⟩ : ∃ v, (enc (l.getD 0 d))[0]? = some v := ⟨_, List.getElem?_eq_getElem (by rw [hs]; exact hpos)⟩
        have := h00 0 u0 hu0
        simpa [Addr.add] using World.cell?_spot this
      obtain ⟨b, o, spot⟩ := a
      simp only at hspot
      subst hspot
      refine ⟨b, o, rfl, fun j v hv => ?_⟩
      have := h0 j v hv
      have hadd : (⟨b, o, none⟩ : Addr).add (i * size + j) = ⟨b, o + i * size + j, none⟩ := by unfold Addr.add; split <;> simp <;> omega
      rw [hadd] at this; exact this
end
/-- What the call owns stays through a callee that turns nothing. -/
theorem own_on {w w1 : World} {base : Nat} {e : TypeId} {size n : Nat} {v : Value} {xs : List Value} (h : w.ownsRow base e size v n xs) (hb : Below w.heap.size w w1) : w1.ownsRow base e size v n xs := by
  obtain ⟨h1, h2⟩ := h
  refine ⟨h1, ?_⟩
  rcases h2 with h2 | ⟨g, cap, cur, hv, hg, hh, r⟩
  · exact .inl h2
  · have hlt : g < w.heap.size := by
      rcases Nat.lt_or_ge g w.heap.size with q | q
      · exact q
      · rw [Array.getElem?_eq_none q] at hh; cases hh
    exact .inr ⟨g, cap, cur, hv, hg, (hb.block g hlt).trans hh, r⟩
theorem flatMap_get {α : Type} (enc : α → List Value) (size : Nat) (hs : ∀ a, (enc a).length = size) (d : α) : ∀ (l : List α) (i j : Nat) (v : Value), i < l.length → (enc (l.getD i d))[j]? = some v → (l.flatMap enc)[i * size + j]? = some v
  | a :: t, 0, j, v, _, h => by
    have hj : j < (enc a).length := (List.getElem?_eq_some_iff.1 h).1
    simp only [List.flatMap_cons, Nat.zero_mul, Nat.zero_add]
    rw [List.getElem?_append_left hj]; exact h
  | a :: t, i + 1, j, v, hi, h => by
    have := flatMap_get enc size hs d t i j v (by simpa using hi) (by simpa using h)
    simp only [List.flatMap_cons]
    rw [List.getElem?_append_right (by rw [hs, Nat.succ_mul]; omega), hs, Nat.succ_mul, show i * size + size + j - size = i * size + j by omega]
    exact this
theorem own_slice {α : Type} {w : World} {base : Nat} {e : TypeId} {size : Nat} {v : Value} {l : List α} (enc : α → List Value) (d : α) (hs : ∀ a, (enc a).length = size) (h : w.ownsRow base e size v l.length (l.flatMap enc)) :
    ∃ A c, v = .slice A l.length c ∧ l.length ≤ c ∧ SliceOf w A size enc d l := by
  rcases h.2 with ⟨hv, h0⟩ | ⟨g, cap, cur, hv, hg, hh, hnc, hcm, hsz, htake⟩
  · exact ⟨none, 0, by rw [hv, h0], by omega, fun i hi => by omega⟩
  · refine ⟨_, cap, hv, hnc, fun i hi => ⟨g, 0, rfl, fun j v hv => ?_⟩⟩
    have h1 := flatMap_get enc size hs d l i j v hi hv
    rw [← htake] at h1
    have h2 : cur.toList[i * size + j]? = some v := by
      rw [List.getElem?_take] at h1
      split at h1
      · exact h1
      · cases h1
    unfold World.cell?
    simp only [hh, Nat.zero_add]
    simpa using h2
end Go.Proofs.YtkaflgbipjppmaaDoor
