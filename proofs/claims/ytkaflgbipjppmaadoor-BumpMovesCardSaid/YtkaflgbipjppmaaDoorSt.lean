/- A store in plain words. -/
import Derived.Test.YtkaflgbipjppmaaDoorBw
import Derived.Test.YtkaflgbipjppmaaDoorRunL
import Derived.Laws.CopyOwn
namespace Go.Proofs.YtkaflgbipjppmaaDoor
open Go.RowKit
set_option linter.unusedVariables false
variable {w w' : World} {B Wb Ob p q size : Nat} {W W' own own' : List Int}
def busy (o : Int) : Bool := decide (o ≠ 0)
def wordV (x : Int) : Value := .int .u64 x
def ownV (x : Int) : Value := .int .i64 x
structure StoreAt (w : World) (B Wb Ob p q : Nat) (W : List Int) (size : Nat) (own : List Int) : Prop where
  head : w.heap[B]? = some (.cells #[.slice (some ⟨Wb, 0, none⟩) W.length W.length, .int .i64 size, .slice (some ⟨Ob, 0, none⟩) own.length own.length, .pointer (some ⟨p, 0, none⟩)] 96 (0, 0))
  body : w.heap[Wb]? = some (.cells (W.map wordV).toArray 46 (0, 0))
  owners : w.heap[Ob]? = some (.cells (own.map ownV).toArray 3 (0, 0))
  map : ∃ u, MapAt w p q (own.map busy) u 122 46
  hW : W.length = own.length * size
  s1 : 1 ≤ size
  s2 : size ≤ 1024
  o1 : 1 ≤ own.length
  o2 : own.length ≤ 1024
  pos : ∀ o ∈ own, 0 ≤ o
  n1 : B ≠ Wb
  n2 : B ≠ Ob
  n3 : B ≠ p
  n4 : B ≠ q
  n5 : Wb ≠ Ob
  n6 : Wb ≠ p
  n7 : Wb ≠ q
  n8 : Ob ≠ p
  n9 : Ob ≠ q
def Five (B Wb Ob p q : Nat) (k : Nat) : Prop := k = B ∨ k = Wb ∨ k = Ob ∨ k = p ∨ k = q
/-- What the calls of a store turn: its words, its owners, its map. -/
def Four3 (Wb Ob p q : Nat) (k : Nat) : Prop := k = Wb ∨ k = Ob ∨ k = p ∨ k = q
theorem StoreAt.wlen (h : StoreAt w B Wb Ob p q W size own) : W.length ≤ 1048576 := by
  rw [h.hW]
  exact Nat.le_trans (Nat.mul_le_mul h.o2 h.s2) (by decide)
theorem StoreAt.mod {P : Nat → Prop} (h : StoreAt w B Wb Ob p q W size own) (hm : Mod P w w') (hn : ∀ k, Five B Wb Ob p q k → ¬ P k) : StoreAt w' B Wb Ob p q W size own := by
  obtain ⟨u, hu⟩ := h.map
  exact { h with head := hm.keeps h.head (hn _ (.inl rfl)), body := hm.keeps h.body (hn _ (.inr (.inl rfl))), owners := hm.keeps h.owners (hn _ (.inr (.inr (.inl rfl)))), map := ⟨u, hu.mod hm (hn _ (.inr (.inr (.inr (.inl rfl))))) (hn _ (.inr (.inr (.inr (.inr rfl)))))⟩ }
theorem StoreAt.on (h : StoreAt w B Wb Ob p q W size own) (hb : Below w.heap.size w w') : StoreAt w' B Wb Ob p q W size own := h.mod (P := fun _ => False) (.of_below hb) (fun _ _ x => x)
theorem StoreAt.c0 (h : StoreAt w B Wb Ob p q W size own) : w.cell? ⟨B, 0, none⟩ = some (.slice (some ⟨Wb, 0, none⟩) W.length W.length) := (blk_cells h.head 0).trans rfl
theorem StoreAt.c1 (h : StoreAt w B Wb Ob p q W size own) : w.cell? ⟨B, 1, none⟩ = some (.int .i64 size) := (blk_cells h.head 1).trans rfl
theorem StoreAt.c2 (h : StoreAt w B Wb Ob p q W size own) : w.cell? ⟨B, 2, none⟩ = some (.slice (some ⟨Ob, 0, none⟩) own.length own.length) := (blk_cells h.head 2).trans rfl
theorem StoreAt.c3 (h : StoreAt w B Wb Ob p q W size own) : w.cell? ⟨B, 3, none⟩ = some (.pointer (some ⟨p, 0, none⟩)) := (blk_cells h.head 3).trans rfl
theorem row_cell {w : World} {b : Nat} {xs : List Value} {t : TypeId} (h : w.heap[b]? = some (.cells xs.toArray t (0, 0))) (i : Nat) : w.cell? ⟨b, i, none⟩ = xs[i]? := by rw [blk_cells h i]; simp
theorem StoreAt.own_cell (h : StoreAt w B Wb Ob p q W size own) (i : Nat) (hi : i < own.length) : w.cell? ⟨Ob, i, none⟩ = some (.int .i64 (own.getD i 0)) := by
  rw [row_cell h.owners i]
  simp [List.getD, hi, ownV]
theorem StoreAt.word_cell (h : StoreAt w B Wb Ob p q W size own) (i : Nat) (hi : i < W.length) : w.cell? ⟨Wb, i, none⟩ = some (.int .u64 (W.getD i 0)) := by
  rw [row_cell h.body i]
  simp [List.getD, hi, wordV]
/-- The owners when n from a on are o's. -/
def fillO (own : List Int) (a : Nat) (o : Int) : Nat → List Int
  | 0 => own
  | n + 1 => (fillO own a o n).set (a + n) o
theorem fillO_length (own : List Int) (a : Nat) (o : Int) : ∀ n, (fillO own a o n).length = own.length
  | 0 => rfl
  | n + 1 => by show (List.set _ _ _).length = _; rw [List.length_set, fillO_length own a o n]
theorem fillO_busy (own : List Int) (a : Nat) (o : Int) (ho : o ≠ 0) : ∀ n, (fillO own a o n).map busy = fillL (own.map busy) a true n
  | 0 => rfl
  | n + 1 => by
    show (List.set _ _ _).map busy = List.set _ _ _
    rw [List.map_set, fillO_busy own a o ho n]
    simp [busy, ho]
theorem fillO_getD (own : List Int) (a : Nat) (o : Int) (i : Nat) : ∀ n, a + n ≤ own.length → (fillO own a o n).getD i 0 = if a ≤ i ∧ i < a + n then o else own.getD i 0
  | 0, _ => by rw [if_neg (by omega)]; rfl
  | n + 1, h => by
    have hl := fillO_length own a o n
    show ((fillO own a o n).set (a + n) o).getD i 0 = _
    by_cases hi : i = a + n
    · subst hi
      rw [if_pos (by omega)]
      simp [List.getD, hl, show a + n < own.length by omega]
    · have : ((fillO own a o n).set (a + n) o).getD i 0 = (fillO own a o n).getD i 0 := by simp [List.getD, show ¬ a + n = i by omega]
      rw [this, fillO_getD own a o i n (by omega)]
      by_cases h1 : a ≤ i ∧ i < a + n
      · rw [if_pos h1, if_pos (by omega)]
      · rw [if_neg h1, if_neg (by omega)]
theorem fillO_pos (own : List Int) (a : Nat) (o : Int) (ho : 0 ≤ o) (h : ∀ x ∈ own, 0 ≤ x) : ∀ n, ∀ x ∈ fillO own a o n, 0 ≤ x
  | 0 => h
  | n + 1 => fun x hx => by
    rcases List.mem_or_eq_of_mem_set hx with g | g
    · exact fillO_pos own a o ho h n x g
    · rw [g]; exact ho
/-- The words when n from a on are 0. -/
def zeroW (W : List Int) (a n : Nat) : List Int := splice W a (List.replicate n 0)
theorem zeroW_length (W : List Int) (a n : Nat) (h : a + n ≤ W.length) : (zeroW W a n).length = W.length := length_splice _ _ _ (by simpa using h)
theorem zeroW_map (W : List Int) (a n : Nat) : (zeroW W a n).map wordV = splice (W.map wordV) a (List.replicate n (.int .u64 0)) := by
  unfold zeroW splice
  simp [List.map_take, List.map_drop, wordV]
theorem splice_getD {W cs : List Int} {a : Nat} (h : a + cs.length ≤ W.length) (i : Nat) : (splice W a cs).getD i 0 = if a ≤ i ∧ i < a + cs.length then cs.getD (i - a) 0 else W.getD i 0 := by
  unfold splice
  have hmin : min a W.length = a := by omega
  simp only [List.getD, List.getElem?_append, List.getElem?_take, List.length_take, List.getElem?_drop, hmin]
  by_cases h1 : i < a
  · rw [if_pos h1, if_pos h1, if_neg (by omega)]
  · by_cases h2 : i < a + cs.length
    · rw [if_neg h1, if_pos (by omega), if_pos (by omega)]
    · rw [if_neg h1, if_neg (by omega), if_neg (by omega)]
      congr 2
      omega
theorem zeroW_getD {W : List Int} {a n : Nat} (h : a + n ≤ W.length) (i : Nat) : (zeroW W a n).getD i 0 = if a ≤ i ∧ i < a + n then 0 else W.getD i 0 := by
  unfold zeroW
  rw [splice_getD (by simpa using h), List.length_replicate]
  split
  · simp [List.getD, List.getElem?_replicate]; split <;> rfl
  · rfl
/-- How many are free. -/
def freeN (own : List Int) : Nat := own.length - many (own.map busy)
/-- The first of n free ones in a row, whether there is one. -/
noncomputable def runAtO (own : List Int) (n : Nat) : Nat × Bool := runL n (own.map busy) 0
end Go.Proofs.YtkaflgbipjppmaaDoor
