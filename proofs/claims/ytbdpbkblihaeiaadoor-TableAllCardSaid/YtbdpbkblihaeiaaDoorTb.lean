/- A table in memory, in plain words. No program is imported. -/
import Derived.Test.YtbdpbkblihaeiaaDoorBm
import Derived.Test.YtbdpbkblihaeiaaDoorO
namespace Go.Proofs.YtbdpbkblihaeiaaDoor
open Go.RowKit
set_option linter.unusedVariables false
set_option linter.unusedSimpArgs false
structure Entry where
  addr : Int
  region : Int
  held : Bool
  pinned : Bool
  deriving DecidableEq
def noEntry : Entry := ⟨0, 0, false, false⟩
structure Slot where
  gen : Nat
  used : Bool
  e : Entry
  deriving DecidableEq
def slot0 : Slot := ⟨0, false, noEntry⟩
def slotV (s : Slot) : List Value := [.int .i64 (s.gen : Nat), .bool s.used, .int .i64 s.e.addr, .int .i64 s.e.region, .bool s.e.held, .bool s.e.pinned]
def retired (s : Slot) : Bool := !s.used && s.gen == 255
def taken (s : Slot) : Bool := s.used || s.gen == 255
theorem flatMap_set {α : Type} (enc : α → List Value) (size : Nat) (hs : ∀ a, (enc a).length = size) (d : α) : ∀ (l : List α) (i j : Nat) (v : Value) (x : α), i < l.length → j < size → enc x = (enc (l.getD i d)).set j v → (l.flatMap enc).set (i * size + j) v = (l.set i x).flatMap enc
  | a :: t, 0, j, v, x, _, hj, h => by
    simp only [List.flatMap_cons, Nat.zero_mul, Nat.zero_add, List.set_cons_zero]
    rw [List.set_append_left _ _ (by rw [hs]; exact hj)]
    have : enc x = (enc a).set j v := h
    rw [this]
  | a :: t, i + 1, j, v, x, hi, hj, h => by
    have ih := flatMap_set enc size hs d t i j v x (by simpa using hi) hj (by simpa using h)
    simp only [List.flatMap_cons, List.set_cons_succ]
    rw [List.set_append_right _ _ (by rw [hs, Nat.succ_mul]; omega), hs, Nat.succ_mul, show i * size + size + j - size = i * size + j by omega, ih]
/-- The table's three blocks and its bitmap's two. -/
structure TableAt (w : World) (B S p q : Nat) (l : List Slot) (tB tS T T' : TypeId) : Prop where
  head : w.heap[B]? = some (.cells #[.slice (some ⟨S, 0, none⟩) l.length l.length, .pointer (some ⟨p, 0, none⟩), .int .i64 ((l.filter retired).length : Nat)] tB (0, 0))
  body : w.heap[S]? = some (.cells (l.flatMap slotV).toArray tS (0, 0))
  map : ∃ ws, MapAt w p q (l.map taken) ws T T'
  gen : ∀ s ∈ l, s.gen ≤ 255
  BS : B ≠ S
  Bp : B ≠ p
  Bq : B ≠ q
  Sp : S ≠ p
  Sq : S ≠ q
  le : l.length ≤ 4096
variable {w w' : World} {B S p q : Nat} {l : List Slot} {tB tS T T' : TypeId}
theorem TableAt.slots (h : TableAt w B S p q l tB tS T T') : w.cell? ⟨B, 0, none⟩ = some (.slice (some ⟨S, 0, none⟩) l.length l.length) := (blk_cells h.head 0).trans rfl
theorem TableAt.bits (h : TableAt w B S p q l tB tS T T') : w.cell? ⟨B, 1, none⟩ = some (.pointer (some ⟨p, 0, none⟩)) := (blk_cells h.head 1).trans rfl
theorem TableAt.gone (h : TableAt w B S p q l tB tS T T') : w.cell? ⟨B, 2, none⟩ = some (.int .i64 ((l.filter retired).length : Nat)) := (blk_cells h.head 2).trans rfl
theorem TableAt.cell (h : TableAt w B S p q l tB tS T T') (i : Nat) (hi : i < l.length) (j : Nat) (v : Value) (hv : (slotV (l.getD i slot0))[j]? = some v) : w.cell? ⟨S, i * 6 + j, none⟩ = some v := by
  rw [blk_cells h.body (i * 6 + j)]
  have := flatMap_get slotV 6 (fun _ => rfl) slot0 l i j v hi hv
  simpa using this
theorem TableAt.mod (h : TableAt w B S p q l tB tS T T') {P : Nat → Prop} (hm : Mod P w w') (hB : ¬ P B) (hS : ¬ P S) (hp : ¬ P p) (hq : ¬ P q) : TableAt w' B S p q l tB tS T T' := by
  obtain ⟨ws, hw⟩ := h.map
  exact { h with head := hm.keeps h.head hB, body := hm.keeps h.body hS, map := ⟨ws, hw.mod hm hp hq⟩ }
theorem TableAt.on (h : TableAt w B S p q l tB tS T T') (hb : Below w.heap.size w w') : TableAt w' B S p q l tB tS T T' := h.mod (P := fun _ => False) (.of_below hb) (fun x => x) (fun x => x) (fun x => x) (fun x => x)
/-- Is a token no stale one? -/
def freshT (l : List Slot) (i g : Int) : Bool := decide (0 ≤ i) && decide (i < l.length) && (l.getD i.toNat slot0).used && decide (((l.getD i.toNat slot0).gen : Int) = g)
end Go.Proofs.YtbdpbkblihaeiaaDoor
