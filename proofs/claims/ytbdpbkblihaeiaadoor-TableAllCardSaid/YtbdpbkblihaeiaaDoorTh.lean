/- The document's example of a table: a walk. -/
import Derived.Test.YtbdpbkblihaeiaaDoorTg
namespace Go.Proofs.YtbdpbkblihaeiaaDoor
open Go.RowKit
set_option linter.unusedVariables false
set_option linter.unusedSimpArgs false
variable {w w' base : World} {B S p q bd : Nat} {l : List Slot} {v : Value} {told : List (Int × Int)}
theorem first_at {bits : List Bool} {k : Nat} (h : k < bits.length) (hk : bits.getD k false = false) (hj : ∀ j, j < k → bits.getD j false = true) : FirstL bits 0 = (k, true) := by
  rcases first_cases bits 0 with ⟨s, h1, h2, h3, h4⟩ | ⟨h1, h2⟩
  · rw [h1]
    rcases Nat.lt_trichotomy s k with g | g | g
    · rw [hj s g] at h4; cases h4
    · rw [g]
    · have := seek_between (b := false) (bits := bits) (Nat.zero_le k) (by rw [h2]; exact g)
      rw [hk] at this; simp at this
  · have := seek_between (b := false) (bits := bits) (Nat.zero_le k) (by rw [h2]; exact h)
    rw [hk] at this; simp at this
theorem first_free {k : Nat} (h : k < l.length) (hk : taken (l.getD k slot0) = false) (hj : ∀ j, j < k → taken (l.getD j slot0) = true) : FirstL (l.map taken) 0 = (k, true) := by
  have e : ∀ j, j < l.length → (l.map taken).getD j false = taken (l.getD j slot0) := fun j g => by simp [List.getD, g]
  exact first_at (by simpa using h) ((e k h).trans hk) (fun j g => (e j (by omega)).trans (hj j g))
theorem addT_at {k : Nat} {e : Entry} (h : k < l.length) (hk : taken (l.getD k slot0) = false) (hj : ∀ j, j < k → taken (l.getD j slot0) = true) : addT l e = addL l k e ∧ addTok l = (((k : Nat) : Int), (((l.getD k slot0).gen + 1 : Nat) : Int)) ∧ addErr l = 0 := by
  unfold addT addTok addErr
  rw [first_free h hk hj]
  exact ⟨rfl, rfl, rfl⟩
def e5 : Entry := ⟨5, 0, false, false⟩
def e6 : Entry := ⟨6, 0, false, false⟩
def e7 : Entry := ⟨7, 0, false, false⟩
def al0 : List Slot := [slot0, slot0, slot0, slot0]
def al1 : List Slot := [⟨1, true, e5⟩, slot0, slot0, slot0]
def al2 : List Slot := [⟨1, true, e5⟩, ⟨1, true, e6⟩, slot0, slot0]
def al3 : List Slot := [⟨1, false, noEntry⟩, ⟨1, true, e6⟩, slot0, slot0]
def al4 : List Slot := [⟨2, true, e7⟩, ⟨1, true, e6⟩, slot0, slot0]
theorem al_1 : addT al0 e5 = al1 ∧ addTok al0 = (0, 1) ∧ addErr al0 = 0 := addT_at (l := al0) (k := 0) (by decide) (by decide) (fun j h => by omega)
theorem al_2 : addT al1 e6 = al2 ∧ addTok al1 = (1, 1) ∧ addErr al1 = 0 := addT_at (l := al1) (k := 1) (by decide) (by decide) (fun j h => by rw [show j = 0 by omega]; rfl)
theorem al_3 : dropT al2 0 1 = al3 ∧ errI al2 0 1 = 0 := by decide
theorem al_4 : addT al3 e7 = al4 ∧ addTok al3 = (0, 2) ∧ addErr al3 = 0 := addT_at (l := al3) (k := 0) (by decide) (by decide) (fun j h => by omega)
theorem al_5 : getE al4 0 1 = noEntry ∧ errI al4 0 1 = 8 := by decide
theorem al_6 : getE al4 0 2 = e7 ∧ errI al4 0 2 = 0 := by decide
theorem hi_cell {b o : Nat} {x : Value} (hm : Mod (fun k => k < bd) w w') (h : w.cell? ⟨b, o, none⟩ = some x) (hb : bd ≤ b) : w'.cell? ⟨b, o, none⟩ = some x := hm.cell h (fun e => by have e' : b < bd := e; omega)
theorem TS.put (h : TS base w B S p q bd l v told) (o : Obj) : TS base (w.alloc o) B S p q bd l v told := h.on (below1 w o)
/-- A pair of cells in a block of bd and above. -/
def Pair (bd : Nat) (w : World) (b : Nat) (x y : Int) : Prop := bd ≤ b ∧ b < w.heap.size ∧ w.cell? ⟨b, 0, none⟩ = some (.int .i64 x) ∧ w.cell? ⟨b, 1, none⟩ = some (.int .i64 y)
theorem Pair.new (hb : bd ≤ w.heap.size) (x y : Int) (t : TypeId) : Pair bd (w.alloc (.cells #[.int .i64 x, .int .i64 y] t)) w.heap.size x y :=
  ⟨hb, by simp, (blk_cells (heap_alloc_new w _) 0).trans rfl, (blk_cells (heap_alloc_new w _) 1).trans rfl⟩
theorem Pair.on {b : Nat} {x y : Int} (h : Pair bd w b x y) (hm : Mod (fun k => k < bd) w w') : Pair bd w' b x y := ⟨h.1, Nat.lt_of_lt_of_le h.2.1 hm.size, hi_cell hm h.2.2.1 h.1, hi_cell hm h.2.2.2 h.1⟩
theorem Pair.put {b : Nat} {x y : Int} (h : Pair bd w b x y) (o : Obj) : Pair bd (w.alloc o) b x y := h.on (.of_below (below1 w o))
set_option maxRecDepth 100000 in
set_option maxHeartbeats 1000000 in
theorem alive7_any (hT : Tab w) : Calls Tryd.prog 31 #[] w fun e w' => e = .returned (.bool true) ∧ Below w.heap.size w w' := by
  have HT := Lib.hid hT
  have h0 : 0 < w.heap.size := lt_of_cell (hT 0 (by decide))
  clear hT
  go_enter Tryd.func31, Tryd.ntmps31
  go_wp2_with fail
  refine (tnew_ts 4 w (by decide) (by decide)).mono ?_
  rintro e w1 ⟨B, S, p, q, rfl, hS⟩
  have HS1 : Hid (TS w w1 B S p q w1.heap.size al0 (.slice none 0 0) []) := Lib.hid hS
  generalize w1.heap.size = bd at *
  clear hS
  go_wp2_with fail
  refine (HS1.out.add HT.out h0 e5).mono ?_
  rintro e w2 ⟨rfl, hS, hm⟩
  rw [al_1.1] at hS
  rw [al_1.2.1, al_1.2.2]
  have HS2 := Lib.hid (hS.put (.cells #[.int .i64 0, .int .i64 1] 57))
  have HA2 := Lib.hid (Pair.new hS.le 0 1 57)
  clear hS hm HS1
  unfold tokV
  go_wp2_with fail
  refine (HS2.out.add HT.out h0 e6).mono ?_
  rintro e w3 ⟨rfl, hS, hm⟩
  rw [al_2.1] at hS
  rw [al_2.2.1, al_2.2.2]
  have HS3 := Lib.hid (hS.put (.cells #[.int .i64 1, .int .i64 1] 57))
  have HB3 := Lib.hid (Pair.new hS.le 1 1 57)
  have HA3 := Lib.hid ((HA2.out.on hm).put (.cells #[.int .i64 1, .int .i64 1] 57))
  have a0 := HA3.out.2.2.1
  have a1 := HA3.out.2.2.2
  clear hS hm HS2 HA2
  unfold tokV
  go_wp2_with fail
  refine (HS3.out.drop 0 1).mono ?_
  rintro e w4 ⟨rfl, hS, hm⟩
  rw [al_3.1] at hS
  rw [al_3.2]
  have HS4 := Lib.hid hS
  have HA4 := Lib.hid (HA3.out.on hm)
  have HB4 := Lib.hid (HB3.out.on hm)
  clear hS hm HS3 HA3 HB3 a0 a1
  go_wp2_with fail
  refine (HS4.out.add HT.out h0 e7).mono ?_
  rintro e w5 ⟨rfl, hS, hm⟩
  rw [al_4.1] at hS
  rw [al_4.2.1, al_4.2.2]
  have HS5 := Lib.hid (hS.put (.cells #[.int .i64 0, .int .i64 2] 57))
  have HC5 := Lib.hid (Pair.new hS.le 0 2 57)
  have HA5 := Lib.hid ((HA4.out.on hm).put (.cells #[.int .i64 0, .int .i64 2] 57))
  have HB5 := Lib.hid ((HB4.out.on hm).put (.cells #[.int .i64 0, .int .i64 2] 57))
  have a0 := HA5.out.2.2.1
  have a1 := HA5.out.2.2.2
  clear hS hm HS4 HA4 HB4
  unfold tokV
  go_wp2_with fail
  refine (HS5.out.get 0 1).mono ?_
  rintro e w6 ⟨rfl, hS, hm⟩
  rw [al_5.1, al_5.2]
  have HS6 := Lib.hid (hS.put (.cells #[.int .i64 0, .int .i64 0, .bool false, .bool false] 51))
  have HC6 := Lib.hid ((HC5.out.on hm).put (.cells #[.int .i64 0, .int .i64 0, .bool false, .bool false] 51))
  have HA6 := Lib.hid ((HA5.out.on hm).put (.cells #[.int .i64 0, .int .i64 0, .bool false, .bool false] 51))
  have HB6 := Lib.hid ((HB5.out.on hm).put (.cells #[.int .i64 0, .int .i64 0, .bool false, .bool false] 51))
  have c0 := HC6.out.2.2.1
  have c1 := HC6.out.2.2.2
  clear hS hm HS5 HA5 HB5 HC5 a0 a1
  unfold entV noEntry
  go_wp2_with fail
  refine (HS6.out.get 0 2).mono ?_
  rintro e w7 ⟨rfl, hS, hm⟩
  rw [al_6.1, al_6.2]
  have HS7 := Lib.hid (hS.put (.cells #[.int .i64 7, .int .i64 0, .bool false, .bool false] 51))
  have HC7 := Lib.hid ((HC6.out.on hm).put (.cells #[.int .i64 7, .int .i64 0, .bool false, .bool false] 51))
  have HA7 := Lib.hid ((HA6.out.on hm).put (.cells #[.int .i64 7, .int .i64 0, .bool false, .bool false] 51))
  have HB7 := Lib.hid ((HB6.out.on hm).put (.cells #[.int .i64 7, .int .i64 0, .bool false, .bool false] 51))
  clear hS hm HS6 HA6 HB6 HC6 c0 c1
  have a0 := HA7.out.2.2.1
  have a1 := HA7.out.2.2.2
  have b0 := HB7.out.2.2.1
  have b1 := HB7.out.2.2.2
  have c0 := HC7.out.2.2.1
  have c1 := HC7.out.2.2.2
  unfold entV e7
  go_wp2
  go_ret
  exact ⟨rfl, HS7.out.below⟩
end Go.Proofs.YtbdpbkblihaeiaaDoor
