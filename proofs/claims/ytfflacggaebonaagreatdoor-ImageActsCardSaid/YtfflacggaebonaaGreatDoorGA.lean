/- K O Mod Bm Bw Tz Ld Seek RunL St Cl Nx Run -/
import Derived.Below
import Derived.WalkKit
import Derived.RowKit3
import Derived.Deep.Slices
import Derived.Laws.Rows
import Derived.Deep.Draws
import Derived.Laws.BitsLemmas
import Derived.Laws.BitsAllLaws
import Derived.Laws.Bits64
import Derived.Test.YtfflacggaebonaaGreatDoorProg
import Derived.KernelRfl
import Derived.OwnWalk
import Derived.Tactics
import Derived.Outline
import Derived.Laws.Slices
import Derived.Deep.QuietTactic
import Derived.BigQuiet
import Derived.WalkSmall
import Derived.Lib.Hide
import Derived.Deep.RegionHeld3
import Derived.Deep.DeepCutAuto
import Derived.WalkLawsBesides
import Derived.StillTailTactics
import Derived.Laws.MakeOwn
import Derived.Laws.OwnMore
import Derived.Shelf.Spec.TrailingZeros
import Derived.Test.YtfflacggaebonaaGreatDoorRows
import Derived.ProofKit
import Derived.LaidMore
import Derived.OpenShut
import Derived.Stop.Joined
import Derived.Lib.TrailingZeros
import Derived.Laws.CopyOwn
import Derived.Laws.CopyRow
import Derived.Deep.RegionLaw
import Derived.BigFrame
import Derived.StillTail
section
namespace Go.Proofs.YtfflacggaebonaaGreatDoor
open Go.RowKit

theorem below1 (w : World) (o : Obj) : Below w.heap.size w (w.alloc o) := (Below.refl _ w).alloc (Nat.le_refl _) o
theorem lt_of_cell {w : World} {p : Addr} {v : Value} (h : w.cell? p = some v) : p.block < w.heap.size := by
  unfold World.cell? at h
  rcases Nat.lt_or_ge p.block w.heap.size with g | g
  · exact g
  · rw [Array.getElem?_eq_none g] at h; simp at h
theorem cell_on {w w1 : World} {p : Addr} {v : Value} (hb : Below w.heap.size w w1) (h : w.cell? p = some v) : w1.cell? p = some v := (hb.cell (lt_of_cell h)).trans h
theorem cell_on' {w w1 : World} {p : Addr} {v : Value} (hb : Below w.heap.size w w1) (h : w.cell? p = some v) : w1.cell? p = some v := cell_on hb h
theorem _root_.Go.RowKit.Below.on {base w w1 : World} (B : Below base.heap.size base w) (hb : Below w.heap.size w w1) : Below base.heap.size base w1 := B.trans (hb.mono B.size)
theorem kp1_drew {base w : World} {p0 : Addr} {v0 : Value} (h : (w.cell? p0 = some v0) ∧ Below base.heap.size base w) : (w.drew.cell? p0 = some v0) ∧ Below base.heap.size base w.drew := h.imp id Below.drew
theorem kp1_call {base w w1 : World} {p0 : Addr} {v0 : Value} (h : (w.cell? p0 = some v0) ∧ Below base.heap.size base w) (hb : Below w.heap.size w w1) : (w1.cell? p0 = some v0) ∧ Below base.heap.size base w1 := by
  obtain ⟨h0, B⟩ := h
  exact ⟨cell_on hb h0, B.on hb⟩
theorem kp1_alloc {base w : World} {p0 : Addr} {v0 : Value} (o : Obj) (h : (w.cell? p0 = some v0) ∧ Below base.heap.size base w) : ((w.alloc o).cell? p0 = some v0) ∧ Below base.heap.size base (w.alloc o) := kp1_call h (below1 w o)
theorem kp2_drew {base w : World} {p0 p1 : Addr} {v0 v1 : Value} (h : (w.cell? p0 = some v0 ∧ w.cell? p1 = some v1) ∧ Below base.heap.size base w) : (w.drew.cell? p0 = some v0 ∧ w.drew.cell? p1 = some v1) ∧ Below base.heap.size base w.drew := h.imp id Below.drew
theorem kp2_call {base w w1 : World} {p0 p1 : Addr} {v0 v1 : Value} (h : (w.cell? p0 = some v0 ∧ w.cell? p1 = some v1) ∧ Below base.heap.size base w) (hb : Below w.heap.size w w1) : (w1.cell? p0 = some v0 ∧ w1.cell? p1 = some v1) ∧ Below base.heap.size base w1 := by
  obtain ⟨⟨h0, h1⟩, B⟩ := h
  exact ⟨⟨cell_on hb h0, cell_on hb h1⟩, B.on hb⟩
theorem kp2_alloc {base w : World} {p0 p1 : Addr} {v0 v1 : Value} (o : Obj) (h : (w.cell? p0 = some v0 ∧ w.cell? p1 = some v1) ∧ Below base.heap.size base w) : ((w.alloc o).cell? p0 = some v0 ∧ (w.alloc o).cell? p1 = some v1) ∧ Below base.heap.size base (w.alloc o) := kp2_call h (below1 w o)
theorem kp3_drew {base w : World} {p0 p1 p2 : Addr} {v0 v1 v2 : Value} (h : (w.cell? p0 = some v0 ∧ w.cell? p1 = some v1 ∧ w.cell? p2 = some v2) ∧ Below base.heap.size base w) : (w.drew.cell? p0 = some v0 ∧ w.drew.cell? p1 = some v1 ∧ w.drew.cell? p2 = some v2) ∧ Below base.heap.size base w.drew := h.imp id Below.drew
theorem kp3_call {base w w1 : World} {p0 p1 p2 : Addr} {v0 v1 v2 : Value} (h : (w.cell? p0 = some v0 ∧ w.cell? p1 = some v1 ∧ w.cell? p2 = some v2) ∧ Below base.heap.size base w) (hb : Below w.heap.size w w1) : (w1.cell? p0 = some v0 ∧ w1.cell? p1 = some v1 ∧ w1.cell? p2 = some v2) ∧ Below base.heap.size base w1 := by
  obtain ⟨⟨h0, h1, h2⟩, B⟩ := h
  exact ⟨⟨cell_on hb h0, cell_on hb h1, cell_on hb h2⟩, B.on hb⟩
theorem kp3_alloc {base w : World} {p0 p1 p2 : Addr} {v0 v1 v2 : Value} (o : Obj) (h : (w.cell? p0 = some v0 ∧ w.cell? p1 = some v1 ∧ w.cell? p2 = some v2) ∧ Below base.heap.size base w) : ((w.alloc o).cell? p0 = some v0 ∧ (w.alloc o).cell? p1 = some v1 ∧ (w.alloc o).cell? p2 = some v2) ∧ Below base.heap.size base (w.alloc o) := kp3_call h (below1 w o)
theorem kp4_drew {base w : World} {p0 p1 p2 p3 : Addr} {v0 v1 v2 v3 : Value} (h : (w.cell? p0 = some v0 ∧ w.cell? p1 = some v1 ∧ w.cell? p2 = some v2 ∧ w.cell? p3 = some v3) ∧ Below base.heap.size base w) : (w.drew.cell? p0 = some v0 ∧ w.drew.cell? p1 = some v1 ∧ w.drew.cell? p2 = some v2 ∧ w.drew.cell? p3 = some v3) ∧ Below base.heap.size base w.drew := h.imp id Below.drew
theorem kp4_call {base w w1 : World} {p0 p1 p2 p3 : Addr} {v0 v1 v2 v3 : Value} (h : (w.cell? p0 = some v0 ∧ w.cell? p1 = some v1 ∧ w.cell? p2 = some v2 ∧ w.cell? p3 = some v3) ∧ Below base.heap.size base w) (hb : Below w.heap.size w w1) : (w1.cell? p0 = some v0 ∧ w1.cell? p1 = some v1 ∧ w1.cell? p2 = some v2 ∧ w1.cell? p3 = some v3) ∧ Below base.heap.size base w1 := by
  obtain ⟨⟨h0, h1, h2, h3⟩, B⟩ := h
  exact ⟨⟨cell_on hb h0, cell_on hb h1, cell_on hb h2, cell_on hb h3⟩, B.on hb⟩
theorem kp4_alloc {base w : World} {p0 p1 p2 p3 : Addr} {v0 v1 v2 v3 : Value} (o : Obj) (h : (w.cell? p0 = some v0 ∧ w.cell? p1 = some v1 ∧ w.cell? p2 = some v2 ∧ w.cell? p3 = some v3) ∧ Below base.heap.size base w) : ((w.alloc o).cell? p0 = some v0 ∧ (w.alloc o).cell? p1 = some v1 ∧ (w.alloc o).cell? p2 = some v2 ∧ (w.alloc o).cell? p3 = some v3) ∧ Below base.heap.size base (w.alloc o) := kp4_call h (below1 w o)
theorem kp5_drew {base w : World} {p0 p1 p2 p3 p4 : Addr} {v0 v1 v2 v3 v4 : Value} (h : (w.cell? p0 = some v0 ∧ w.cell? p1 = some v1 ∧ w.cell? p2 = some v2 ∧ w.cell? p3 = some v3 ∧ w.cell? p4 = some v4) ∧ Below base.heap.size base w) : (w.drew.cell? p0 = some v0 ∧ w.drew.cell? p1 = some v1 ∧ w.drew.cell? p2 = some v2 ∧ w.drew.cell? p3 = some v3 ∧ w.drew.cell? p4 = some v4) ∧ Below base.heap.size base w.drew := h.imp id Below.drew
theorem kp5_call {base w w1 : World} {p0 p1 p2 p3 p4 : Addr} {v0 v1 v2 v3 v4 : Value} (h : (w.cell? p0 = some v0 ∧ w.cell? p1 = some v1 ∧ w.cell? p2 = some v2 ∧ w.cell? p3 = some v3 ∧ w.cell? p4 = some v4) ∧ Below base.heap.size base w) (hb : Below w.heap.size w w1) : (w1.cell? p0 = some v0 ∧ w1.cell? p1 = some v1 ∧ w1.cell? p2 = some v2 ∧ w1.cell? p3 = some v3 ∧ w1.cell? p4 = some v4) ∧ Below base.heap.size base w1 := by
  obtain ⟨⟨h0, h1, h2, h3, h4⟩, B⟩ := h
  exact ⟨⟨cell_on hb h0, cell_on hb h1, cell_on hb h2, cell_on hb h3, cell_on hb h4⟩, B.on hb⟩
theorem kp5_alloc {base w : World} {p0 p1 p2 p3 p4 : Addr} {v0 v1 v2 v3 v4 : Value} (o : Obj) (h : (w.cell? p0 = some v0 ∧ w.cell? p1 = some v1 ∧ w.cell? p2 = some v2 ∧ w.cell? p3 = some v3 ∧ w.cell? p4 = some v4) ∧ Below base.heap.size base w) : ((w.alloc o).cell? p0 = some v0 ∧ (w.alloc o).cell? p1 = some v1 ∧ (w.alloc o).cell? p2 = some v2 ∧ (w.alloc o).cell? p3 = some v3 ∧ (w.alloc o).cell? p4 = some v4) ∧ Below base.heap.size base (w.alloc o) := kp5_call h (below1 w o)
theorem kp6_drew {base w : World} {p0 p1 p2 p3 p4 p5 : Addr} {v0 v1 v2 v3 v4 v5 : Value} (h : (w.cell? p0 = some v0 ∧ w.cell? p1 = some v1 ∧ w.cell? p2 = some v2 ∧ w.cell? p3 = some v3 ∧ w.cell? p4 = some v4 ∧ w.cell? p5 = some v5) ∧ Below base.heap.size base w) : (w.drew.cell? p0 = some v0 ∧ w.drew.cell? p1 = some v1 ∧ w.drew.cell? p2 = some v2 ∧ w.drew.cell? p3 = some v3 ∧ w.drew.cell? p4 = some v4 ∧ w.drew.cell? p5 = some v5) ∧ Below base.heap.size base w.drew := h.imp id Below.drew
theorem kp6_call {base w w1 : World} {p0 p1 p2 p3 p4 p5 : Addr} {v0 v1 v2 v3 v4 v5 : Value} (h : (w.cell? p0 = some v0 ∧ w.cell? p1 = some v1 ∧ w.cell? p2 = some v2 ∧ w.cell? p3 = some v3 ∧ w.cell? p4 = some v4 ∧ w.cell? p5 = some v5) ∧ Below base.heap.size base w) (hb : Below w.heap.size w w1) : (w1.cell? p0 = some v0 ∧ w1.cell? p1 = some v1 ∧ w1.cell? p2 = some v2 ∧ w1.cell? p3 = some v3 ∧ w1.cell? p4 = some v4 ∧ w1.cell? p5 = some v5) ∧ Below base.heap.size base w1 := by
  obtain ⟨⟨h0, h1, h2, h3, h4, h5⟩, B⟩ := h
  exact ⟨⟨cell_on hb h0, cell_on hb h1, cell_on hb h2, cell_on hb h3, cell_on hb h4, cell_on hb h5⟩, B.on hb⟩
theorem kp6_alloc {base w : World} {p0 p1 p2 p3 p4 p5 : Addr} {v0 v1 v2 v3 v4 v5 : Value} (o : Obj) (h : (w.cell? p0 = some v0 ∧ w.cell? p1 = some v1 ∧ w.cell? p2 = some v2 ∧ w.cell? p3 = some v3 ∧ w.cell? p4 = some v4 ∧ w.cell? p5 = some v5) ∧ Below base.heap.size base w) : ((w.alloc o).cell? p0 = some v0 ∧ (w.alloc o).cell? p1 = some v1 ∧ (w.alloc o).cell? p2 = some v2 ∧ (w.alloc o).cell? p3 = some v3 ∧ (w.alloc o).cell? p4 = some v4 ∧ (w.alloc o).cell? p5 = some v5) ∧ Below base.heap.size base (w.alloc o) := kp6_call h (below1 w o)
theorem kp7_drew {base w : World} {p0 p1 p2 p3 p4 p5 p6 : Addr} {v0 v1 v2 v3 v4 v5 v6 : Value} (h : (w.cell? p0 = some v0 ∧ w.cell? p1 = some v1 ∧ w.cell? p2 = some v2 ∧ w.cell? p3 = some v3 ∧ w.cell? p4 = some v4 ∧ w.cell? p5 = some v5 ∧ w.cell? p6 = some v6) ∧ Below base.heap.size base w) : (w.drew.cell? p0 = some v0 ∧ w.drew.cell? p1 = some v1 ∧ w.drew.cell? p2 = some v2 ∧ w.drew.cell? p3 = some v3 ∧ w.drew.cell? p4 = some v4 ∧ w.drew.cell? p5 = some v5 ∧ w.drew.cell? p6 = some v6) ∧ Below base.heap.size base w.drew := h.imp id Below.drew
theorem kp7_call {base w w1 : World} {p0 p1 p2 p3 p4 p5 p6 : Addr} {v0 v1 v2 v3 v4 v5 v6 : Value} (h : (w.cell? p0 = some v0 ∧ w.cell? p1 = some v1 ∧ w.cell? p2 = some v2 ∧ w.cell? p3 = some v3 ∧ w.cell? p4 = some v4 ∧ w.cell? p5 = some v5 ∧ w.cell? p6 = some v6) ∧ Below base.heap.size base w) (hb : Below w.heap.size w w1) : (w1.cell? p0 = some v0 ∧ w1.cell? p1 = some v1 ∧ w1.cell? p2 = some v2 ∧ w1.cell? p3 = some v3 ∧ w1.cell? p4 = some v4 ∧ w1.cell? p5 = some v5 ∧ w1.cell? p6 = some v6) ∧ Below base.heap.size base w1 := by
  obtain ⟨⟨h0, h1, h2, h3, h4, h5, h6⟩, B⟩ := h
  exact ⟨⟨cell_on hb h0, cell_on hb h1, cell_on hb h2, cell_on hb h3, cell_on hb h4, cell_on hb h5, cell_on hb h6⟩, B.on hb⟩
theorem kp7_alloc {base w : World} {p0 p1 p2 p3 p4 p5 p6 : Addr} {v0 v1 v2 v3 v4 v5 v6 : Value} (o : Obj) (h : (w.cell? p0 = some v0 ∧ w.cell? p1 = some v1 ∧ w.cell? p2 = some v2 ∧ w.cell? p3 = some v3 ∧ w.cell? p4 = some v4 ∧ w.cell? p5 = some v5 ∧ w.cell? p6 = some v6) ∧ Below base.heap.size base w) : ((w.alloc o).cell? p0 = some v0 ∧ (w.alloc o).cell? p1 = some v1 ∧ (w.alloc o).cell? p2 = some v2 ∧ (w.alloc o).cell? p3 = some v3 ∧ (w.alloc o).cell? p4 = some v4 ∧ (w.alloc o).cell? p5 = some v5 ∧ (w.alloc o).cell? p6 = some v6) ∧ Below base.heap.size base (w.alloc o) := kp7_call h (below1 w o)
theorem kp8_drew {base w : World} {p0 p1 p2 p3 p4 p5 p6 p7 : Addr} {v0 v1 v2 v3 v4 v5 v6 v7 : Value} (h : (w.cell? p0 = some v0 ∧ w.cell? p1 = some v1 ∧ w.cell? p2 = some v2 ∧ w.cell? p3 = some v3 ∧ w.cell? p4 = some v4 ∧ w.cell? p5 = some v5 ∧ w.cell? p6 = some v6 ∧ w.cell? p7 = some v7) ∧ Below base.heap.size base w) : (w.drew.cell? p0 = some v0 ∧ w.drew.cell? p1 = some v1 ∧ w.drew.cell? p2 = some v2 ∧ w.drew.cell? p3 = some v3 ∧ w.drew.cell? p4 = some v4 ∧ w.drew.cell? p5 = some v5 ∧ w.drew.cell? p6 = some v6 ∧ w.drew.cell? p7 = some v7) ∧ Below base.heap.size base w.drew := h.imp id Below.drew
theorem kp8_call {base w w1 : World} {p0 p1 p2 p3 p4 p5 p6 p7 : Addr} {v0 v1 v2 v3 v4 v5 v6 v7 : Value} (h : (w.cell? p0 = some v0 ∧ w.cell? p1 = some v1 ∧ w.cell? p2 = some v2 ∧ w.cell? p3 = some v3 ∧ w.cell? p4 = some v4 ∧ w.cell? p5 = some v5 ∧ w.cell? p6 = some v6 ∧ w.cell? p7 = some v7) ∧ Below base.heap.size base w) (hb : Below w.heap.size w w1) : (w1.cell? p0 = some v0 ∧ w1.cell? p1 = some v1 ∧ w1.cell? p2 = some v2 ∧ w1.cell? p3 = some v3 ∧ w1.cell? p4 = some v4 ∧ w1.cell? p5 = some v5 ∧ w1.cell? p6 = some v6 ∧ w1.cell? p7 = some v7) ∧ Below base.heap.size base w1 := by
  obtain ⟨⟨h0, h1, h2, h3, h4, h5, h6, h7⟩, B⟩ := h
  exact ⟨⟨cell_on hb h0, cell_on hb h1, cell_on hb h2, cell_on hb h3, cell_on hb h4, cell_on hb h5, cell_on hb h6, cell_on hb h7⟩, B.on hb⟩
theorem kp8_alloc {base w : World} {p0 p1 p2 p3 p4 p5 p6 p7 : Addr} {v0 v1 v2 v3 v4 v5 v6 v7 : Value} (o : Obj) (h : (w.cell? p0 = some v0 ∧ w.cell? p1 = some v1 ∧ w.cell? p2 = some v2 ∧ w.cell? p3 = some v3 ∧ w.cell? p4 = some v4 ∧ w.cell? p5 = some v5 ∧ w.cell? p6 = some v6 ∧ w.cell? p7 = some v7) ∧ Below base.heap.size base w) : ((w.alloc o).cell? p0 = some v0 ∧ (w.alloc o).cell? p1 = some v1 ∧ (w.alloc o).cell? p2 = some v2 ∧ (w.alloc o).cell? p3 = some v3 ∧ (w.alloc o).cell? p4 = some v4 ∧ (w.alloc o).cell? p5 = some v5 ∧ (w.alloc o).cell? p6 = some v6 ∧ (w.alloc o).cell? p7 = some v7) ∧ Below base.heap.size base (w.alloc o) := kp8_call h (below1 w o)theorem u64_of {x : Int} (h : (Lit.int .u64 x).wf = true) : 0 ≤ x ∧ x < 18446744073709551616 := by simp [Lit.wf, IntKind.min, IntKind.max, IntKind.bits, IntKind.signed] at h; omega
theorem i64_of {x : Int} (h : (Lit.int .i64 x).wf = true) : -9223372036854775808 ≤ x ∧ x < 9223372036854775808 := by simp [Lit.wf, IntKind.min, IntKind.max, IntKind.bits, IntKind.signed] at h; omega

end Go.Proofs.YtfflacggaebonaaGreatDoor
end
section
namespace Go.Proofs.YtfflacggaebonaaGreatDoor
open Go.RowKit
set_option linter.unusedVariables false
/-- The cells of a slice's elements, each of them 'size' cells. -/
def SliceOf {α : Type} (w : World) (A : Option Addr) (size : Nat) (enc : α → List Value) (d : α) (l : List α) : Prop :=
  ∀ i, i < l.length → ∃ b o, A = some ⟨b, o, none⟩ ∧ ∀ j v, (enc (l.getD i d))[j]? = some v → w.cell? ⟨b, o + i * size + j, none⟩ = some v
theorem SliceOf.on {α : Type} {w w1 : World} {A : Option Addr} {size : Nat} {enc : α → List Value} {d : α} {l : List α} (h : SliceOf w A size enc d l) (hb : Below w.heap.size w w1) : SliceOf w1 A size enc d l := fun i hi => by
  obtain ⟨b, o, e, h1⟩ := h i hi
  exact ⟨b, o, e, fun j v hv => cell_on hb (h1 j v hv)⟩
theorem SliceOf.take {α : Type} {w : World} {A : Option Addr} {size : Nat} {enc : α → List Value} {d : α} {l : List α} (h : SliceOf w A size enc d l) (n : Nat) : SliceOf w A size enc d (l.take n) := fun i hi => by
  have hi' : i < n ∧ i < l.length := by simpa [List.length_take, Nat.lt_min] using hi
  obtain ⟨b, o, e, h1⟩ := h i hi'.2
  refine ⟨b, o, e, fun j v hv => h1 j v ?_⟩
  have : (l.take n).getD i d = l.getD i d := by simp [List.getD, hi'.1]
  rw [this] at hv; exact hv
section
variable {H : Type} {enc0 : TypeId × Value → H} {P : Program} {w : World} {base : Nat} {spare : Nat → Bool} {held : Bool}
theorem open_sliceOf {α : Type} {t e : TypeId} {size : Nat} (enc : α → List Value) (good : α → Prop) (d : α) {A : Option Addr} {len cap : Nat} {D : DataW H} {p : List MemPlace}
    (ht : P.underlying t = some (.slice e)) (hsz : P.cellsOf e = size) (hpos : 0 < size) (hs : ∀ a, (enc a).length = size)
    (hopen : ∀ fuel cs x, cs.length = size → DataW.trod enc0 P w base spare held fuel e cs = some x → ∃ a, cs = enc a ∧ good a)
    (h : DataW.Trod enc0 P w base spare held t (.slice A len cap) D p) :
    ∃ l : List α, l.length = len ∧ len ≤ cap ∧ len ≤ maxLen ∧ (∀ x ∈ l, good x) ∧ SliceOf w A size enc d l := by
  obtain ⟨fuel, hf⟩ := h
  rcases Deep.open_slice ht hf with ⟨hcs, _⟩ | ⟨a, len', cap', m, n, D', Pl, hcs, hb, hl, hm, hmm, _, hx⟩
  · simp [Value.cells] at hcs
    obtain ⟨rfl, rfl, rfl⟩ := hcs
    exact ⟨[], rfl, Nat.le_refl _, by simp, by simp, fun i hi => by simp at hi⟩
  · simp [Value.cells] at hcs
    obtain ⟨rfl, rfl, rfl⟩ := hcs
    have hlm : len ≤ m := by rw [hmm]; split <;> omega
    have hk : ∀ i, i < len → ∃ x, good x ∧ ∀ j v, (enc x)[j]? = some v → w.cell? (a.add (i * size + j)) = some v := fun i hi => by
      obtain ⟨cs', h1, h2⟩ := hx i (by omega)
      rw [hsz] at h1
      obtain ⟨_, hlen, hc⟩ := World.cells?_some h1
      obtain ⟨x, rfl, hg⟩ := hopen _ _ _ hlen h2
      refine ⟨x, hg, fun j v hv => ?_⟩
      have hj : j < size := by have := (List.getElem?_eq_some_iff.1 hv).1; rw [hs] at this; exact this
      have := hc j hj
      rw [Deep.add_add] at this
      rw [this, hv]
    have hlist : ∃ l : List α, l.length = len ∧ ∀ i, i < len → good (l.getD i d) ∧ ∀ j v, (enc (l.getD i d))[j]? = some v → w.cell? (a.add (i * size + j)) = some v := by
      refine ⟨(List.range len).map (fun i => if h : i < len then Classical.choose (hk i h) else d), by simp, fun i hi => ?_⟩
      have hget : ((List.range len).map (fun i => if h : i < len then Classical.choose (hk i h) else d)).getD i d = Classical.choose (hk i hi) := by
        simp [List.getD, hi]
      rw [hget]
      exact Classical.choose_spec (hk i hi)
    obtain ⟨l, hll, hall⟩ := hlist
    refine ⟨l, hll, hl, by omega, ?_, ?_⟩
    · intro x hx'
      obtain ⟨i, hi, rfl⟩ := List.getElem_of_mem hx'
      have := (hall i (by omega)).1
      simpa [List.getD, hi] using this
    · intro i hi
      have h0 := (hall i (by omega)).2
      have hs0 : ∃ v, (enc (l.getD i d))[0]? = some v := ⟨_, List.getElem?_eq_getElem (by rw [hs]; exact hpos)⟩
      obtain ⟨v0, hv0⟩ := hs0
      have hc0 := h0 0 v0 hv0
      -- the place has no spot
      have hspot : a.spot = none := by
        have h00 := (hall 0 (by omega)).2
        obtain ⟨u0, hu0⟩ : ∃ v, (enc (l.getD 0 d))[0]? = some v := ⟨_, List.getElem?_eq_getElem (by rw [hs]; exact hpos)⟩
        have := h00 0 u0 hu0
        simpa [Addr.add] using World.cell?_spot this
      obtain ⟨b, o, spot⟩ := a
      simp only at hspot
      subst hspot
      refine ⟨b, o, rfl, fun j v hv => ?_⟩
      have := h0 j v hv
      have hadd : (⟨b, o, none⟩ : Addr).add (i * size + j) = ⟨b, o + i * size + j, none⟩ := by unfold Addr.add; split <;> simp <;> omega
      rw [hadd] at this; exact this
end
/-- What the call owns stays through a callee that turns nothing. -/
theorem own_on {w w1 : World} {base : Nat} {e : TypeId} {size n : Nat} {v : Value} {xs : List Value} (h : w.ownsRow base e size v n xs) (hb : Below w.heap.size w w1) : w1.ownsRow base e size v n xs := by
  obtain ⟨h1, h2⟩ := h
  refine ⟨h1, ?_⟩
  rcases h2 with h2 | ⟨g, cap, cur, hv, hg, hh, r⟩
  · exact .inl h2
  · have hlt : g < w.heap.size := by
      rcases Nat.lt_or_ge g w.heap.size with q | q
      · exact q
      · rw [Array.getElem?_eq_none q] at hh; cases hh
    exact .inr ⟨g, cap, cur, hv, hg, (hb.block g hlt).trans hh, r⟩
theorem flatMap_get {α : Type} (enc : α → List Value) (size : Nat) (hs : ∀ a, (enc a).length = size) (d : α) : ∀ (l : List α) (i j : Nat) (v : Value), i < l.length → (enc (l.getD i d))[j]? = some v → (l.flatMap enc)[i * size + j]? = some v
  | a :: t, 0, j, v, _, h => by
    have hj : j < (enc a).length := (List.getElem?_eq_some_iff.1 h).1
    simp only [List.flatMap_cons, Nat.zero_mul, Nat.zero_add]
    rw [List.getElem?_append_left hj]; exact h
  | a :: t, i + 1, j, v, hi, h => by
    have := flatMap_get enc size hs d t i j v (by simpa using hi) (by simpa using h)
    simp only [List.flatMap_cons]
    rw [List.getElem?_append_right (by rw [hs, Nat.succ_mul]; omega), hs, Nat.succ_mul, show i * size + size + j - size = i * size + j by omega]
    exact this
theorem own_slice {α : Type} {w : World} {base : Nat} {e : TypeId} {size : Nat} {v : Value} {l : List α} (enc : α → List Value) (d : α) (hs : ∀ a, (enc a).length = size) (h : w.ownsRow base e size v l.length (l.flatMap enc)) :
    ∃ A c, v = .slice A l.length c ∧ l.length ≤ c ∧ SliceOf w A size enc d l := by
  rcases h.2 with ⟨hv, h0⟩ | ⟨g, cap, cur, hv, hg, hh, hnc, hcm, hsz, htake⟩
  · exact ⟨none, 0, by rw [hv, h0], by omega, fun i hi => by omega⟩
  · refine ⟨_, cap, hv, hnc, fun i hi => ⟨g, 0, rfl, fun j v hv => ?_⟩⟩
    have h1 := flatMap_get enc size hs d l i j v hi hv
    rw [← htake] at h1
    have h2 : cur.toList[i * size + j]? = some v := by
      rw [List.getElem?_take] at h1
      split at h1
      · exact h1
      · cases h1
    unfold World.cell?
    simp only [hh, Nat.zero_add]
    simpa using h2
end Go.Proofs.YtfflacggaebonaaGreatDoor
end
section
namespace Go.Proofs.YtfflacggaebonaaGreatDoor
open Go.RowKit
set_option linter.unusedVariables false
/-- Of the blocks that were there only those of S may have turned. -/
structure Mod (S : Nat → Prop) (w w' : World) : Prop where
  os : w'.os = w.os
  tape : w'.tape = w.tape
  output : w'.output = w.output
  size : w.heap.size ≤ w'.heap.size
  block : ∀ k, k < w.heap.size → ¬ S k → w'.heap[k]? = w.heap[k]?
theorem Mod.refl (S : Nat → Prop) (w : World) : Mod S w w := ⟨rfl, rfl, rfl, Nat.le_refl _, fun _ _ _ => rfl⟩
theorem Mod.trans {S : Nat → Prop} {a b c : World} (h : Mod S a b) (k : Mod S b c) : Mod S a c :=
  ⟨k.os.trans h.os, k.tape.trans h.tape, k.output.trans h.output, Nat.le_trans h.size k.size, fun i hi hs => (k.block i (Nat.lt_of_lt_of_le hi h.size) hs).trans (h.block i hi hs)⟩
theorem Mod.mono {S S' : Nat → Prop} {a b : World} (h : Mod S a b) (hs : ∀ k, k < a.heap.size → S k → S' k) : Mod S' a b := ⟨h.os, h.tape, h.output, h.size, fun k hk hn => h.block k hk (fun g => hn (hs k hk g))⟩
theorem Mod.of_below {S : Nat → Prop} {a b : World} (h : Below a.heap.size a b) : Mod S a b := ⟨h.os, h.tape, h.output, h.size, fun k hk _ => h.block k hk⟩
theorem Mod.below {S : Nat → Prop} {B : Nat} {a b c : World} (h : Below B a b) (k : Mod S b c) (hs : ∀ k, S k → B ≤ k) (hB : B ≤ b.heap.size) : Below B a c :=
  h.trans ⟨k.os, k.tape, k.output, k.size, fun i hi => k.block i (by omega) (fun g => by have := hs i g; omega)⟩
theorem Mod.setCell (S : Nat → Prop) (w : World) (p : Addr) (v : Value) (h : S p.block) : Mod S w (w.setCell p v) :=
  ⟨rfl, rfl, rfl, by simp [World.setCell], fun k _ hn => Below.heap_setCell _ _ _ _ (fun e => hn (e ▸ h))⟩
theorem Mod.drew {S : Nat → Prop} {a b : World} (h : Mod S a b) : Mod S a b.drew := ⟨h.os, h.tape, h.output, h.size, h.block⟩
theorem Mod.drewN {S : Nat → Prop} {a b : World} (h : Mod S a b) (n : Nat) : Mod S a (b.drewN n) := ⟨h.os, h.tape, h.output, h.size, h.block⟩
theorem Mod.alloc {S : Nat → Prop} {a b : World} (h : Mod S a b) (o : Obj) : Mod S a (b.alloc o) := h.trans (.of_below (below1 b o))
theorem block_lt {w : World} {k : Nat} {o : Obj} (h : w.heap[k]? = some o) : k < w.heap.size := (Array.getElem?_eq_some_iff.1 h).1
theorem Mod.keeps {S : Nat → Prop} {a b : World} (h : Mod S a b) {k : Nat} {o : Obj} (hk : a.heap[k]? = some o) (hn : ¬ S k) : b.heap[k]? = some o := (h.block k (block_lt hk) hn).trans hk
theorem Mod.cell {S : Nat → Prop} {a b : World} (h : Mod S a b) {p : Addr} {v : Value} (hc : a.cell? p = some v) (hn : ¬ S p.block) : b.cell? p = some v := (World.cell?_of_block (w := a) (h.block p.block (lt_of_cell hc) hn)).trans hc
/-- A block of cells, known whole. -/
theorem blk_cells {w : World} {b : Nat} {cs : Array Value} {t : TypeId} (h : w.heap[b]? = some (.cells cs t (0, 0))) (i : Nat) : w.cell? ⟨b, i, none⟩ = cs[i]? := by
  unfold World.cell?
  simp only [h]
  rfl
theorem blk_thaw {w : World} {b : Nat} {cs : Array Value} {t : TypeId} (h : w.heap[b]? = some (.cells cs t (0, 0))) (i : Nat) : w.frozen? ⟨b, i, none⟩ = false := by
  unfold World.frozen?
  simp only [h]
  simp
theorem blk_set {w : World} {b : Nat} {cs : Array Value} {t : TypeId} (h : w.heap[b]? = some (.cells cs t (0, 0))) (i : Nat) (v : Value) : (w.setCell ⟨b, i, none⟩ v).heap[b]? = some (.cells (cs.setIfInBounds i v) t (0, 0)) := by
  simp only [World.setCell, Array.getElem?_modify, h]
  simp
theorem blk_far {w : World} {b : Nat} {o : Obj} (h : w.heap[b]? = some o) (p : Addr) (v : Value) (hne : b ≠ p.block) : (w.setCell p v).heap[b]? = some o := (Below.heap_setCell _ _ _ _ hne).trans h
end Go.Proofs.YtfflacggaebonaaGreatDoor
end
section
namespace Go.Proofs.YtfflacggaebonaaGreatDoor
open Go.RowKit
set_option linter.unusedVariables false
set_option linter.unusedSimpArgs false
/-- The words of some places: place i is bit i % 64 of word i / 64; what lies behind is off. -/
structure Words (bits : List Bool) (ws : List Nat) : Prop where
  len : ws.length = (bits.length + 63) / 64
  bit : ∀ i, (ws.getD (i / 64) 0).testBit (i % 64) = bits.getD i false
  lt : ∀ x ∈ ws, x < 18446744073709551616
def many (bits : List Bool) : Nat := bits.count true
structure MapAt (w : World) (p q : Nat) (bits : List Bool) (ws : List Nat) (T T' : TypeId) : Prop where
  ne : p ≠ q
  pos : 1 ≤ bits.length
  le : bits.length ≤ 1048576
  words : Words bits ws
  head : w.heap[p]? = some (.cells #[.int .i64 bits.length, .slice (some ⟨q, 0, none⟩) ws.length ws.length, .int .i64 (many bits)] T (0, 0))
  body : w.heap[q]? = some (.cells (ws.map fun x => Value.int .u64 (x : Nat)).toArray T' (0, 0))
variable {w w' : World} {p q : Nat} {bits : List Bool} {ws : List Nat} {T T' : TypeId}
theorem MapAt.n (h : MapAt w p q bits ws T T') : w.cell? ⟨p, 0, none⟩ = some (.int .i64 bits.length) := (blk_cells h.head 0).trans rfl
theorem MapAt.w_ (h : MapAt w p q bits ws T T') : w.cell? ⟨p, 1, none⟩ = some (.slice (some ⟨q, 0, none⟩) ws.length ws.length) := (blk_cells h.head 1).trans rfl
theorem MapAt.m (h : MapAt w p q bits ws T T') : w.cell? ⟨p, 2, none⟩ = some (.int .i64 (many bits)) := (blk_cells h.head 2).trans rfl
theorem MapAt.word (h : MapAt w p q bits ws T T') (j : Nat) (hj : j < ws.length) : w.cell? ⟨q, j, none⟩ = some (.int .u64 (ws.getD j 0 : Nat)) := by
  rw [blk_cells h.body j]; simp [List.getD, hj]
theorem MapAt.wlen (h : MapAt w p q bits ws T T') {i : Nat} (hi : i < bits.length) : i / 64 < ws.length := by rw [h.words.len]; omega
theorem MapAt.mod (h : MapAt w p q bits ws T T') {S : Nat → Prop} (hm : Mod S w w') (hp : ¬ S p) (hq : ¬ S q) : MapAt w' p q bits ws T T' := ⟨h.ne, h.pos, h.le, h.words, hm.keeps h.head hp, hm.keeps h.body hq⟩
theorem MapAt.on (h : MapAt w p q bits ws T T') (hb : Below w.heap.size w w') : MapAt w' p q bits ws T T' := h.mod (S := fun _ => False) (.of_below hb) (fun g => g) (fun g => g)
theorem MapAt.plt (h : MapAt w p q bits ws T T') : p < w.heap.size := block_lt h.head
theorem MapAt.qlt (h : MapAt w p q bits ws T T') : q < w.heap.size := block_lt h.body
/-- The blocks of a bitmap. -/
def Two (p q : Nat) (k : Nat) : Prop := k = p ∨ k = q
theorem and_one (a : Int) (h0 : 0 ≤ a) (h1 : a < 18446744073709551616) : Go.bits .and .u64 a 1 = a % 2 :=
  bits_mask .u64 64 (by decide) (fun n g0 g1 => by rw [IntKind.wrap_u64]; omega) 1 (by decide) a h0 h1
theorem Words.bound {bits : List Bool} {ws : List Nat} (h : Words bits ws) (j : Nat) : ws.getD j 0 < 18446744073709551616 := by
  rcases Nat.lt_or_ge j ws.length with g | g
  · exact h.lt _ (by simp [List.getD, g])
  · simp [List.getD, g]
/-- A place is asked for. -/
theorem Words.ask {bits : List Bool} {ws : List Nat} (h : Words bits ws) (i : Nat) : (Go.bits .and .u64 (((ws.getD (i / 64) 0 : Nat) : Int) / 2 ^ (i % 64)) 1 == 1) = bits.getD i false := by
  have hb := h.bit i
  have hlt := h.bound (i / 64)
  generalize ws.getD (i / 64) 0 = x at *
  have hd : (x : Int) / 2 ^ (i % 64) = ((x / 2 ^ (i % 64) : Nat) : Int) := by simp
  have hle : x / 2 ^ (i % 64) ≤ x := Nat.div_le_self _ _
  rw [Nat.testBit_eq_decide_div_mod_eq] at hb
  rw [hd, ← hb]
  generalize x / 2 ^ (i % 64) = y at *
  rw [and_one _ (by omega) (by omega), Bool.eq_iff_iff]
  simp; omega
theorem many_le (bits : List Bool) : many bits ≤ bits.length := List.count_le_length
theorem many_set (bits : List Bool) (i : Nat) (hi : i < bits.length) (on : Bool) (hne : bits.getD i false ≠ on) : (many (bits.set i on) : Int) = if on = true then (many bits : Int) + 1 else (many bits : Int) - 1 := by
  have hb : bits[i] = !on := by
    simp [List.getD, hi] at hne
    cases on <;> simp_all
  have h := List.count_set (a := on) (b := true) hi
  unfold many
  rw [h, hb]
  have hpos : on = false → 0 < bits.count true := fun e => by
    subst e
    exact List.count_pos_iff.2 (by rw [← show bits[i] = true by rw [hb]; rfl]; exact List.getElem_mem hi)
  cases on
  · have := hpos rfl; simp <;> omega
  · simp
/-- A place is turned: the word with that bit turned. -/
theorem Words.turn {bits : List Bool} {ws : List Nat} (h : Words bits ws) (i : Nat) (hi : i < bits.length) (on : Bool) (hne : bits.getD i false ≠ on) : Words (bits.set i on) (ws.set (i / 64) (ws.getD (i / 64) 0 ^^^ 2 ^ (i % 64))) := by
  have hj : i / 64 < ws.length := by rw [h.len]; omega
  refine ⟨by simpa using h.len, fun k => ?_, fun x hx => ?_⟩
  · have hk := h.bit k
    by_cases e : k / 64 = i / 64
    · have : (ws.set (i / 64) (ws.getD (i / 64) 0 ^^^ 2 ^ (i % 64))).getD (k / 64) 0 = ws.getD (i / 64) 0 ^^^ 2 ^ (i % 64) := by rw [e]; simp [List.getD, hj]
      rw [this, Nat.testBit_xor, Nat.testBit_two_pow]
      rw [e] at hk
      rw [hk]
      by_cases e2 : k = i
      · subst e2
        have : (bits.set k on).getD k false = on := by simp [List.getD, hi]
        rw [this]
        simp
        cases hb : bits.getD k false <;> cases on <;> simp_all
      · have : (bits.set i on).getD k false = bits.getD k false := by simp [List.getD, List.getElem?_set, Ne.symm e2]
        rw [this]
        have : ¬ i % 64 = k % 64 := by omega
        simp [this]
    · have : (ws.set (i / 64) (ws.getD (i / 64) 0 ^^^ 2 ^ (i % 64))).getD (k / 64) 0 = ws.getD (k / 64) 0 := by simp [List.getD, List.getElem?_set, Ne.symm e]
      rw [this, hk]
      have e2 : k ≠ i := fun e3 => e (by rw [e3])
      simp [List.getD, List.getElem?_set, Ne.symm e2]
  · rcases List.mem_or_eq_of_mem_set hx with g | g
    · exact h.lt x g
    · subst g
      exact Nat.xor_lt_two_pow (n := 64) (h.bound _) (Nat.pow_lt_pow_right (by decide) (by omega))
theorem xor_word (x i : Nat) (hx : x < 18446744073709551616) : Go.bits .xor .u64 (x : Int) (IntKind.u64.wrap (2 ^ (i % 64))) = ((x ^^^ 2 ^ (i % 64) : Nat) : Int) := by
  have hp : 2 ^ (i % 64) < 18446744073709551616 := Nat.pow_lt_pow_right (n := 64) (by decide) (by omega)
  have e : IntKind.u64.wrap ((2 : Int) ^ (i % 64)) = ((2 ^ (i % 64) : Nat) : Int) := by
    rw [IntKind.wrap_u64]
    have : ((2 : Int) ^ (i % 64)) = ((2 ^ (i % 64) : Nat) : Int) := by simp
    rw [this]
    generalize 2 ^ (i % 64) = y at *
    omega
  rw [e, bits_xor_u64_nat _ _ hx hp]
def Turned (w : World) (p q : Nat) (bits : List Bool) (T T' : TypeId) (w' : World) : Prop := ∃ ws, MapAt w' p q bits ws T T' ∧ Mod (Two p q) w w'
/-- What a turn leaves. -/
theorem MapAt.turned (h : MapAt w p q bits ws T T') (i : Nat) (hi : i < bits.length) (on : Bool) (hs : bits.getD i false = !on) {m : Int} (hm : m = if on = true then (many bits : Int) + 1 else (many bits : Int) - 1)
    (hd : w'.heap[p]? = some (.cells #[.int .i64 bits.length, .slice (some ⟨q, 0, none⟩) ws.length ws.length, .int .i64 m] T (0, 0)))
    (hb : w'.heap[q]? = some (.cells ((ws.map fun x => Value.int .u64 (x : Nat)).toArray.setIfInBounds (i / 64) (.int .u64 (Go.bits .xor .u64 (ws.getD (i / 64) 0 : Nat) (IntKind.u64.wrap (2 ^ (i % 64)))))) T' (0, 0)))
    (hmod : Mod (Two p q) w w') : Turned w p q (bits.set i on) T T' w' := by
  have hne : bits.getD i false ≠ on := by rw [hs]; cases on <;> simp
  refine ⟨_, ⟨h.ne, by simpa using h.pos, by simpa using h.le, h.words.turn i hi on hne, ?_, ?_⟩, hmod⟩
  · rw [hd, hm, ← many_set bits i hi on hne]; simp
  · rw [hb, xor_word _ _ (h.words.bound _)]
    simp [List.map_set]
end Go.Proofs.YtfflacggaebonaaGreatDoor
end
section
namespace Go.Proofs.YtfflacggaebonaaGreatDoor
open Go.RowKit
set_option linter.unusedVariables false
variable {w : World} {p q : Nat} {bits : List Bool} {ws : List Nat} {T T' : TypeId}
theorem len_any (h : MapAt w p q bits ws T T') : Calls Tryz.prog 95 #[.pointer (some ⟨p, 0, none⟩)] w fun e w' => e = .returned (.int .i64 bits.length) ∧ w = w' := by
  have h0 := h.n
  go_enter Tryz.func95, Tryz.ntmps95
  go_wp2
  go_ret
  exact ⟨rfl, rfl⟩
theorem len_nil (w : World) : Calls Tryz.prog 95 #[.pointer none] w fun e w' => e = .returned (.int .i64 0) ∧ w = w' := by
  go_enter Tryz.func95, Tryz.ntmps95
  go_wp2
  go_ret
  exact ⟨rfl, rfl⟩
theorem ret_bool {a b : Bool} (h : a = b) : Ending.returned (.bool a) = .returned (.bool b) := by rw [h]
theorem has_in (h : MapAt w p q bits ws T T') (i : Nat) (hi : i < bits.length) : Calls Tryz.prog 97 #[.pointer (some ⟨p, 0, none⟩), .int .i64 i] w fun e w' => e = .returned (.bool (bits.getD i false)) ∧ w = w' := by
  have h1 := h.w_
  have hj := h.wlen hi
  have h2 := h.word (i / 64) hj
  have hle := h.le
  have HA := Lib.hid (h.words.ask i)
  generalize ws.getD (i / 64) 0 = x at h2 HA
  go_enter Tryz.func97, Tryz.ntmps97
  go_wp2_with (go_at_call 95; refine (len_any h).mono ?_; rintro e w' ⟨rfl, rfl⟩)
  go_ret
  exact ⟨ret_bool HA.out, rfl⟩
theorem has_out (h : MapAt w p q bits ws T T') (i : Int) (hi : i < 0 ∨ bits.length ≤ i) : Calls Tryz.prog 97 #[.pointer (some ⟨p, 0, none⟩), .int .i64 i] w fun e w' => e = .returned (.bool false) ∧ w = w' := by
  rcases hi with hi | hi
  · have hn : ¬ 0 ≤ i := by omega
    go_enter Tryz.func97, Tryz.ntmps97
    go_wp2
    go_ret
    exact ⟨rfl, rfl⟩
  · have hn : 0 ≤ i := by omega
    have hm : ¬ i < bits.length := by omega
    go_enter Tryz.func97, Tryz.ntmps97
    go_wp2_with (go_at_call 95; refine (len_any h).mono ?_; rintro e w' ⟨rfl, rfl⟩)
    go_ret
    exact ⟨rfl, rfl⟩
theorem has_nil (i : Int) (w : World) : Calls Tryz.prog 97 #[.pointer none, .int .i64 i] w fun e w' => e = .returned (.bool false) ∧ w = w' := by
  by_cases hn : 0 ≤ i
  · have hm : ¬ i < 0 := by omega
    go_enter Tryz.func97, Tryz.ntmps97
    go_wp2_with (go_at_call 95; refine (len_nil _).mono ?_; rintro e w' ⟨rfl, rfl⟩)
    go_ret
    exact ⟨rfl, rfl⟩
  · go_enter Tryz.func97, Tryz.ntmps97
    go_wp2
    go_ret
    exact ⟨rfl, rfl⟩
theorem turn_same (h : MapAt w p q bits ws T T') (i : Nat) (hi : i < bits.length) (on : Bool) (hs : bits.getD i false = on) : Calls Tryz.prog 90 #[.pointer (some ⟨p, 0, none⟩), .int .i64 i, .bool on] w fun e w' => e = .returned (.tuple #[]) ∧ w = w' := by
  have HS := Lib.hid hs
  clear hs
  go_enter Tryz.func90, Tryz.ntmps90
  go_wp2_with (go_at_call 97; refine (has_in h i hi).mono ?_; rintro e w' ⟨rfl, rfl⟩; rw [HS.out])
  refine bodyPost_ret (results_none rfl _ _ _) rfl ?_
  exact ⟨rfl, rfl⟩
set_option maxRecDepth 100000 in
theorem turn_other (h : MapAt w p q bits ws T T') (i : Nat) (hi : i < bits.length) (on : Bool) (hs : bits.getD i false = !on) : Calls Tryz.prog 90 #[.pointer (some ⟨p, 0, none⟩), .int .i64 i, .bool on] w fun e w' => e = .returned (.tuple #[]) ∧ Turned w p q (bits.set i on) T T' w' := by
  have HS := Lib.hid hs
  have h1 := h.w_
  have hj := h.wlen hi
  have h2 := h.word (i / 64) hj
  have h3 := h.m
  have hle := h.le
  have hml := many_le bits
  have f1 := blk_thaw h.head 2
  have f2 := blk_thaw h.body (i / 64)
  have hne := h.ne
  have HT := Lib.hid (fun w' m => h.turned (w' := w') i hi on hs (m := m))
  clear hs
  go_enter Tryz.func90, Tryz.ntmps90
  go_wp2_with (go_at_call 97; refine (has_in h i hi).mono ?_; rintro e w' ⟨rfl, rfl⟩; rw [HS.out])
  generalize hx : ws.getD (i / 64) 0 = x at h2
  have HX := Lib.hid hx
  clear hx
  have hc : (w.setCell ⟨q, i / 64, none⟩ (.int .u64 (Go.bits .xor .u64 x (2 ^ (i % 64))))).cell? ⟨p, 2, none⟩ = some (.int .i64 (many bits)) := (World.cell?_of_block (w := w) (Below.heap_setCell _ _ _ _ hne)).trans h3
  go_region
  cases on
  · go_wp2
    go_end0
    refine ⟨rfl, HT.out _ ((many bits : Int) - 1) (by simp) ?_ ?_ ?_⟩
    · exact (blk_set (blk_far h.head ⟨q, i / 64, none⟩ _ hne) 2 _).trans rfl
    · rw [HX.out]; exact blk_far (blk_set h.body (i / 64) _) ⟨p, 2, none⟩ _ hne.symm
    · exact ((Mod.setCell (Two p q) w ⟨q, i / 64, none⟩ _ (.inr rfl)).trans (Mod.setCell (Two p q) _ ⟨p, 2, none⟩ _ (.inl rfl))).drew
  · go_wp2
    go_end0
    refine ⟨rfl, HT.out _ ((many bits : Int) - 1 + 2) (by simp; omega) ?_ ?_ ?_⟩
    · exact (blk_set (blk_set (blk_far h.head ⟨q, i / 64, none⟩ _ hne) 2 _) 2 _).trans rfl
    · rw [HX.out]; exact blk_far (blk_far (blk_set h.body (i / 64) _) ⟨p, 2, none⟩ _ hne.symm) ⟨p, 2, none⟩ _ hne.symm
    · exact (((Mod.setCell (Two p q) w ⟨q, i / 64, none⟩ _ (.inr rfl)).trans (Mod.setCell (Two p q) _ ⟨p, 2, none⟩ _ (.inl rfl))).trans (Mod.setCell (Two p q) _ ⟨p, 2, none⟩ _ (.inl rfl))).drew
theorem set_same {i : Nat} {on : Bool} (hi : i < bits.length) (hs : bits.getD i false = on) : bits.set i on = bits := by
  have : bits[i] = on := by simpa [List.getD, hi] using hs
  rw [← this]; simp
theorem turn_any (h : MapAt w p q bits ws T T') (i : Nat) (hi : i < bits.length) (on : Bool) : Calls Tryz.prog 90 #[.pointer (some ⟨p, 0, none⟩), .int .i64 i, .bool on] w fun e w' => e = .returned (.tuple #[]) ∧ Turned w p q (bits.set i on) T T' w' := by
  by_cases hs : bits.getD i false = on
  · rw [set_same hi hs]
    exact (turn_same h i hi on hs).mono fun e w' ⟨he, hw⟩ => ⟨he, ws, hw ▸ h, hw ▸ Mod.refl _ _⟩
  · exact turn_other h i hi on (by cases hb : bits.getD i false <;> cases on <;> simp_all)
/-- Some places turned. -/
def fillL (bits : List Bool) (a : Nat) (on : Bool) : Nat → List Bool
  | 0 => bits
  | n + 1 => (fillL bits a on n).set (a + n) on
theorem fillL_length (bits : List Bool) (a : Nat) (on : Bool) : ∀ n, (fillL bits a on n).length = bits.length
  | 0 => rfl
  | n + 1 => by simp [fillL, fillL_length bits a on n]
theorem fill_nil (a n : Int) (on : Bool) (w : World) : Calls Tryz.prog 78 #[.pointer none, .int .i64 a, .int .i64 n, .bool on] w fun e w' => e = .returned (.int .i64 1) ∧ w = w' := by
  go_enter Tryz.func78, Tryz.ntmps78
  go_wp2
  go_ret
  exact ⟨rfl, rfl⟩
theorem fill_out (h : MapAt w p q bits ws T T') (a n : Int) (on : Bool) (ha : ¬ (0 ≤ n ∧ 0 ≤ a ∧ a ≤ bits.length ∧ n ≤ bits.length - a)) : Calls Tryz.prog 78 #[.pointer (some ⟨p, 0, none⟩), .int .i64 a, .int .i64 n, .bool on] w fun e w' => e = .returned (.int .i64 3) ∧ w = w' := by
  have h0 := h.n
  have hle := h.le
  by_cases c1 : n < 0
  · go_enter Tryz.func78, Tryz.ntmps78
    go_wp2
    go_ret
    exact ⟨rfl, rfl⟩
  · by_cases c2 : a < 0
    · go_enter Tryz.func78, Tryz.ntmps78
      go_wp2
      go_ret
      exact ⟨rfl, rfl⟩
    · by_cases c3 : (bits.length : Int) < a
      · go_enter Tryz.func78, Tryz.ntmps78
        go_wp2
        go_ret
        exact ⟨rfl, rfl⟩
      · have c4 : (bits.length : Int) - a < n := by omega
        clear ha
        go_enter Tryz.func78, Tryz.ntmps78
        go_wp2
        go_ret
        exact ⟨rfl, rfl⟩
theorem fill_in (h : MapAt w p q bits ws T T') (a n : Nat) (on : Bool) (ha : a + n ≤ bits.length) : Calls Tryz.prog 78 #[.pointer (some ⟨p, 0, none⟩), .int .i64 a, .int .i64 n, .bool on] w fun e w' => e = .returned (.int .i64 0) ∧ Turned w p q (fillL bits a on n) T T' w' := by
  have h0 := h.n
  have hle := h.le
  have H := Lib.hid h
  have c1 : ¬ ((n : Int) < 0) := by omega
  have c2 : ¬ ((a : Int) < 0) := by omega
  have c3 : ¬ ((bits.length : Int) < a) := by omega
  have c4 : ¬ ((bits.length : Int) - a < n) := by omega
  clear h
  go_enter Tryz.func78, Tryz.ntmps78
  go_wp2
  go_loopw [9] (fun v9 wr => ∃ k : Nat, k ≤ n ∧ v9 = .int .i64 (a + k : Nat) ∧ Hid (Turned w p q (fillL bits a on k) T T' wr)) (fun v9 _ => a + n - (intOf v9).toNat)
  case atStart => exact ⟨0, by omega, rfl, Lib.hid ⟨ws, H.out, Mod.refl _ _⟩⟩
  case round =>
    obtain ⟨k, hk, rfl, HT⟩ := hrel
    by_cases hlt : k < n
    · obtain ⟨ws', hM, hmod⟩ := HT.out
      have c5 : ((a + k : Nat) : Int) < (a : Int) + n := by omega
      have HM := Lib.hid hM
      have HMOD := Lib.hid hmod
      clear hM hmod
      go_wp2_with (go_at_call 90; refine (turn_any HM.out (a + k) (by rw [fillL_length]; omega) on).mono ?_; rintro e w1 ⟨rfl, ht⟩; have HT2 := Lib.hid ht; clear ht)
      go_roundw
      case rel =>
        refine ⟨k + 1, by omega, by go_num, ?_⟩
        obtain ⟨ws2, hM2, hmod2⟩ := HT2.out
        exact Lib.hid ⟨ws2, hM2, HMOD.out.trans hmod2⟩
      case measure => simp [intOf]; omega
    · obtain rfl : k = n := by omega
      have c5 : ¬ ((a + k : Nat) : Int) < (a : Int) + k := by omega
      go_wp2
      go_ret
      exact ⟨rfl, HT.out⟩
theorem new_out (n : Int) (w : World) (hn : n < 1 ∨ 1048576 < n) : Calls Tryz.prog 51 #[.int .i64 n] w fun e w' => e = .returned (.tuple #[.pointer none, .int .i64 3]) ∧ w = w' := by
  rcases hn with hn | hn
  · go_enter Tryz.func51, Tryz.ntmps51
    go_wp2
    go_ret2
    exact ⟨rfl, rfl⟩
  · have hm : ¬ n < 1 := by omega
    go_enter Tryz.func51, Tryz.ntmps51
    go_wp2
    go_ret2
    exact ⟨rfl, rfl⟩
theorem info64 : (Tryz.prog.info? 33).map (fun i => (i.zero, i.size, i.bytes)) = some (some (.int .u64 0), 1, 8) := by kernel_rfl
theorem made_one (z : Value) (hz : z.cells = #[z]) (n : Nat) : madeCells z.cells n = (List.replicate n z).toArray := by
  rw [hz, ← toList_madeCells_one z n]
theorem words_new (n : Nat) (h1 : 1 ≤ n) : Words (List.replicate n false) (List.replicate ((n + 63) / 64) 0) := by
  refine ⟨by simp, fun i => ?_, fun x hx => ?_⟩
  · have e1 : (List.replicate ((n + 63) / 64) 0).getD (i / 64) 0 = 0 := by simp [List.getD, List.getElem?_replicate]; split <;> rfl
    have e2 : (List.replicate n false).getD i false = false := by simp [List.getD, List.getElem?_replicate]; split <;> rfl
    rw [e1, e2]; simp
  · rw [(List.mem_replicate.1 hx).2]; decide
def NewPost (n : Nat) (w : World) (e : Ending) (w' : World) : Prop := e = .returned (.tuple #[.pointer (some ⟨w.heap.size + 1, 0, none⟩), .int .i64 0]) ∧ MapAt w' (w.heap.size + 1) w.heap.size (List.replicate n false) (List.replicate ((n + 63) / 64) 0) 148 33 ∧ Below w.heap.size w w'
theorem many_replicate (n : Nat) : many (List.replicate n false) = 0 := by unfold many; simp [List.count_replicate]
set_option maxRecDepth 100000 in
theorem new_in (n : Nat) (w : World) (h1 : 1 ≤ n) (h2 : n ≤ 1048576) : Calls Tryz.prog 51 #[.int .i64 n] w (NewPost n w) := by
  obtain ⟨i0, hi, hz0, hz1, hz2⟩ := info_parts info64
  have hk : ((n : Int) + 63) / 64 = (((n + 63) / 64 : Nat) : Int) := by omega
  have hmk : (Instr.makeSlice 41 (.int .i64 (((n : Int) + 63) / 64)) (.int .i64 (((n : Int) + 63) / 64))).run Tryz.prog w = .ok (.slice (some ⟨w.heap.size, 0, none⟩) ((n + 63) / 64) ((n + 63) / 64)) (w.alloc (.cells (List.replicate ((n + 63) / 64) (Value.int .u64 0)).toArray 33)) := by
    rw [run_make w 41 33 i0 (.int .u64 0) Tryz.underlying41 hi hz0 .i64 .i64 _ _ (by omega) (by omega) (by rw [hz2]; omega) (by omega), hz1, made_one _ rfl, Nat.mul_one]
    rw [hk, Int.toNat_natCast]
  generalize hkk : (n + 63) / 64 = k at hmk
  have HK := Lib.hid hkk
  have c1 : ¬ ((n : Int) < 1) := by omega
  have c2 : ¬ ((1048576 : Int) < n) := by omega
  have H1 := Lib.hid h1
  have H2 := Lib.hid h2
  clear hi hz0 hz1 hz2 hk hkk h1 h2
  go_enter Tryz.func51, Tryz.ntmps51
  go_wp2
  go_ret2
  have hkk := HK.out
  subst hkk
  have h1 := H1.out
  have h2 := H2.out
  have hw := words_new n h1
  have hm0 := many_replicate n
  have hl0 : (List.replicate n false).length = n := List.length_replicate
  have hl1 : (List.replicate ((n + 63) / 64) 0).length = (n + 63) / 64 := List.length_replicate
  have hmap : ((List.replicate ((n + 63) / 64) 0).map fun x => Value.int .u64 (x : Nat)) = List.replicate ((n + 63) / 64) (Value.int .u64 0) := by rw [List.map_replicate]; rfl
  refine ⟨rfl, ⟨Nat.succ_ne_self _, by rw [hl0]; exact h1, by rw [hl0]; exact h2, hw, ?_, ?_⟩, (below1 w _).on (below1 _ _)⟩
  · rw [hm0, hl0, hl1]
    have := heap_alloc_new (w.alloc (.cells (List.replicate ((n + 63) / 64) (Value.int .u64 0)).toArray 33)) (.cells #[.int .i64 n, .slice (some ⟨w.heap.size, 0, none⟩) ((n + 63) / 64) ((n + 63) / 64), .int .i64 0] 148)
    rw [World.size_alloc] at this
    exact this
  · rw [hmap]
    refine (Below.heap_alloc _ _ _ ?_).trans (heap_alloc_new w _)
    rw [World.size_alloc]; exact Nat.lt_succ_self _
end Go.Proofs.YtfflacggaebonaaGreatDoor
end
section
namespace Go.Proofs.YtfflacggaebonaaGreatDoor
open Go.RowKit
set_option linter.unusedVariables false
set_option linter.unusedSimpArgs false
variable {w : World} {p q : Nat} {bits : List Bool} {ws : List Nat} {T T' : TypeId}
/-- The table of math/bits lies in its variable. -/
def Tab (w : World) : Prop := TabAt 0 Lib.deBruijn64tab w
theorem Tab.on {w w' : World} (h : Tab w) (hb : Below w.heap.size w w') : Tab w' := fun j hj => cell_on hb (h j hj)
theorem Tab.mod {w w' : World} {S : Nat → Prop} (h : Tab w) (hm : Mod S w w') (hn : ¬ S 0) : Tab w' := fun j hj => hm.cell (h j hj) hn
set_option maxHeartbeats 1000000 in
theorem tz_core (x k idx : Nat) (hx0 : ((x : Int) == 0) = false)
    (key : IntKind.u64.wrap (Go.bits BinOp.and IntKind.u64 (x : Int) (IntKind.u64.wrap (-(x : Int))) * 285870213051353865) / 288230376151711744 = (idx : Int))
    (hi : idx < 64) (hk : k < 64) (hcell : w.cell? ⟨0, idx, none⟩ = some (.int .u8 k)) :
    Calls Tryz.prog 96 #[.int .u64 x] w fun e w' => e = .returned (.int .i64 k) ∧ w = w' := by
  go_enter Tryz.func96, Tryz.ntmps96
  go_wp2_with (simp only [key])
  go_ret
  exact ⟨rfl, rfl⟩
theorem tz_any (x : Nat) (hx : x < 18446744073709551616) (hx0 : x ≠ 0) (hT : Tab w) : Calls Tryz.prog 96 #[.int .u64 x] w fun e w' => e = .returned (.int .i64 (Lib.ctz 64 x)) ∧ w = w' := by
  obtain ⟨hlow, hk⟩ := Lib.lowest_bit 64 x hx0 hx
  obtain ⟨hi, htab⟩ := Lib.deBruijn64_at _ hk
  have hcell := hT _ hi
  rw [htab] at hcell
  exact tz_core x _ _ (by simp; omega) (tz64_key x _ hx hx0 hlow) hi hk hcell
end Go.Proofs.YtfflacggaebonaaGreatDoor
end
section
namespace Go.Proofs.YtfflacggaebonaaGreatDoor
open Go.ChangeShapes Go.WideShapes Go.ChangeAt Go.WideMaps Go.WideElems Go.RowKit
set_option linter.unusedVariables false
abbrev laid1 {H : Type} : List (String × DataW H) := [("math/bits.deBruijn64tab", Rows.laid_math_bits_deBruijn64tab)]
theorem own : ownKnob Tryz.prog.godebug = none := by kernel_rfl
theorem laidOut : laidOutB Tryz.prog = true := by kernel_rfl
theorem gTab : Tryz.prog.globalNamed "math/bits.deBruijn64tab" = some 0 := by kernel_rfl
theorem tTab : (Tryz.prog.globals[0]?).map (·.type) = some 169 := by kernel_rfl
theorem door_met (os : Os) (args : Array Value) : laidMetH Tryz.prog laid1 ((World.doorLaid Tryz.prog 400 os).forCall (fun _ _ => 0) ⟨#[], args, []⟩).memory :=
  laidMetH_of_parts3 (fuel := 8) (laidMet_of_run' 8 (by kernel_rfl) (by kernel_rfl)) (by kernel_rfl) (by kernel_rfl)
theorem tab_list {H : Type} : (Rows.laid_math_bits_deBruijn64tab : DataW H) = .agg (Lib.deBruijn64tab.map fun n => .lit (.int .u8 (n : Nat))) := by rfl
theorem tab_of_laid {W : World} (h : laidMetH Tryz.prog laid1 W) : Tab W := by
  rw [MakeChecks.laidMetH_plain _ _ _ (by kernel_rfl)] at h
  obtain ⟨ps, ⟨g0, t0, cs0, f0, p0, q0, hg0, ht0, hv0, hd0, _⟩, _, _⟩ := h
  obtain rfl := Option.some.inj (gTab.symm.trans hg0)
  obtain rfl := Option.some.inj (tTab.symm.trans ht0)
  obtain ⟨xs, m1, rfl, hx1, hlen, hn3, hel⟩ := DataW.trod_array Tryz.underlying169 hd0
  have c3 : Tryz.prog.cellsOf 5 = 1 := by kernel_rfl
  have hl64 : Lib.deBruijn64tab.length = 64 := by decide
  rw [tab_list] at hx1
  simp only [Prod.mk.injEq, DataW.agg.injEq] at hx1
  intro j hj
  have h0 := hel j (by omega)
  have hjx : j < xs.length := by omega
  rw [List.getElem?_eq_getElem hjx] at h0
  obtain ⟨k, e1, e2, _⟩ := DataW.trod_int Tryz.underlying5 h0
  have hk : k = ((Lib.deBruijn64tab.getD j 0 : Nat) : Int) := by
    have h2 := congrArg (fun l => l[j]?) hx1.1
    simp only [List.getElem?_map, List.getElem?_eq_getElem hjx, List.getElem?_eq_getElem hj, Option.map_some, Option.some.injEq] at h2
    rw [e2] at h2
    simp only [DataW.lit.injEq, Lit.int.injEq, true_and] at h2
    rw [← h2]; simp [List.getD, hj]
  subst hk
  have hv := World.var?_cell hg0 hv0 j
  rw [hv]
  rw [c3, Nat.mul_one] at e1
  have h3 := congrArg (fun l => l[0]?) e1
  simp only [List.getElem?_take, List.getElem?_drop, Nat.add_zero] at h3
  simpa using h3
end Go.Proofs.YtfflacggaebonaaGreatDoor
end
section
namespace Go.Proofs.YtfflacggaebonaaGreatDoor
open Go.RowKit
set_option linter.unusedVariables false
set_option linter.unusedSimpArgs false
def seek (b : Bool) (bits : List Bool) (i : Nat) : Nat :=
  if i < bits.length then if bits.getD i false = b then i else seek b bits (i + 1) else bits.length
termination_by bits.length - i
variable {b : Bool} {bits : List Bool} {ws : List Nat}
theorem seek_hit {i : Nat} (hi : i < bits.length) (h : bits.getD i false = b) : seek b bits i = i := by rw [seek, if_pos hi, if_pos h]
theorem seek_end {i : Nat} (hi : bits.length ≤ i) : seek b bits i = bits.length := by rw [seek, if_neg (by omega)]
theorem seek_step {i : Nat} (h : bits.getD i false ≠ b) : seek b bits i = seek b bits (i + 1) := by
  by_cases hi : i < bits.length
  · rw [seek, if_pos hi, if_neg h]
  · rw [seek_end (by omega), seek_end (by omega)]
theorem seek_skip : ∀ (d i : Nat), (∀ j, i ≤ j → j < i + d → j < bits.length → bits.getD j false ≠ b) → seek b bits i = seek b bits (i + d)
  | 0, _, _ => rfl
  | d + 1, i, h => by
    by_cases hi : i < bits.length
    · rw [seek_step (h i (Nat.le_refl _) (by omega) hi), seek_skip d (i + 1) (fun j h1 h2 h3 => h j (by omega) (by omega) h3)]
      congr 1; omega
    · rw [seek_end (by omega), seek_end (by omega)]
theorem seek_to {i k : Nat} (hik : i ≤ k) (h : ∀ j, i ≤ j → j < k → j < bits.length → bits.getD j false ≠ b) : seek b bits i = seek b bits k := by
  have := seek_skip (b := b) (bits := bits) (k - i) i (fun j h1 h2 h3 => h j h1 (by omega) h3)
  rwa [show i + (k - i) = k by omega] at this
theorem seek_spec (b : Bool) (bits : List Bool) : ∀ (d i : Nat), bits.length - i = d → i ≤ bits.length → i ≤ seek b bits i ∧ seek b bits i ≤ bits.length ∧ (seek b bits i < bits.length → bits.getD (seek b bits i) false = b) ∧ ∀ j, i ≤ j → j < seek b bits i → bits.getD j false ≠ b
  | 0, i, hd, hi => by
    rw [seek_end (by omega)]
    exact ⟨hi, Nat.le_refl _, fun h => absurd h (Nat.lt_irrefl _), fun j h1 h2 => by omega⟩
  | d + 1, i, hd, hi => by
    by_cases h : bits.getD i false = b
    · rw [seek_hit (by omega) h]
      exact ⟨Nat.le_refl _, by omega, fun _ => h, fun j h1 h2 => by omega⟩
    · rw [seek_step h]
      obtain ⟨a1, a2, a3, a4⟩ := seek_spec b bits d (i + 1) (by omega) (by omega)
      refine ⟨by omega, a2, a3, fun j h1 h2 => ?_⟩
      rcases Nat.lt_or_ge i j with g | g
      · exact a4 j g h2
      · rw [show j = i by omega]; exact h
theorem seek_le (b : Bool) (bits : List Bool) (i : Nat) : seek b bits i ≤ bits.length := by
  rcases Nat.le_total i bits.length with h | h
  · exact (seek_spec b bits _ i rfl h).2.1
  · rw [seek_end h]; exact Nat.le_refl _
theorem seek_ge {i : Nat} (h : i ≤ bits.length) : i ≤ seek b bits i := (seek_spec b bits _ i rfl h).1
theorem seek_at {i : Nat} (h : seek b bits i < bits.length) : bits.getD (seek b bits i) false = b := by
  rcases Nat.le_total i bits.length with g | g
  · exact (seek_spec b bits _ i rfl g).2.2.1 h
  · rw [seek_end g] at h; exact absurd h (Nat.lt_irrefl _)
theorem seek_between {i j : Nat} (h1 : i ≤ j) (h2 : j < seek b bits i) : bits.getD j false ≠ b := by
  rcases Nat.le_total i bits.length with g | g
  · exact (seek_spec b bits _ i rfl g).2.2.2 j h1 h2
  · rw [seek_end g] at h2; omega
/-- The lowest bit. -/
theorem ctz_spec (y : Nat) (h0 : y ≠ 0) (h : y < 18446744073709551616) : Lib.ctz 64 y < 64 ∧ y.testBit (Lib.ctz 64 y) = true ∧ ∀ j, j < Lib.ctz 64 y → y.testBit j = false := by
  obtain ⟨m, hm, hk⟩ := Lib.ctzFrom_spec 64 y (by omega) h
  have e : Lib.ctz 64 y = Lib.ctzFrom 64 y := by rw [Lib.ctz, if_neg h0]
  rw [e]
  generalize Lib.ctzFrom 64 y = k at *
  subst hm
  refine ⟨hk, ?_, fun j hj => ?_⟩
  · rw [Nat.mul_comm, Nat.testBit_mul_two_pow]; simp
  · rw [Nat.mul_comm, Nat.testBit_mul_two_pow]; simp; omega
theorem bit_lt {x k : Nat} (hx : x < 18446744073709551616) (h : x.testBit k = true) : k < 64 := by
  apply Nat.lt_of_not_le
  intro hk
  have := Nat.testBit_lt_two_pow (x := x) (i := k) (Nat.lt_of_lt_of_le hx (Nat.pow_le_pow_right (n := 2) (by decide) hk))
  rw [this] at h; cases h
/-- Of a word y that tells, from bit r % 64 on, where the places are b. -/
structure Tells (b : Bool) (bits : List Bool) (r y : Nat) : Prop where
  lt : y < 18446744073709551616
  on : ∀ k, r % 64 + k < 64 → (y.testBit k = true ↔ bits.getD (r + k) false = b)
  off : ∀ k, ¬ r % 64 + k < 64 → y.testBit k = false
theorem Tells.none {r y : Nat} (h : Tells b bits r y) (h0 : y = 0) : seek b bits r = seek b bits ((r / 64 + 1) * 64) := by
  subst h0
  refine seek_to (by omega) fun j h1 h2 _ e => ?_
  have := (h.on (j - r) (by omega)).2 (by rw [show r + (j - r) = j by omega]; exact e)
  simp at this
theorem Tells.some {r y : Nat} (h : Tells b bits r y) (h0 : y ≠ 0) : bits.getD (r + Lib.ctz 64 y) false = b ∧ seek b bits r = seek b bits (r + Lib.ctz 64 y) ∧ Lib.ctz 64 y < 64 := by
  obtain ⟨h1, h2, h3⟩ := ctz_spec y h0 h.lt
  generalize Lib.ctz 64 y = k at *
  have hk : r % 64 + k < 64 := by
    apply Classical.byContradiction
    intro g
    rw [h.off k g] at h2; cases h2
  refine ⟨(h.on k hk).1 h2, seek_to (by omega) fun j g1 g2 _ e => ?_, h1⟩
  have := (h.on (j - r) (by omega)).2 (by rw [show r + (j - r) = j by omega]; exact e)
  rw [h3 _ (by omega)] at this; cases this
theorem Words.bit_at (h : Words bits ws) (r k : Nat) (hk : r % 64 + k < 64) : (ws.getD (r / 64) 0).testBit (r % 64 + k) = bits.getD (r + k) false := by
  have := h.bit (r + k)
  rw [show (r + k) / 64 = r / 64 by omega, show (r + k) % 64 = r % 64 + k by omega] at this
  exact this
theorem Words.tells_on (h : Words bits ws) (r : Nat) : Tells true bits r (ws.getD (r / 64) 0 / 2 ^ (r % 64)) := by
  have hb := h.bound (r / 64)
  refine ⟨Nat.lt_of_le_of_lt (Nat.div_le_self _ _) hb, fun k hk => ?_, fun k hk => ?_⟩
  · rw [Nat.testBit_div_two_pow, Nat.add_comm k, h.bit_at r k hk]
  · rw [Nat.testBit_div_two_pow, Nat.add_comm k]
    cases e : (ws.getD (r / 64) 0).testBit (r % 64 + k)
    · rfl
    · exact absurd (bit_lt hb e) hk
theorem Words.tells_off (h : Words bits ws) (r : Nat) : Tells false bits r ((18446744073709551615 - ws.getD (r / 64) 0) / 2 ^ (r % 64)) := by
  have hb := h.bound (r / 64)
  have key : ∀ j, (18446744073709551615 - ws.getD (r / 64) 0).testBit j = (decide (j < 64) && !(ws.getD (r / 64) 0).testBit j) := by
    intro j
    have := Nat.testBit_two_pow_sub_succ (n := 64) (x := ws.getD (r / 64) 0) hb j
    rw [← this]; congr 1; omega
  refine ⟨Nat.lt_of_le_of_lt (Nat.div_le_self _ _) (by omega), fun k hk => ?_, fun k hk => ?_⟩
  · rw [Nat.testBit_div_two_pow, Nat.add_comm k, key, h.bit_at r k hk]
    simp [hk]
  · rw [Nat.testBit_div_two_pow, Nat.add_comm k, key]
    simp [hk]
end Go.Proofs.YtfflacggaebonaaGreatDoor
end
section
namespace Go.Proofs.YtfflacggaebonaaGreatDoor
set_option linter.unusedVariables false
set_option linter.unusedSimpArgs false
variable {bits : List Bool}
/-- n places from i on are there, and off. -/
def Off (bits : List Bool) (i n : Nat) : Prop := i + n ≤ bits.length ∧ ∀ j, i ≤ j → j < i + n → bits.getD j false = false
open Classical in
noncomputable def runL (n : Nat) (bits : List Bool) (i : Nat) : Nat × Bool :=
  if i + n ≤ bits.length then if Off bits i n then (i, true) else runL n bits (i + 1) else (0, false)
termination_by bits.length + 1 - i
theorem run_hit {n i : Nat} (h : Off bits i n) : runL n bits i = (i, true) := by rw [runL, if_pos h.1, if_pos h]
theorem run_none {n i : Nat} (h : bits.length < i + n) : runL n bits i = (0, false) := by rw [runL, if_neg (by omega)]
theorem run_step {n i : Nat} (h : ¬ Off bits i n) : runL n bits i = runL n bits (i + 1) := by
  by_cases hi : i + n ≤ bits.length
  · rw [runL, if_pos hi, if_neg h]
  · rw [run_none (by omega), run_none (by omega)]
theorem run_skip (n : Nat) : ∀ (d i : Nat), (∀ j, i ≤ j → j < i + d → ¬ Off bits j n) → runL n bits i = runL n bits (i + d)
  | 0, _, _ => rfl
  | d + 1, i, h => by
    rw [run_step (h i (Nat.le_refl _) (by omega)), run_skip n d (i + 1) (fun j h1 h2 => h j (by omega) (by omega))]
    congr 1; omega
theorem run_to {n i k : Nat} (hik : i ≤ k) (h : ∀ j, i ≤ j → j < k → ¬ Off bits j n) : runL n bits i = runL n bits k := by
  have := run_skip (bits := bits) n (k - i) i (fun j h1 h2 => h j h1 (by omega))
  rwa [show i + (k - i) = k by omega] at this
theorem run_spec (n : Nat) (bits : List Bool) : ∀ (d i : Nat), bits.length + 1 - i = d → (∃ a, runL n bits i = (a, true) ∧ i ≤ a ∧ Off bits a n ∧ ∀ j, i ≤ j → j < a → ¬ Off bits j n) ∨ (runL n bits i = (0, false) ∧ ∀ j, i ≤ j → ¬ Off bits j n)
  | 0, i, hd => .inr ⟨run_none (by omega), fun j h1 h2 => by have := h2.1; omega⟩
  | d + 1, i, hd => by
    by_cases h : Off bits i n
    · exact .inl ⟨i, run_hit h, Nat.le_refl _, h, fun j h1 h2 => by omega⟩
    · rw [run_step h]
      rcases run_spec n bits d (i + 1) (by omega) with ⟨a, g1, g2, g3, g4⟩ | ⟨g1, g2⟩
      · refine .inl ⟨a, g1, by omega, g3, fun j h1 h2 => ?_⟩
        rcases Nat.lt_or_ge i j with g | g
        · exact g4 j g h2
        · rw [show j = i by omega]; exact h
      · refine .inr ⟨g1, fun j h1 => ?_⟩
        rcases Nat.lt_or_ge i j with g | g
        · exact g2 j g
        · rw [show j = i by omega]; exact h
/-- From a place that is off: the run to the next one that is on is long enough. -/
theorem run_long {n a e : Nat} (ha : a < bits.length) (he : seek true bits a = e) (hn : n ≤ e - a) : runL n bits a = (a, true) := by
  have h1 := seek_le true bits a
  have h2 : a ≤ seek true bits a := seek_ge (by omega)
  refine run_hit ⟨by omega, fun j g1 g2 => ?_⟩
  have := seek_between (b := true) (bits := bits) g1 (by omega)
  simpa using this
/-- It is not: on behind it. -/
theorem run_short {n a e : Nat} (ha : a < bits.length) (he : seek true bits a = e) (hn : e - a < n) : runL n bits a = runL n bits e := by
  have h1 := seek_le true bits a
  have h2 : a ≤ seek true bits a := seek_ge (by omega)
  refine run_to (by omega) fun j g1 g2 g => ?_
  rcases Nat.lt_or_ge e bits.length with g3 | g3
  · have := g.2 e (by omega) (by omega)
    have g4 := seek_at (b := true) (bits := bits) (i := a) (by omega)
    rw [he] at g4
    rw [g4] at this; cases this
  · have := g.1; omega
/-- Over those that are on. -/
theorem run_over {n a e : Nat} (hn : 1 ≤ n) (ha : a ≤ bits.length) (he : seek false bits a = e) : runL n bits a = runL n bits e := by
  have h2 : a ≤ seek false bits a := seek_ge ha
  refine run_to (by omega) fun j g1 g2 g => ?_
  have := seek_between (b := false) (bits := bits) g1 (by omega)
  exact this (g.2 j (Nat.le_refl _) (by omega))
theorem run_last {n : Nat} (hn : 1 ≤ n) : runL n bits bits.length = (0, false) := run_none (by omega)
end Go.Proofs.YtfflacggaebonaaGreatDoor
end
section
namespace Go.Proofs.YtfflacggaebonaaGreatDoor
open Go.RowKit
set_option linter.unusedVariables false
variable {w w' : World} {B Wb Ob p q size : Nat} {W W' own own' : List Int}
def busy (o : Int) : Bool := decide (o ≠ 0)
def wordV (x : Int) : Value := .int .u64 x
def ownV (x : Int) : Value := .int .i64 x
structure StoreAt (w : World) (B Wb Ob p q : Nat) (W : List Int) (size : Nat) (own : List Int) : Prop where
  head : w.heap[B]? = some (.cells #[.slice (some ⟨Wb, 0, none⟩) W.length W.length, .int .i64 size, .slice (some ⟨Ob, 0, none⟩) own.length own.length, .pointer (some ⟨p, 0, none⟩)] 107 (0, 0))
  body : w.heap[Wb]? = some (.cells (W.map wordV).toArray 33 (0, 0))
  owners : w.heap[Ob]? = some (.cells (own.map ownV).toArray 3 (0, 0))
  map : ∃ u, MapAt w p q (own.map busy) u 148 33
  hW : W.length = own.length * size
  s1 : 1 ≤ size
  s2 : size ≤ 1024
  o1 : 1 ≤ own.length
  o2 : own.length ≤ 1024
  pos : ∀ o ∈ own, 0 ≤ o
  n1 : B ≠ Wb
  n2 : B ≠ Ob
  n3 : B ≠ p
  n4 : B ≠ q
  n5 : Wb ≠ Ob
  n6 : Wb ≠ p
  n7 : Wb ≠ q
  n8 : Ob ≠ p
  n9 : Ob ≠ q
def Five (B Wb Ob p q : Nat) (k : Nat) : Prop := k = B ∨ k = Wb ∨ k = Ob ∨ k = p ∨ k = q
/-- What the calls of a store turn: its words, its owners, its map. -/
def Four3 (Wb Ob p q : Nat) (k : Nat) : Prop := k = Wb ∨ k = Ob ∨ k = p ∨ k = q
theorem StoreAt.wlen (h : StoreAt w B Wb Ob p q W size own) : W.length ≤ 1048576 := by
  rw [h.hW]
  exact Nat.le_trans (Nat.mul_le_mul h.o2 h.s2) (by decide)
theorem StoreAt.mod {P : Nat → Prop} (h : StoreAt w B Wb Ob p q W size own) (hm : Mod P w w') (hn : ∀ k, Five B Wb Ob p q k → ¬ P k) : StoreAt w' B Wb Ob p q W size own := by
  obtain ⟨u, hu⟩ := h.map
  exact { h with head := hm.keeps h.head (hn _ (.inl rfl)), body := hm.keeps h.body (hn _ (.inr (.inl rfl))), owners := hm.keeps h.owners (hn _ (.inr (.inr (.inl rfl)))), map := ⟨u, hu.mod hm (hn _ (.inr (.inr (.inr (.inl rfl))))) (hn _ (.inr (.inr (.inr (.inr rfl)))))⟩ }
theorem StoreAt.on (h : StoreAt w B Wb Ob p q W size own) (hb : Below w.heap.size w w') : StoreAt w' B Wb Ob p q W size own := h.mod (P := fun _ => False) (.of_below hb) (fun _ _ x => x)
theorem StoreAt.c0 (h : StoreAt w B Wb Ob p q W size own) : w.cell? ⟨B, 0, none⟩ = some (.slice (some ⟨Wb, 0, none⟩) W.length W.length) := (blk_cells h.head 0).trans rfl
theorem StoreAt.c1 (h : StoreAt w B Wb Ob p q W size own) : w.cell? ⟨B, 1, none⟩ = some (.int .i64 size) := (blk_cells h.head 1).trans rfl
theorem StoreAt.c2 (h : StoreAt w B Wb Ob p q W size own) : w.cell? ⟨B, 2, none⟩ = some (.slice (some ⟨Ob, 0, none⟩) own.length own.length) := (blk_cells h.head 2).trans rfl
theorem StoreAt.c3 (h : StoreAt w B Wb Ob p q W size own) : w.cell? ⟨B, 3, none⟩ = some (.pointer (some ⟨p, 0, none⟩)) := (blk_cells h.head 3).trans rfl
theorem row_cell {w : World} {b : Nat} {xs : List Value} {t : TypeId} (h : w.heap[b]? = some (.cells xs.toArray t (0, 0))) (i : Nat) : w.cell? ⟨b, i, none⟩ = xs[i]? := by rw [blk_cells h i]; simp
theorem StoreAt.own_cell (h : StoreAt w B Wb Ob p q W size own) (i : Nat) (hi : i < own.length) : w.cell? ⟨Ob, i, none⟩ = some (.int .i64 (own.getD i 0)) := by
  rw [row_cell h.owners i]
  simp [List.getD, hi, ownV]
theorem StoreAt.word_cell (h : StoreAt w B Wb Ob p q W size own) (i : Nat) (hi : i < W.length) : w.cell? ⟨Wb, i, none⟩ = some (.int .u64 (W.getD i 0)) := by
  rw [row_cell h.body i]
  simp [List.getD, hi, wordV]
/-- The owners when n from a on are o's. -/
def fillO (own : List Int) (a : Nat) (o : Int) : Nat → List Int
  | 0 => own
  | n + 1 => (fillO own a o n).set (a + n) o
theorem fillO_length (own : List Int) (a : Nat) (o : Int) : ∀ n, (fillO own a o n).length = own.length
  | 0 => rfl
  | n + 1 => by show (List.set _ _ _).length = _; rw [List.length_set, fillO_length own a o n]
theorem fillO_busy (own : List Int) (a : Nat) (o : Int) (ho : o ≠ 0) : ∀ n, (fillO own a o n).map busy = fillL (own.map busy) a true n
  | 0 => rfl
  | n + 1 => by
    show (List.set _ _ _).map busy = List.set _ _ _
    rw [List.map_set, fillO_busy own a o ho n]
    simp [busy, ho]
theorem fillO_getD (own : List Int) (a : Nat) (o : Int) (i : Nat) : ∀ n, a + n ≤ own.length → (fillO own a o n).getD i 0 = if a ≤ i ∧ i < a + n then o else own.getD i 0
  | 0, _ => by rw [if_neg (by omega)]; rfl
  | n + 1, h => by
    have hl := fillO_length own a o n
    show ((fillO own a o n).set (a + n) o).getD i 0 = _
    by_cases hi : i = a + n
    · subst hi
      rw [if_pos (by omega)]
      simp [List.getD, hl, show a + n < own.length by omega]
    · have : ((fillO own a o n).set (a + n) o).getD i 0 = (fillO own a o n).getD i 0 := by simp [List.getD, show ¬ a + n = i by omega]
      rw [this, fillO_getD own a o i n (by omega)]
      by_cases h1 : a ≤ i ∧ i < a + n
      · rw [if_pos h1, if_pos (by omega)]
      · rw [if_neg h1, if_neg (by omega)]
theorem fillO_pos (own : List Int) (a : Nat) (o : Int) (ho : 0 ≤ o) (h : ∀ x ∈ own, 0 ≤ x) : ∀ n, ∀ x ∈ fillO own a o n, 0 ≤ x
  | 0 => h
  | n + 1 => fun x hx => by
    rcases List.mem_or_eq_of_mem_set hx with g | g
    · exact fillO_pos own a o ho h n x g
    · rw [g]; exact ho
/-- The words when n from a on are 0. -/
def zeroW (W : List Int) (a n : Nat) : List Int := splice W a (List.replicate n 0)
theorem zeroW_length (W : List Int) (a n : Nat) (h : a + n ≤ W.length) : (zeroW W a n).length = W.length := length_splice _ _ _ (by simpa using h)
theorem zeroW_map (W : List Int) (a n : Nat) : (zeroW W a n).map wordV = splice (W.map wordV) a (List.replicate n (.int .u64 0)) := by
  unfold zeroW splice
  simp [List.map_take, List.map_drop, wordV]
theorem splice_getD {W cs : List Int} {a : Nat} (h : a + cs.length ≤ W.length) (i : Nat) : (splice W a cs).getD i 0 = if a ≤ i ∧ i < a + cs.length then cs.getD (i - a) 0 else W.getD i 0 := by
  unfold splice
  have hmin : min a W.length = a := by omega
  simp only [List.getD, List.getElem?_append, List.getElem?_take, List.length_take, List.getElem?_drop, hmin]
  by_cases h1 : i < a
  · rw [if_pos h1, if_pos h1, if_neg (by omega)]
  · by_cases h2 : i < a + cs.length
    · rw [if_neg h1, if_pos (by omega), if_pos (by omega)]
    · rw [if_neg h1, if_neg (by omega), if_neg (by omega)]
      congr 2
      omega
theorem zeroW_getD {W : List Int} {a n : Nat} (h : a + n ≤ W.length) (i : Nat) : (zeroW W a n).getD i 0 = if a ≤ i ∧ i < a + n then 0 else W.getD i 0 := by
  unfold zeroW
  rw [splice_getD (by simpa using h), List.length_replicate]
  split
  · simp [List.getD, List.getElem?_replicate]; split <;> rfl
  · rfl
/-- How many are free. -/
def freeN (own : List Int) : Nat := own.length - many (own.map busy)
/-- The first of n free ones in a row, whether there is one. -/
noncomputable def runAtO (own : List Int) (n : Nat) : Nat × Bool := runL n (own.map busy) 0
end Go.Proofs.YtfflacggaebonaaGreatDoor
end
section
namespace Go.Proofs.YtfflacggaebonaaGreatDoor
open Go.RowKit
set_option linter.unusedVariables false
theorem run_clear_row {P : Program} (w : World) (t elem ty : TypeId) (hu : P.underlying t = some (.slice elem)) (z : Value) (hz : (zeroValue elem).run P w = .ok z w) (hc : z.cells = #[z]) (h1 : z.oneCell' = true)
    (g off n cap : Nat) (hn : 0 < n) (cur : List Value) (tt : TypeId) (hg : w.heap[g]? = some (.cells cur.toArray tt (0, 0))) (hfit : off + n ≤ cur.length) :
    (Builtin.clear_ #[t] ty #[.slice (some ⟨g, off, none⟩) n cap]).run P w = .ok (.tuple #[]) (w.setRow g (splice cur off (List.replicate n z)).toArray) := by
  obtain ⟨m, rfl⟩ : ∃ m, n = m + 1 := ⟨n - 1, by omega⟩
  have hst := run_storeCells_at P g off tt (List.replicate (m + 1) z) 0 cur.toArray w hg (by simpa using hfit) (fun v hv => by rw [(List.mem_replicate.1 hv).2]; exact h1)
  have hzc : (Builtin.zeroCells z.cells (m + 1)).toList = List.replicate (m + 1) z := by
    unfold Builtin.zeroCells
    rw [hc]
    apply List.ext_getElem
    · simp
    · intro i h2 h3
      simp [Nat.mod_one]
  simp [Builtin.clear_, run_underlying hu, hz, hzc, hst, splice]
theorem step_clear {P : Program} {ops : Array Oper} {o : Oper} {a : Act} {w : World} {K : Act → World → Prop} {Q : Exit → Act → World → Prop} {E : Prop} (hgd : o.guard = none) (d : Operand) (t : TypeId)
    (ho : o.op = .call { callee := .builtin .clear, args := #[d], argTypes := #[t] }) (elem : TypeId) (hu : P.underlying t = some (.slice elem)) (z : Value) (hz : (zeroValue elem).run P w = .ok z w) (hc : z.cells = #[z]) (h1 : z.oneCell' = true)
    (g off n cap : Nat) (hd : a.eval d = .slice (some ⟨g, off, none⟩) n cap) (hn : 0 < n) (cur : List Value) (tt : TypeId) (hg : w.heap[g]? = some (.cells cur.toArray tt (0, 0))) (hfit : off + n ≤ cur.length)
    (h : ∀ w', RowKit.Hid (w'.heap[g]? = some (.cells (splice cur off (List.replicate n z)).toArray tt (0, 0)) ∧ Mod (fun k => k = g) w w') → K (a.put o.dst (.tuple #[])) w') :
    if Region.wanted o (yielded ops a.tmps) = true then Oper.wp P o a w K Q else E := by
  have hw : Region.wanted o (yielded ops a.tmps) = true := by simp [Region.wanted, hgd]
  rw [if_pos hw]
  have hrun := run_clear_row (P := P) w t elem o.type hu z hz hc h1 g off n cap hn cur tt hg hfit
  unfold Oper.wp
  simp [execOp, ho, resolve, invoke, builtin, hd, hrun, Result.andThen]
  exact h _ ⟨setRow_heap w g _ _ tt _ hg, ⟨rfl, rfl, rfl, by simp [World.setRow], fun k hk hn => setRow_other w g k _ (fun e => hn e)⟩⟩
theorem wpList_clear {P : Program} {ops : Array Oper} {rest : List Oper} {o : Oper} {a : Act} {w : World} {Q : Exit → Act → World → Prop} (hgd : o.guard = none) (d : Operand) (t : TypeId)
    (ho : o.op = .call { callee := .builtin .clear, args := #[d], argTypes := #[t] }) (elem : TypeId) (hu : P.underlying t = some (.slice elem)) (z : Value) (hz : (zeroValue elem).run P w = .ok z w) (hc : z.cells = #[z]) (h1 : z.oneCell' = true)
    (g off n cap : Nat) (hd : a.eval d = .slice (some ⟨g, off, none⟩) n cap) (hn : 0 < n) (cur : List Value) (tt : TypeId) (hg : w.heap[g]? = some (.cells cur.toArray tt (0, 0))) (hfit : off + n ≤ cur.length)
    (h : ∀ w', RowKit.Hid (w'.heap[g]? = some (.cells (splice cur off (List.replicate n z)).toArray tt (0, 0)) ∧ Mod (fun k => k = g) w w') → wpList P ops Q rest (a.put o.dst (.tuple #[])) w') :
    wpList P ops Q (o :: rest) a w := by
  refine wpList_plain hgd fun K hK => ?_
  have hrun := run_clear_row (P := P) w t elem o.type hu z hz hc h1 g off n cap hn cur tt hg hfit
  unfold Oper.wp
  simp [execOp, ho, resolve, invoke, builtin, hd, hrun, Result.andThen]
  exact hK _ _ (h _ ⟨setRow_heap w g _ _ tt _ hg, ⟨rfl, rfl, rfl, by simp [World.setRow], fun k hk hn => setRow_other w g k _ (fun e => hn e)⟩⟩)
theorem still_tail_at {P : Program} {id : Nat} {Q : Exit → Act → World → Prop} {a : Act} {w w3 : World} {l : List Oper} (n : Nat) (hm : P.follows .mixedOrders = true) (hB : Region.lexTailB .any l.toArray n = true) (hw : w3 = w.drew)
    (h : wpStill P l.toArray w3 (fun a' => wpList P l.toArray Q (l.drop n) a' w3) (l.take n) a) : (Code.region id l.toArray true).wp P Q a w := by
  subst hw
  exact wp_region_still_tail n hm hB h
end Go.Proofs.YtfflacggaebonaaGreatDoor
end
section
namespace Go.Proofs.YtfflacggaebonaaGreatDoor
open Go.RowKit
set_option linter.unusedVariables false
set_option linter.unusedSimpArgs false
variable {w : World} {p q : Nat} {bits : List Bool} {ws : List Nat} {T T' : TypeId}
set_option maxRecDepth 100000 in
theorem next_any (h : MapAt w p q bits ws T T') (hT : Tab w) (a : Nat) (ha : a ≤ 1048577) : Calls Tryz.prog 89 #[.pointer (some ⟨p, 0, none⟩), .int .i64 a] w fun e w' => e = .returned (.int .i64 (seek true bits a)) ∧ w = w' := by
  have h0 := h.n
  have h1 := h.w_
  have hle := h.le
  have H := Lib.hid h
  have HTab := Lib.hid hT
  clear h hT
  go_enter Tryz.func89, Tryz.ntmps89
  go_wp2
  go_loopw [1] (fun v1 wr => ∃ k : Nat, k ≤ 1048640 ∧ v1 = .int .i64 k ∧ wr = w ∧ Hid (seek true bits k = seek true bits a)) (fun v1 _ => 1048704 - (intOf v1).toNat)
  case atStart => exact ⟨a, by omega, rfl, rfl, Lib.hid rfl⟩
  case round =>
    obtain ⟨k, hk, rfl, rfl, HK⟩ := hrel
    by_cases hlt : k < bits.length
    · have hj := H.out.wlen hlt
      have h2 := H.out.word (k / 64) hj
      have HW := Lib.hid (H.out.words.tells_on k)
      have hx := H.out.words.bound (k / 64)
      have hz : ((ws.getD (k / 64) 0 : Nat) : Int) / 2 ^ (k % 64) = ((ws.getD (k / 64) 0 / 2 ^ (k % 64) : Nat) : Int) := by simp
      generalize ws.getD (k / 64) 0 = x at h2 HW hz hx
      by_cases h0 : x / 2 ^ (k % 64) = 0
      · have hz0 : ((x : Int) / 2 ^ (k % 64) != 0) = false := by rw [hz, h0]; rfl
        have HN := Lib.hid ((HW.out.none h0).symm.trans HK.out)
        clear h0 hz hx HW
        go_wp2
        go_roundw
        case rel => exact ⟨(k / 64 + 1) * 64, by omega, by go_num, trivial, HN⟩
        case measure => simp [intOf]; omega
      · have hz0 : ((x : Int) / 2 ^ (k % 64) != 0) = true := by rw [hz]; simp [bne]; omega
        obtain ⟨g1, g2, g3⟩ := HW.out.some h0
        have g4 : k + Lib.ctz 64 (x / 2 ^ (k % 64)) < bits.length := by
          apply Classical.byContradiction
          intro g
          simp [List.getD, Nat.le_of_not_lt g] at g1
        have HR := Lib.hid (HK.out.symm.trans (g2.trans (seek_hit g4 g1)))
        have HZ := Lib.hid hz
        have HC := Lib.hid (tz_any (x / 2 ^ (k % 64)) HW.out.lt h0 HTab.out)
        generalize Lib.ctz 64 (x / 2 ^ (k % 64)) = c at *
        clear h0 hz hx HW g1 g2
        go_wp2_with (go_at_call 96; rw [HZ.out]; refine HC.out.mono ?_; rintro e w' ⟨rfl, rfl⟩)
        go_ret
        exact ⟨by rw [HR.out]; rfl, rfl⟩
    · have HR := Lib.hid (HK.out.symm.trans (seek_end (by omega)))
      go_wp2
      go_ret
      exact ⟨by rw [HR.out]; rfl, rfl⟩
theorem not_u64 (x : Nat) (hx : x < 18446744073709551616) : Go.bits .xor .u64 IntKind.u64.max (x : Int) = ((18446744073709551615 - x : Nat) : Int) := by
  have e : IntKind.u64.max = ((18446744073709551615 : Nat) : Int) := by decide
  rw [e, bits_xor_u64_nat _ _ (by decide) hx]
  congr 1
  apply Nat.eq_of_testBit_eq
  intro i
  have h1 := Nat.testBit_two_pow_sub_succ (n := 64) (x := x) hx i
  have h2 := Nat.testBit_two_pow_sub_one 64 i
  rw [show 2 ^ 64 - (x + 1) = 18446744073709551615 - x by omega] at h1
  rw [show 2 ^ 64 - 1 = 18446744073709551615 by decide] at h2
  rw [Nat.testBit_xor, h1, h2]
  by_cases hi : i < 64
  · simp [hi]
  · have : x.testBit i = false := by
      cases e : x.testBit i
      · rfl
      · exact absurd (bit_lt hx e) hi
    simp [hi, this]
/-- What First answers. -/
def FirstL (bits : List Bool) (a : Nat) : Nat × Bool := if seek false bits a < bits.length then (seek false bits a, true) else (0, false)
def FirstPost (bits : List Bool) (a : Nat) (w : World) (e : Ending) (w' : World) : Prop := e = .returned (.tuple #[.int .i64 (FirstL bits a).1, .bool (FirstL bits a).2]) ∧ w = w'
theorem firstPost {a r : Nat} {w : World} (h : seek false bits a = r) (hr : r < bits.length) : FirstPost bits a w (.returned (.tuple #[.int .i64 r, .bool true])) w := by
  subst h
  unfold FirstPost FirstL
  rw [if_pos hr]
  exact ⟨rfl, rfl⟩
theorem firstPost0 {a : Nat} {w : World} (h : seek false bits a = bits.length) : FirstPost bits a w (.returned (.tuple #[.int .i64 0, .bool false])) w := by
  unfold FirstPost FirstL
  rw [h, if_neg (Nat.lt_irrefl _)]
  exact ⟨rfl, rfl⟩
set_option maxRecDepth 100000 in
theorem first_any (h : MapAt w p q bits ws T T') (hT : Tab w) (a : Int) : Calls Tryz.prog 88 #[.pointer (some ⟨p, 0, none⟩), .int .i64 a] w (FirstPost bits a.toNat w) := by
  have h0 := h.n
  have h1 := h.w_
  have hle := h.le
  have H := Lib.hid h
  have HTab := Lib.hid hT
  clear h hT
  go_enter Tryz.func88, Tryz.ntmps88
  go_wp2
  all_goals
    go_loopw [1] (fun v1 wr => ∃ k : Nat, v1 = .int .i64 k ∧ wr = w ∧ Hid (seek false bits k = seek false bits a.toNat)) (fun v1 _ => 1048704 - (intOf v1).toNat)
    case atStart => exact ⟨a.toNat, by congr 1; omega, rfl, Lib.hid rfl⟩
    case round =>
      obtain ⟨k, rfl, rfl, HK⟩ := hrel
      by_cases hlt : k < bits.length
      · have hj := H.out.wlen hlt
        have h2 := H.out.word (k / 64) hj
        have HW := Lib.hid (H.out.words.tells_off k)
        have hx := H.out.words.bound (k / 64)
        generalize ws.getD (k / 64) 0 = x at h2 HW hx
        have hz : Go.bits .xor .u64 IntKind.u64.max (x : Int) / 2 ^ (k % 64) = (((18446744073709551615 - x) / 2 ^ (k % 64) : Nat) : Int) := by rw [not_u64 x hx]; simp
        by_cases h0 : (18446744073709551615 - x) / 2 ^ (k % 64) = 0
        · have hz0 : (Go.bits .xor .u64 IntKind.u64.max (x : Int) / 2 ^ (k % 64) != 0) = false := by rw [hz, h0]; rfl
          have hz1 : (Go.bits .xor .u64 (if IntKind.u64.signed = true then -1 else IntKind.u64.max) (x : Int) / 2 ^ (k % 64) != 0) = false := hz0
          have HN := Lib.hid ((HW.out.none h0).symm.trans HK.out)
          clear h0 hz hx HW
          go_wp2_with (go_at_call 95; refine (len_any H.out).mono ?_; rintro e w' ⟨rfl, rfl⟩)
          go_roundw
          case rel => exact ⟨(k / 64 + 1) * 64, by go_num, trivial, HN⟩
          case measure => simp [intOf]; omega
        · have hz0 : (Go.bits .xor .u64 IntKind.u64.max (x : Int) / 2 ^ (k % 64) != 0) = true := by rw [hz]; generalize (18446744073709551615 - x) / 2 ^ (k % 64) = y at h0; simp; omega
          have hz1 : (Go.bits .xor .u64 (if IntKind.u64.signed = true then -1 else IntKind.u64.max) (x : Int) / 2 ^ (k % 64) != 0) = true := hz0
          obtain ⟨g1, g2, g3⟩ := HW.out.some h0
          have HZ := Lib.hid hz
          have HC := Lib.hid (tz_any ((18446744073709551615 - x) / 2 ^ (k % 64)) HW.out.lt h0 HTab.out)
          generalize Lib.ctz 64 ((18446744073709551615 - x) / 2 ^ (k % 64)) = c at *
          by_cases g4 : k + c < bits.length
          · have HR := Lib.hid (HK.out.symm.trans (g2.trans (seek_hit g4 g1)))
            have g5 : ¬ ((bits.length : Int) ≤ k + c) := by omega
            clear h0 hz hx HW g1 g2
            go_wp2_with (first | (go_at_call 95; refine (len_any H.out).mono ?_; rintro e w' ⟨rfl, rfl⟩) | (go_at_call 96; rw [HZ.out]; refine HC.out.mono ?_; rintro e w' ⟨rfl, rfl⟩))
            go_ret2
            exact firstPost HR.out g4
          · have HR := Lib.hid (HK.out.symm.trans (g2.trans (seek_end (Nat.le_of_not_lt g4))))
            have g5 : (bits.length : Int) ≤ k + c := by omega
            clear h0 hz hx HW g1 g2
            go_wp2_with (first | (go_at_call 95; refine (len_any H.out).mono ?_; rintro e w' ⟨rfl, rfl⟩) | (go_at_call 96; rw [HZ.out]; refine HC.out.mono ?_; rintro e w' ⟨rfl, rfl⟩))
            go_ret2
            exact firstPost0 HR.out
      · have HR := Lib.hid (HK.out.symm.trans (seek_end (by omega)))
        have g5 : (bits.length : Int) ≤ k := by omega
        go_wp2_with (go_at_call 95; refine (len_any H.out).mono ?_; rintro e w' ⟨rfl, rfl⟩)
        go_ret2
        exact firstPost0 HR.out
end Go.Proofs.YtfflacggaebonaaGreatDoor
end
section
namespace Go.Proofs.YtfflacggaebonaaGreatDoor
open Go.RowKit
set_option linter.unusedVariables false
set_option linter.unusedSimpArgs false
variable {w : World} {p q : Nat} {bits : List Bool} {ws : List Nat} {T T' : TypeId}
theorem run_few (p : Value) (n : Int) (hn : n < 1) (w : World) : Calls Tryz.prog 77 #[p, .int .i64 n] w fun e w' => e = .returned (.tuple #[.int .i64 0, .bool false]) ∧ w = w' := by
  go_enter Tryz.func77, Tryz.ntmps77
  go_wp2
  go_ret2
  exact ⟨rfl, rfl⟩
def RunPost (bits : List Bool) (n : Nat) (w : World) (e : Ending) (w' : World) : Prop := e = .returned (.tuple #[.int .i64 (runL n bits 0).1, .bool (runL n bits 0).2]) ∧ w = w'
theorem runPost {n a : Nat} {b : Bool} {w : World} (h : runL n bits 0 = (a, b)) : RunPost bits n w (.returned (.tuple #[.int .i64 a, .bool b])) w := by
  unfold RunPost; rw [h]; exact ⟨rfl, rfl⟩
/-- What First answers, taken apart. -/
theorem first_cases (bits : List Bool) (a : Nat) : (∃ s, FirstL bits a = (s, true) ∧ seek false bits a = s ∧ s < bits.length ∧ bits.getD s false = false) ∨ (FirstL bits a = (0, false) ∧ seek false bits a = bits.length) := by
  unfold FirstL
  by_cases h : seek false bits a < bits.length
  · exact .inl ⟨_, by rw [if_pos h], rfl, h, seek_at h⟩
  · exact .inr ⟨by rw [if_neg h], by have := seek_le false bits a; omega⟩
theorem first_of (h : MapAt w p q bits ws T T') (hT : Tab w) (a : Nat) (s : Nat) (b : Bool) (hs : FirstL bits a = (s, b)) : Calls Tryz.prog 88 #[.pointer (some ⟨p, 0, none⟩), .int .i64 a] w fun e w' => e = .returned (.tuple #[.int .i64 s, .bool b]) ∧ w = w' := by
  have := first_any h hT a
  unfold FirstPost at this
  rw [Int.toNat_natCast, hs] at this
  exact this
/-- Where the loop stands. -/
def RunAt (bits : List Bool) (n s : Nat) (b : Bool) : Prop := (b = true ∧ s < bits.length ∧ bits.getD s false = false ∧ runL n bits 0 = runL n bits s) ∨ (b = false ∧ s = 0 ∧ runL n bits 0 = (0, false))
theorem runAt {n a : Nat} (hn : 1 ≤ n) (ha : a ≤ bits.length) (h : runL n bits 0 = runL n bits a) {s : Nat} {b : Bool} (hs : FirstL bits a = (s, b)) : RunAt bits n s b := by
  rcases first_cases bits a with ⟨s', h1, h2, h3, h4⟩ | ⟨h1, h2⟩
  · rw [h1] at hs
    cases hs
    exact .inl ⟨rfl, h3, h4, h.trans (run_over hn ha h2)⟩
  · rw [h1] at hs
    cases hs
    exact .inr ⟨rfl, rfl, h.trans ((run_over hn ha h2).trans (run_last hn))⟩
set_option maxRecDepth 100000 in
theorem run_any (h : MapAt w p q bits ws T T') (hT : Tab w) (n : Nat) (hn : 1 ≤ n) : Calls Tryz.prog 77 #[.pointer (some ⟨p, 0, none⟩), .int .i64 n] w (RunPost bits n w) := by
  have hle := h.le
  have H := Lib.hid h
  have HTab := Lib.hid hT
  have c1 : ¬ ((n : Int) < 1) := by omega
  have HN := Lib.hid hn
  obtain ⟨s0, b0⟩ : Nat × Bool := FirstL bits 0
  cases hf0 : FirstL bits 0 with
  | mk s0 b0 =>
  have HC0 := Lib.hid (first_of h hT 0 s0 b0 hf0)
  have HA := Lib.hid (runAt hn (Nat.zero_le _) rfl hf0)
  clear h hT hn hf0
  go_enter Tryz.func77, Tryz.ntmps77
  go_wp2_with (go_at_call 88; refine HC0.out.mono ?_; rintro e w' ⟨rfl, rfl⟩)
  go_loopw [6, 7] (fun v6 v7 wr => ∃ (s : Nat) (b : Bool), v6 = .int .i64 s ∧ v7 = .bool b ∧ wr = w ∧ Hid (RunAt bits n s b)) (fun v6 v7 _ => match v7 with | .bool true => 1048579 - (intOf v6).toNat | _ => 0)
  case atStart => exact ⟨s0, b0, rfl, rfl, rfl, HA⟩
  case round =>
    obtain ⟨s, b, rfl, rfl, rfl, HK⟩ := hrel
    rcases HK.out with ⟨rfl, hs, hb, hr⟩ | ⟨rfl, rfl, hr⟩
    · have e1 : s < seek true bits s := by
        have g1 : s ≤ seek true bits s := seek_ge (by omega)
        rcases Nat.lt_or_ge s (seek true bits s) with g | g
        · exact g
        · have g2 : seek true bits s = s := by omega
          have g3 := seek_at (b := true) (bits := bits) (i := s) (by omega)
          rw [g2, hb] at g3; cases g3
      have e2 := seek_le true bits s
      have HC := Lib.hid (next_any H.out HTab.out s (by omega))
      generalize hE : seek true bits s = E at *
      by_cases hn : n ≤ E - s
      · have HR := Lib.hid (hr.trans (run_long hs hE hn))
        have c2 : (n : Int) ≤ (E : Int) - s := by omega
        clear hr hE
        go_wp2_with (go_at_call 89; refine HC.out.mono ?_; rintro e w' ⟨rfl, rfl⟩)
        go_ret2
        exact runPost HR.out
      · have c2 : ¬ (n : Int) ≤ (E : Int) - s := by omega
        have hr2 := hr.trans (run_short hs hE (by omega))
        cases hf : FirstL bits E with
        | mk s1 b1 =>
        have HC1 := Lib.hid (first_of H.out HTab.out E s1 b1 hf)
        have HA1 := Lib.hid (runAt HN.out e2 hr2 hf)
        have HM : Hid (b1 = true → s < s1) := Lib.hid (by
          rintro rfl
          rcases first_cases bits E with ⟨s', k1, k2, k3, k4⟩ | ⟨k1, k2⟩
          · rw [k1] at hf; cases hf
            have := seek_ge (b := false) (bits := bits) e2
            omega
          · rw [k1] at hf; cases hf)
        clear hr hE hr2 hf
        go_wp2_with (first | (go_at_call 89; refine HC.out.mono ?_; rintro e w' ⟨rfl, rfl⟩) | (go_at_call 88; refine HC1.out.mono ?_; rintro e w' ⟨rfl, rfl⟩))
        go_roundw
        case rel => exact ⟨s1, b1, rfl, rfl, trivial, HA1⟩
        case measure =>
          have hm := HM.out
          cases b1
          · simp [intOf]; omega
          · have := hm rfl
            simp [intOf]; omega
    · have HR := Lib.hid hr
      clear hr
      go_wp2
      go_ret2
      exact runPost HR.out
end Go.Proofs.YtfflacggaebonaaGreatDoor
end
