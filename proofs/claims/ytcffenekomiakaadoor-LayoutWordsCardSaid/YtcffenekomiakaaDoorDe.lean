/- The words of a layout, encoded and decoded: walks. -/
import Derived.Test.YtcffenekomiakaaDoorSp
import Derived.Test.YtcffenekomiakaaDoorU
import Derived.Test.YtcffenekomiakaaDoorB
namespace Go.Proofs.YtcffenekomiakaaDoor
open Go.RowKit
set_option linter.unusedVariables false
set_option linter.unusedSimpArgs false
variable {w w' : World}
theorem gatherGo_nat : ∀ (l : List Int) (m : Nat), m < 18446744073709551616 → (∀ p ∈ l, 0 ≤ p ∧ p < 64) → gatherGo m l = (gatherN m l : Int)
  | [], m, _, _ => rfl
  | p :: t, m, hm, h => by
    have hp := h p (by simp)
    have hlt : 2 ^ p.toNat < 18446744073709551616 := Nat.pow_lt_pow_right (n := 64) (by decide) (by omega)
    have hw : IntKind.u64.wrap (2 ^ p.toNat) = ((2 ^ p.toNat : Nat) : Int) := by
      rw [IntKind.wrap_u64]
      have : ((2 : Int) ^ p.toNat) = ((2 ^ p.toNat : Nat) : Int) := by simp
      rw [this]
      generalize 2 ^ p.toNat = q at *
      omega
    have ho : m ||| 2 ^ p.toNat < 18446744073709551616 := Nat.or_lt_two_pow (n := 64) hm hlt
    simp only [gatherGo, gatherN]
    rw [hw]
    generalize 2 ^ p.toNat = q at *
    have e : bits .or .u64 (m : Int) (q : Int) = ((m ||| q : Nat) : Int) := by
      rw [u64_or _ _ (by omega) (by omega) (by omega) (by omega)]; simp
    rw [e]
    exact gatherGo_nat t _ ho (fun q hq => h q (by simp [hq]))
theorem gatherI_nat (l : List Int) (h : ∀ p ∈ l, 0 ≤ p ∧ p < 64) : gatherI l = (gatherN 0 l : Int) := gatherGo_nat l 0 (by decide) h
/-- Three words lie at a slice. -/
def Words (w : World) (A : Option Addr) (a b c : Nat) : Prop := ∃ B o, A = some ⟨B, o, none⟩ ∧ w.cell? ⟨B, o, none⟩ = some (.int .u64 a) ∧ w.cell? ⟨B, o + 1, none⟩ = some (.int .u64 b) ∧ w.cell? ⟨B, o + 2, none⟩ = some (.int .u64 c)
theorem Words.on {A : Option Addr} {a b c : Nat} (h : Words w A a b c) (hb : Below w.heap.size w w') : Words w' A a b c := by
  obtain ⟨B, o, e, h0, h1, h2⟩ := h
  exact ⟨B, o, e, cell_on hb h0, cell_on hb h1, cell_on hb h2⟩
/-- The words of a right layout. -/
def wd0 (x : Lay) : Nat := (x.fixed + 256 * x.record).toNat
def wd1 (x : Lay) : Nat := gatherN 0 x.refs
def wd2 (x : Lay) : Nat := gatherN 0 x.recs
theorem right_words {x : Lay} (hx : x.right = true) : ((wd0 x : Nat) : Int) = x.fixed + 256 * x.record ∧ gatherI x.refs = (wd1 x : Nat) ∧ gatherI x.recs = (wd2 x : Nat) ∧ wd1 x = wordUp x.refs 64 ∧ wd2 x = wordUp x.recs 64 ∧ wd0 x < 65536 ∧ wd1 x < 2 ^ 64 ∧ wd2 x < 2 ^ 64 ∧ decLay (wd0 x) (wd1 x) (wd2 x) = x := by
  obtain ⟨r1, r2, r3, r4, r5, r6, r7⟩ := Lay.right_out hx
  have a1 := rise_all r6
  have a2 := rise_all r7
  have b1 : ∀ p ∈ x.refs, 0 ≤ p ∧ p < 64 := fun p hp => by have := a1.2 p hp; omega
  have b2 : ∀ p ∈ x.recs, 0 ≤ p ∧ p < 64 := fun p hp => by have := a2.2 p hp; omega
  have e0 : ((wd0 x : Nat) : Int) = x.fixed + 256 * x.record := by unfold wd0; omega
  refine ⟨e0, gatherI_nat _ b1, gatherI_nat _ b2, gather_word _ b1, gather_word _ b2, by omega, gather_lt _ b1, gather_lt _ b2, ?_⟩
  unfold decLay wd1 wd2
  rw [bits_gather _ a1.1 b1, bits_gather _ a2.1 b2]
  obtain ⟨F, l1, R, l2⟩ := x
  simp only [] at *
  congr 1 <;> omega
set_option maxRecDepth 100000 in
set_option maxHeartbeats 2000000 in
theorem refencode_any (x : Lay) (A1 : Option Addr) (c1 : Nat) (A2 : Option Addr) (c2 : Nat) (w : World) (h : LayIs w x A1 c1 A2 c2) (hx : x.right = true) :
    Calls Tryd.prog 10 #[layV x A1 c1 A2 c2] w fun e w' => ∃ g, e = .returned (.slice (some ⟨g, 0, none⟩) 3 3) ∧ Words w' (some ⟨g, 0, none⟩) (wd0 x) (wd1 x) (wd2 x) ∧ Below w.heap.size w w' := by
  obtain ⟨q0, _, _, q3, q4, q5, _, _, _⟩ := right_words hx
  obtain ⟨r1, r2, r3, r4, r5, r6, r7⟩ := Lay.right_out hx
  have HG1 : Hid (∀ X, LayIs X x A1 c1 A2 c2 → Calls Tryd.prog 22 #[.slice A1 x.refs.length c1] X fun e w' => e = .returned (.int .u64 (wd1 x : Nat)) ∧ Below X.heap.size X w') := Lib.hid (fun X hX => by rw [q3]; exact word_any _ _ _ X hX.h1 hX.m1)
  have HG2 : Hid (∀ X, LayIs X x A1 c1 A2 c2 → Calls Tryd.prog 22 #[.slice A2 x.recs.length c2] X fun e w' => e = .returned (.int .u64 (wd2 x : Nat)) ∧ Below X.heap.size X w') := Lib.hid (fun X hX => by rw [q4]; exact word_any _ _ _ X hX.h2 hX.m2)
  have hb0 := below1 w (.cells #[.int .i64 x.fixed, .slice A1 x.refs.length c1, .int .i64 x.record, .slice A2 x.recs.length c2] 24)
  have HW := Lib.hid h
  have B1 := hb0
  have hblk := heap_alloc_new w (.cells #[.int .i64 x.fixed, .slice A1 x.refs.length c1, .int .i64 x.record, .slice A2 x.recs.length c2] 24)
  have d0 : _ = some (Value.int .i64 x.fixed) := (blk_cells hblk 0).trans rfl
  have d1 : _ = some (Value.slice A1 x.refs.length c1) := (blk_cells hblk 1).trans rfl
  have d2 : _ = some (Value.int .i64 x.record) := (blk_cells hblk 2).trans rfl
  have d3 : _ = some (Value.slice A2 x.recs.length c2) := (blk_cells hblk 3).trans rfl
  have hw1 : wrap64 (256 * x.record) = 256 * x.record := by unfold wrap64; omega
  have hw2 : wrap64 (x.fixed + 256 * x.record) = ((wd0 x : Nat) : Int) := by rw [q0]; unfold wrap64; omega
  have hw3 : IntKind.i64.wrap (256 * x.record) = 256 * x.record := by rw [IntKind.wrap_i64]; omega
  have hw4 : IntKind.i64.wrap (x.fixed + 256 * x.record) = ((wd0 x : Nat) : Int) := by rw [q0, IntKind.wrap_i64]; omega
  have hw5 : IntKind.u64.wrap ((wd0 x : Nat) : Int) = ((wd0 x : Nat) : Int) := by rw [IntKind.wrap_u64]; omega
  have hw7 : IntKind.i64.wrap ((wd0 x : Nat) : Int) = ((wd0 x : Nat) : Int) := by rw [IntKind.wrap_i64]; omega
  have hw6 : x.fixed + 256 * x.record = ((wd0 x : Nat) : Int) := q0.symm
  clear h hb0 hblk hx q0 q3 q4 r5 r6 r7
  unfold layV
  generalize wd0 x = W0 at *
  generalize wd1 x = W1 at *
  generalize wd2 x = W2 at *
  go_enter Tryd.func10, Tryd.ntmps10
  go_wp2_with fail
  go_region_held3 (fun wk => (wk.cell? ⟨w.heap.size, 0, none⟩ = some (.int .i64 x.fixed) ∧ wk.cell? ⟨w.heap.size, 1, none⟩ = some (.slice A1 x.refs.length c1) ∧ wk.cell? ⟨w.heap.size, 2, none⟩ = some (.int .i64 x.record) ∧ wk.cell? ⟨w.heap.size, 3, none⟩ = some (.slice A2 x.recs.length c2)) ∧ Below w.heap.size w wk) (first | exact kp4_drew ⟨⟨d0, d1, d2, d3⟩, B1⟩ | exact kp4_alloc _ (by assumption) | exact kp4_call (by assumption) (by assumption)) (first | (go_at_call 22; first | (refine (HG1.out _ (HW.out.on (by assumption : _ ∧ Below w.heap.size w _).2)).mono ?_; rintro e w4 ⟨rfl, hb4⟩; clear HG1) | (refine (HG2.out _ (HW.out.on (by assumption : _ ∧ Below w.heap.size w _).2)).mono ?_; rintro e w5 ⟨rfl, hb5⟩)))
  all_goals
    have hB := (by assumption : _ ∧ Below w.heap.size w (w5.alloc _)).2
    have hn := heap_alloc_new w5 (.cells #[.int .u64 W0, .int .u64 W1, .int .u64 W2] 32)
    clear HW hb4 hb5 B1 d0 d1 d2 d3 HG2
    go_wp2
    go_ret
    exact ⟨w5.heap.size, rfl, ⟨_, _, rfl, (blk_cells hn 0).trans rfl, (blk_cells hn 1).trans rfl, (blk_cells hn 2).trans rfl⟩, hB⟩
def DecPost (a b c : Nat) (w : World) (e : Ending) (w' : World) : Prop :=
  (decOk a b c = true ∧ ∃ A1 c1 A2 c2, e = .returned (.tuple #[layV (decLay a b c) A1 c1 A2 c2, .int .i64 0]) ∧ LayIs w' (decLay a b c) A1 c1 A2 c2 ∧ Below w.heap.size w w') ∨
  (decOk a b c = false ∧ e = .returned (.tuple #[layV ⟨0, [], 0, []⟩ none 0 none 0, .int .i64 4]) ∧ Below w.heap.size w w')
theorem unpack_sizes (a : Nat) (ha : a < 18446744073709551616) (A : Option Addr) (w : World) (h : SliceOf w A 2 enc2 (0, 0) [(0, 8), (8, 8), (16, 48)]) :
    Calls Tryd.prog 23 #[.int .u64 a, .slice A 3 3] w fun e w' => ∃ B o n, e = .returned (.tuple #[.slice (some ⟨B, o, none⟩) 3 n, .int .i64 0]) ∧ 3 ≤ n ∧ (w'.cell? ⟨B, o, none⟩ = some (.int .u64 (a % 256 : Nat)) ∧ w'.cell? ⟨B, o + 1, none⟩ = some (.int .u64 (a / 256 % 256 : Nat)) ∧ w'.cell? ⟨B, o + 2, none⟩ = some (.int .u64 (a / 65536 : Nat))) ∧ Below w.heap.size w w' := by
  refine (unpack_any a A 3 [(0, 8), (8, 8), (16, 48)] w h (by decide) (by decide)).mono fun e w' ⟨B, n, he, hn, hC, hb⟩ => ?_
  have hu : unpackI a [(0, 8), (8, 8), (16, 48)] = ([((a % 256 : Nat) : Int), ((a / 256 % 256 : Nat) : Int), ((a / 65536 : Nat) : Int)], 0) := by
    unfold unpackI
    rw [if_pos (by decide +kernel)]
    simp only [List.map_cons, List.map_nil]
    rw [get_low a ha, get_mid a ha, get_high a ha]
  rw [hu] at he hn hC
  have hS := slice_of_C hC
  obtain ⟨b, o, rfl, h0⟩ := hS 0 (show 0 < 3 by decide)
  obtain ⟨b1, o1, e1, h1⟩ := hS 1 (show 1 < 3 by decide)
  obtain ⟨b2, o2, e2, h2⟩ := hS 2 (show 2 < 3 by decide)
  cases e1
  cases e2
  exact ⟨b, o, n, he, hn, ⟨h0 0 _ rfl, h1 0 _ rfl, h2 0 _ rfl⟩, hb⟩
end Go.Proofs.YtcffenekomiakaaDoor
