/- Contracts of the package table: walks. -/
import Derived.Test.YtbdpbkblihaeiaaDoorAv
import Derived.Test.YtbdpbkblihaeiaaDoorTb
namespace Go.Proofs.YtbdpbkblihaeiaaDoor
open Go.RowKit
set_option linter.unusedVariables false
set_option linter.unusedSimpArgs false
variable {w w' : World} {B S p q : Nat} {l : List Slot} {tB tS T T' : TypeId}
set_option maxHeartbeats 1000000 in
theorem find_nil (i g : Int) (w : World) : Calls Tryd.prog 53 #[.pointer none, .agg #[.int .i64 i, .int .i64 g]] w fun e w' => e = .returned (.tuple #[.pointer none, .int .i64 1]) ∧ Below w.heap.size w w' := by
  go_enter Tryd.func53, Tryd.ntmps53
  go_wp2
  go_ret2
  exact ⟨rfl, below1 w _⟩
set_option maxHeartbeats 1000000 in
theorem find_fresh (h : TableAt w B S p q l tB tS T T') (i : Nat) (g : Int) (hi : i < l.length) (hu : (l.getD i slot0).used = true) (hg : ((l.getD i slot0).gen : Int) = g) :
    Calls Tryd.prog 53 #[.pointer (some ⟨B, 0, none⟩), .agg #[.int .i64 i, .int .i64 g]] w fun e w' => e = .returned (.tuple #[.pointer (some ⟨S, i * 6, none⟩), .int .i64 0]) ∧ Below w.heap.size w w' := by
  have hle := h.le
  have hb := below1 w (.cells #[.int .i64 i, .int .i64 g] 57)
  have h1 := h.on hb
  have e0 := (blk_cells (heap_alloc_new w (.cells #[.int .i64 i, .int .i64 g] 57)) 0).trans rfl
  have e1 := (blk_cells (heap_alloc_new w (.cells #[.int .i64 i, .int .i64 g] 57)) 1).trans rfl
  have c0 := h1.slots
  have c1 := h1.cell i hi 1 _ rfl
  have c2 := h1.cell i hi 0 _ rfl
  rw [hu] at c1
  rw [hg, Nat.add_zero] at c2
  have k1 : ¬ ((i : Int) < 0) := by omega
  have k2 : decide (l.length ≤ i) = false := decide_eq_false (by omega)
  have k3 : (g != g) = false := by simp
  clear h h1 hu hg
  go_enter Tryd.func53, Tryd.ntmps53
  go_wp2
  go_quiet (fail)
  go_wp2
  go_quiet (fail)
  go_wp2
  go_ret2
  exact ⟨rfl, below_drewN (below_drewN hb _) _⟩
set_option maxHeartbeats 1000000 in
theorem find_low (h : TableAt w B S p q l tB tS T T') (i g : Int) (hi : i < 0) :
    Calls Tryd.prog 53 #[.pointer (some ⟨B, 0, none⟩), .agg #[.int .i64 i, .int .i64 g]] w fun e w' => e = .returned (.tuple #[.pointer none, .int .i64 8]) ∧ Below w.heap.size w w' := by
  have hb := below1 w (.cells #[.int .i64 i, .int .i64 g] 57)
  have e0 := (blk_cells (heap_alloc_new w (.cells #[.int .i64 i, .int .i64 g] 57)) 0).trans rfl
  have k1 : decide (i < 0) = true := decide_eq_true hi
  clear h
  go_enter Tryd.func53, Tryd.ntmps53
  go_wp2
  go_quiet (fail)
  go_wp2
  go_ret2
  exact ⟨rfl, below_drewN hb _⟩
set_option maxHeartbeats 1000000 in
theorem find_high (h : TableAt w B S p q l tB tS T T') (i g : Int) (hi : (l.length : Int) ≤ i) :
    Calls Tryd.prog 53 #[.pointer (some ⟨B, 0, none⟩), .agg #[.int .i64 i, .int .i64 g]] w fun e w' => e = .returned (.tuple #[.pointer none, .int .i64 8]) ∧ Below w.heap.size w w' := by
  have hb := below1 w (.cells #[.int .i64 i, .int .i64 g] 57)
  have e0 := (blk_cells (heap_alloc_new w (.cells #[.int .i64 i, .int .i64 g] 57)) 0).trans rfl
  have c0 := (h.on hb).slots
  have k1 : decide (i < 0) = false := decide_eq_false (by omega)
  have k2 : decide ((l.length : Int) ≤ i) = true := decide_eq_true hi
  clear h
  go_enter Tryd.func53, Tryd.ntmps53
  go_wp2
  go_quiet (fail)
  go_wp2
  go_ret2
  exact ⟨rfl, below_drewN hb _⟩
set_option maxHeartbeats 1000000 in
theorem find_free (h : TableAt w B S p q l tB tS T T') (i : Nat) (g : Int) (hi : i < l.length) (hu : (l.getD i slot0).used = false) :
    Calls Tryd.prog 53 #[.pointer (some ⟨B, 0, none⟩), .agg #[.int .i64 i, .int .i64 g]] w fun e w' => e = .returned (.tuple #[.pointer none, .int .i64 8]) ∧ Below w.heap.size w w' := by
  have hle := h.le
  have hb := below1 w (.cells #[.int .i64 i, .int .i64 g] 57)
  have h1 := h.on hb
  have e0 := (blk_cells (heap_alloc_new w (.cells #[.int .i64 i, .int .i64 g] 57)) 0).trans rfl
  have e1 := (blk_cells (heap_alloc_new w (.cells #[.int .i64 i, .int .i64 g] 57)) 1).trans rfl
  have c0 := h1.slots
  have c1 := h1.cell i hi 1 _ rfl
  rw [hu] at c1
  have k1 : ¬ ((i : Int) < 0) := by omega
  have k2 : decide (l.length ≤ i) = false := decide_eq_false (by omega)
  clear h h1 hu
  go_enter Tryd.func53, Tryd.ntmps53
  go_wp2
  refine wp_region_quiet_lit (by kernel_rfl) (by kernel_rfl) ?_
  iterate 26 (quiet_step (fail))
  iterate 12
    with_reducible refine wpQuiet_step ?_
    intro K hK
    go_simp
    with_reducible refine hK _ ?_
    clear hK K
  quiet_step (fail)
  refine wpQuiet_nil ?_
  intro _ hw'
  obtain ⟨nq, hw''⟩ := hw'
  subst hw''
  go_wp2
  go_ret2
  exact ⟨rfl, below_drewN hb _⟩
set_option maxHeartbeats 1000000 in
theorem find_old (h : TableAt w B S p q l tB tS T T') (i : Nat) (g : Int) (hi : i < l.length) (hu : (l.getD i slot0).used = true) (hg : ((l.getD i slot0).gen : Int) ≠ g) :
    Calls Tryd.prog 53 #[.pointer (some ⟨B, 0, none⟩), .agg #[.int .i64 i, .int .i64 g]] w fun e w' => e = .returned (.tuple #[.pointer none, .int .i64 8]) ∧ Below w.heap.size w w' := by
  have hle := h.le
  have hb := below1 w (.cells #[.int .i64 i, .int .i64 g] 57)
  have h1 := h.on hb
  have e0 := (blk_cells (heap_alloc_new w (.cells #[.int .i64 i, .int .i64 g] 57)) 0).trans rfl
  have e1 := (blk_cells (heap_alloc_new w (.cells #[.int .i64 i, .int .i64 g] 57)) 1).trans rfl
  have c0 := h1.slots
  have c1 := h1.cell i hi 1 _ rfl
  have c2 := h1.cell i hi 0 _ rfl
  rw [hu] at c1
  rw [Nat.add_zero] at c2
  generalize (l.getD i slot0).gen = y at *
  have k1 : ¬ ((i : Int) < 0) := by omega
  have k2 : decide (l.length ≤ i) = false := decide_eq_false (by omega)
  have k3 : ((y : Int) != g) = true := by simpa using hg
  clear h h1 hu hg
  go_enter Tryd.func53, Tryd.ntmps53
  go_wp2
  go_quiet (fail)
  go_wp2
  go_ret2
  exact ⟨rfl, below_drewN hb _⟩
end Go.Proofs.YtbdpbkblihaeiaaDoor
