/- Contracts of the package table: Get, At and the counts. -/
import Derived.Test.YtbdpbkblihaeiaaDoorTw
import Derived.Laws.ResultCell
namespace Go.Proofs.YtbdpbkblihaeiaaDoor
open Go.RowKit
set_option linter.unusedVariables false
set_option linter.unusedSimpArgs false
variable {w w' : World} {B S p q : Nat} {l : List Slot} {tB tS T T' : TypeId}
def entV (e : Entry) : Value := .agg #[.int .i64 e.addr, .int .i64 e.region, .bool e.held, .bool e.pinned]
def tokV (i g : Int) : Value := .agg #[.int .i64 i, .int .i64 g]
theorem two_block {a c : Array Value} {t1 t2 : TypeId} {w1 : World} (hb : Below ((w.alloc (.cells a t1)).alloc (.cells c t2)).heap.size ((w.alloc (.cells a t1)).alloc (.cells c t2)) w1) : w1.heap[w.heap.size + 1]? = some (.cells c t2 (0, 0)) := by
  have h := heap_alloc_new (w.alloc (.cells a t1)) (.cells c t2)
  have e : (w.alloc (.cells a t1)).heap.size = w.heap.size + 1 := by simp
  rw [e] at h
  rw [hb.block _ (by simp), h]
theorem two_below {a c : Array Value} {t1 t2 : TypeId} {w1 : World} (hb : Below ((w.alloc (.cells a t1)).alloc (.cells c t2)).heap.size ((w.alloc (.cells a t1)).alloc (.cells c t2)) w1) : Below w.heap.size w w1 :=
  (((Below.refl _ w).alloc (Nat.le_refl _) _).alloc (by simp) _).trans (hb.mono (by simp; omega))
theorem fresh_out {i g : Int} (h : freshT l i g = true) : ∃ k : Nat, i = k ∧ k < l.length ∧ (l.getD k slot0).used = true ∧ ((l.getD k slot0).gen : Int) = g := by
  unfold freshT at h
  simp only [Bool.and_eq_true, decide_eq_true_eq] at h
  obtain ⟨⟨⟨h1, h2⟩, h3⟩, h4⟩ := h
  exact ⟨i.toNat, by omega, by omega, h3, h4⟩
theorem fresh_in {k : Nat} {g : Int} (h1 : k < l.length) (h2 : (l.getD k slot0).used = true) (h3 : ((l.getD k slot0).gen : Int) = g) : freshT l k g = true := by
  unfold freshT
  simp only [Bool.and_eq_true, decide_eq_true_eq]
  exact ⟨⟨⟨by omega, by omega⟩, by simpa using h2⟩, by simpa using h3⟩
theorem find_no (h : TableAt w B S p q l tB tS T T') (i g : Int) (hf : freshT l i g = false) :
    Calls Tryd.prog 53 #[.pointer (some ⟨B, 0, none⟩), .agg #[.int .i64 i, .int .i64 g]] w fun e w' => e = .returned (.tuple #[.pointer none, .int .i64 8]) ∧ Below w.heap.size w w' := by
  by_cases h1 : i < 0
  · exact find_low h i g h1
  by_cases h2 : (l.length : Int) ≤ i
  · exact find_high h i g h2
  obtain ⟨k, rfl⟩ : ∃ k : Nat, i = k := ⟨i.toNat, by omega⟩
  cases hu : (l.getD k slot0).used with
  | false => exact find_free h k g (by omega) hu
  | true =>
    by_cases hg : ((l.getD k slot0).gen : Int) = g
    · rw [fresh_in (by omega) hu hg] at hf; cases hf
    · exact find_old h k g (by omega) hu hg
set_option maxHeartbeats 1000000 in
theorem get_nil (i g : Int) (w : World) : Calls Tryd.prog 32 #[.pointer none, tokV i g] w fun e w' => e = .returned (.tuple #[entV noEntry, .int .i64 1]) ∧ Below w.heap.size w w' := by
  unfold tokV
  go_enter Tryd.func32, Tryd.ntmps32
  go_wp2_with fail
  refine (find_nil i g _).mono ?_
  rintro e w1 ⟨rfl, hb⟩
  have hB := two_below hb
  have hC := two_block hb
  have c0 := (blk_cells hC 0).trans rfl
  have c1 := (blk_cells hC 1).trans rfl
  have c2 := (blk_cells hC 2).trans rfl
  have c3 := (blk_cells hC 3).trans rfl
  have f0 := blk_thaw hC 0
  have f1 := blk_thaw hC 1
  have f2 := blk_thaw hC 2
  have f3 := blk_thaw hC 3
  clear hb hC
  go_wp2
  (try simp only [Exit.inBlock, Exit.then])
  refine bodyPost_ret (v := .tuple #[entV noEntry, .int .i64 1]) ?_ rfl ⟨rfl, ?_⟩
  · rw [results_cell_tmp rfl]
    go_simp
    rfl
  · exact (((hB.setCell (by simp) _).setCell (by simp) _).setCell (by simp) _).setCell (by simp) _
set_option maxHeartbeats 1000000 in
theorem get_no (h : TableAt w B S p q l tB tS T T') (i g : Int) (hf : freshT l i g = false) : Calls Tryd.prog 32 #[.pointer (some ⟨B, 0, none⟩), tokV i g] w fun e w' => e = .returned (.tuple #[entV noEntry, .int .i64 8]) ∧ Below w.heap.size w w' := by
  unfold tokV
  have HC := Lib.hid (fun t0 c t1 => find_no ((h.on (below1 w (.cells #[.int .i64 i, .int .i64 g] t0))).on (below1 _ (.cells c t1))) i g hf)
  clear h
  go_enter Tryd.func32, Tryd.ntmps32
  go_wp2_with fail
  refine (HC.out _ _ _).mono ?_
  rintro e w1 ⟨rfl, hb⟩
  have hB := two_below hb
  have hC := two_block hb
  have c0 := (blk_cells hC 0).trans rfl
  have c1 := (blk_cells hC 1).trans rfl
  have c2 := (blk_cells hC 2).trans rfl
  have c3 := (blk_cells hC 3).trans rfl
  have f0 := blk_thaw hC 0
  have f1 := blk_thaw hC 1
  have f2 := blk_thaw hC 2
  have f3 := blk_thaw hC 3
  clear hb hC
  go_wp2
  (try simp only [Exit.inBlock, Exit.then])
  refine bodyPost_ret (v := .tuple #[entV noEntry, .int .i64 8]) ?_ rfl ⟨rfl, ?_⟩
  · rw [results_cell_tmp rfl]
    go_simp
    rfl
  · exact (((hB.setCell (by simp) _).setCell (by simp) _).setCell (by simp) _).setCell (by simp) _
set_option maxHeartbeats 1000000 in
theorem get_yes (h : TableAt w B S p q l tB tS T T') (i g : Int) (hf : freshT l i g = true) : Calls Tryd.prog 32 #[.pointer (some ⟨B, 0, none⟩), tokV i g] w fun e w' => e = .returned (.tuple #[entV (l.getD i.toNat slot0).e, .int .i64 0]) ∧ Below w.heap.size w w' := by
  unfold tokV
  obtain ⟨k, rfl, h1, h2, h3⟩ := fresh_out hf
  rw [Int.toNat_natCast]
  have HC := Lib.hid (fun t0 c t1 => find_fresh ((h.on (below1 w (.cells #[.int .i64 (k : Int), .int .i64 g] t0))).on (below1 _ (.cells c t1))) k g h1 h2 h3)
  have H := Lib.hid h
  clear h hf h2 h3
  go_enter Tryd.func32, Tryd.ntmps32
  go_wp2_with fail
  refine (HC.out _ _ _).mono ?_
  rintro e w1 ⟨rfl, hb⟩
  have hB := two_below hb
  have hC := two_block hb
  have hT := H.out.on hB
  have d0 := hT.cell k h1 2 _ rfl
  have d1 := hT.cell k h1 3 _ rfl
  have d2 := hT.cell k h1 4 _ rfl
  have d3 := hT.cell k h1 5 _ rfl
  have c0 := (blk_cells hC 0).trans rfl
  have c1 := (blk_cells hC 1).trans rfl
  have c2 := (blk_cells hC 2).trans rfl
  have c3 := (blk_cells hC 3).trans rfl
  have f0 := blk_thaw hC 0
  have f1 := blk_thaw hC 1
  have f2 := blk_thaw hC 2
  have f3 := blk_thaw hC 3
  clear hb hC hT
  generalize hee : (l.getD k slot0).e = ee at d0 d1 d2 d3
  go_wp2
  (try simp only [Exit.inBlock, Exit.then])
  refine bodyPost_ret (v := .tuple #[entV ee, .int .i64 0]) ?_ rfl ⟨by rw [hee], ?_⟩
  · rw [results_cell_tmp rfl]
    go_simp
    rfl
  · exact (((hB.setCell (by simp) _).setCell (by simp) _).setCell (by simp) _).setCell (by simp) _
theorem at_nil (i : Int) (w : World) : Calls Tryd.prog 42 #[.pointer none, .int .i64 i] w fun e w' => e = .returned (.tuple #[tokV 0 0, .bool false]) ∧ Below w.heap.size w w' := by
  go_enter Tryd.func42, Tryd.ntmps42
  go_wp2
  (try simp only [Exit.inBlock, Exit.then])
  refine bodyPost_ret (v := .tuple #[tokV 0 0, .bool false]) ?_ rfl ⟨rfl, ?_⟩
  · rw [results_cell_tmp rfl]
    go_simp
    rfl
  · exact below1 w _
theorem at_no (h : TableAt w B S p q l tB tS T T') (i : Int) (hi : i < 0 ∨ l.length ≤ i ∨ (l.getD i.toNat slot0).used = false) : Calls Tryd.prog 42 #[.pointer (some ⟨B, 0, none⟩), .int .i64 i] w fun e w' => e = .returned (.tuple #[tokV 0 0, .bool false]) ∧ Below w.heap.size w w' := by
  have hle := h.le
  have h0 := h.on (below1 w (.cells #[.int .i64 0, .int .i64 0] 57))
  have c0 := h0.slots
  by_cases k1 : i < 0
  · clear h h0 hi
    go_enter Tryd.func42, Tryd.ntmps42
    go_wp2
    (try simp only [Exit.inBlock, Exit.then])
    refine bodyPost_ret (v := .tuple #[tokV 0 0, .bool false]) ?_ rfl ⟨rfl, ?_⟩
    · rw [results_cell_tmp rfl]
      go_simp
      rfl
    · exact below1 w _
  · by_cases k2 : (l.length : Int) ≤ i
    · clear h h0 hi
      go_enter Tryd.func42, Tryd.ntmps42
      go_wp2
      (try simp only [Exit.inBlock, Exit.then])
      refine bodyPost_ret (v := .tuple #[tokV 0 0, .bool false]) ?_ rfl ⟨rfl, ?_⟩
      · rw [results_cell_tmp rfl]
        go_simp
        rfl
      · exact below1 w _
    · obtain ⟨k, rfl⟩ : ∃ k : Nat, i = k := ⟨i.toNat, by omega⟩
      have hk : k < l.length := by omega
      have hu : (l.getD k slot0).used = false := by
        rcases hi with g | g | g
        · exact absurd g k1
        · exact absurd g k2
        · rw [Int.toNat_natCast] at g; exact g
      have c1 := h0.cell k hk 1 _ rfl
      rw [hu] at c1
      have k3 : decide (l.length ≤ k) = false := decide_eq_false (by omega)
      clear h h0 hi hu k1 k2
      go_enter Tryd.func42, Tryd.ntmps42
      go_wp2
      (try simp only [Exit.inBlock, Exit.then])
      refine bodyPost_ret (v := .tuple #[tokV 0 0, .bool false]) ?_ rfl ⟨rfl, ?_⟩
      · rw [results_cell_tmp rfl]
        go_simp
        rfl
      · exact below1 w _
theorem at_yes (h : TableAt w B S p q l tB tS T T') (k : Nat) (hk : k < l.length) (hu : (l.getD k slot0).used = true) : Calls Tryd.prog 42 #[.pointer (some ⟨B, 0, none⟩), .int .i64 k] w fun e w' => e = .returned (.tuple #[tokV k (l.getD k slot0).gen, .bool true]) ∧ Below w.heap.size w w' := by
  have hle := h.le
  have h0 := h.on (below1 w (.cells #[.int .i64 0, .int .i64 0] 57))
  have c0 := h0.slots
  have c1 := h0.cell k hk 1 _ rfl
  have c2 := h0.cell k hk 0 _ rfl
  rw [hu] at c1
  rw [Nat.add_zero] at c2
  have k3 : decide (l.length ≤ k) = false := decide_eq_false (by omega)
  generalize (l.getD k slot0).gen = y at *
  clear h h0 hu
  go_enter Tryd.func42, Tryd.ntmps42
  go_wp2
  (try simp only [Exit.inBlock, Exit.then])
  refine bodyPost_ret (v := .tuple #[tokV k y, .bool true]) ?_ rfl ⟨rfl, ?_⟩
  · rw [results_cell_tmp rfl]
    go_simp
    rfl
  · exact below1 w _
theorem retired_nil (w : World) : Calls Tryd.prog 37 #[.pointer none] w fun e w' => e = .returned (.int .i64 0) ∧ Below w.heap.size w w' := by
  go_enter Tryd.func37, Tryd.ntmps37
  go_wp2
  go_ret
  exact ⟨rfl, Below.refl _ _⟩
theorem left_nil (w : World) : Calls Tryd.prog 38 #[.pointer none] w fun e w' => e = .returned (.int .i64 0) ∧ Below w.heap.size w w' := by
  go_enter Tryd.func38, Tryd.ntmps38
  go_wp2
  go_ret
  exact ⟨rfl, Below.refl _ _⟩
theorem used_nil (w : World) : Calls Tryd.prog 39 #[.pointer none] w fun e w' => e = .returned (.int .i64 0) ∧ Below w.heap.size w w' := by
  go_enter Tryd.func39, Tryd.ntmps39
  go_wp2
  go_ret
  exact ⟨rfl, Below.refl _ _⟩
def goneN (l : List Slot) : Nat := (l.filter retired).length
def usedN (l : List Slot) : Nat := (l.filter (·.used)).length
theorem goneN_le (l : List Slot) : goneN l ≤ l.length := List.length_filter_le _ _
theorem taken_count : ∀ l : List Slot, many (l.map taken) = usedN l + goneN l
  | [] => rfl
  | s :: t => by
    have h := taken_count t
    unfold many usedN goneN at *
    simp only [List.map_cons, List.count_cons, List.filter_cons, h]
    cases hu : s.used <;> by_cases hg : s.gen = 255 <;> simp [taken, retired, hu, hg] <;> omega
theorem taken_le (l : List Slot) : usedN l + goneN l ≤ l.length := by rw [← taken_count]; simpa using many_le (l.map taken)
theorem retired_any (h : TableAt w B S p q l tB tS T T') : Calls Tryd.prog 37 #[.pointer (some ⟨B, 0, none⟩)] w fun e w' => e = .returned (.int .i64 (goneN l : Nat)) ∧ Below w.heap.size w w' := by
  have h0 := h.gone
  go_enter Tryd.func37, Tryd.ntmps37
  go_wp2
  go_ret
  exact ⟨rfl, Below.refl _ _⟩
theorem left_any (h : TableAt w B S p q l tB tS T T') : Calls Tryd.prog 38 #[.pointer (some ⟨B, 0, none⟩)] w fun e w' => e = .returned (.int .i64 ((l.length : Int) - (usedN l + goneN l : Nat))) ∧ Below w.heap.size w w' := by
  have hle := h.le
  have ht := taken_le l
  have h0 := h.slots
  have h1 := h.bits
  have HH : Hid (∀ k, Calls Tryd.prog 22 #[.pointer (some ⟨p, 0, none⟩)] (w.drewN k) fun e w' => e = .returned (.int .i64 (usedN l + goneN l : Nat)) ∧ w' = w.drewN k) := Lib.hid (fun k => by
    obtain ⟨ws, hm⟩ := (h.on (below_drewN (Below.refl _ _) k)).map
    rw [← taken_count]
    exact (count_any hm).mono (fun _ _ h => ⟨h.1, h.2.symm⟩))
  clear h
  generalize usedN l + goneN l = m at *
  have hw : wrap64 ((l.length : Int) - m) = (l.length : Int) - m := by simp [wrap64]; omega
  go_enter Tryd.func38, Tryd.ntmps38
  go_wp2
  go_quiet ((go_at_call 22; exact Calls.quiet_of_same (HH.out _)))
  go_wp2
  go_ret
  exact ⟨rfl, below_drewN (Below.refl _ _) _⟩
theorem used_any (h : TableAt w B S p q l tB tS T T') : Calls Tryd.prog 39 #[.pointer (some ⟨B, 0, none⟩)] w fun e w' => e = .returned (.int .i64 (usedN l : Nat)) ∧ Below w.heap.size w w' := by
  have hle := h.le
  have ht := taken_le l
  have h0 := h.gone
  have h1 := h.bits
  have HH : Hid (∀ k, Calls Tryd.prog 22 #[.pointer (some ⟨p, 0, none⟩)] (w.drewN k) fun e w' => e = .returned (.int .i64 (usedN l + goneN l : Nat)) ∧ w' = w.drewN k) := Lib.hid (fun k => by
    obtain ⟨ws, hm⟩ := (h.on (below_drewN (Below.refl _ _) k)).map
    rw [← taken_count]
    exact (count_any hm).mono (fun _ _ h => ⟨h.1, h.2.symm⟩))
  clear h
  rw [show (l.filter retired).length = goneN l from rfl] at h0
  generalize hm : usedN l + goneN l = m at *
  have HW : Hid (wrap64 ((m : Int) - (goneN l : Nat)) = (usedN l : Nat)) := Lib.hid (by simp [wrap64]; omega)
  generalize goneN l = y at *
  clear hm
  go_enter Tryd.func39, Tryd.ntmps39
  go_wp2
  go_quiet ((go_at_call 22; exact Calls.quiet_of_same (HH.out _)))
  go_wp2
  go_ret
  exact ⟨by rw [HW.out]; rfl, below_drewN (Below.refl _ _) _⟩
end Go.Proofs.YtbdpbkblihaeiaaDoor
