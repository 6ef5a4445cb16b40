/- BitmapActs: a walk. -/
import Derived.Test.YtbdpbkblihaeiaaDoorF5
namespace Go.Proofs.YtbdpbkblihaeiaaDoor
open Go.RowKit
set_option linter.unusedVariables false
set_option linter.unusedSimpArgs false
variable {w w' : World} {p q g : Nat} {bits : List Bool} {ws : List Nat} {T T' : TypeId}
theorem Grown.firstL {base : World} (h : Grown base w p q g bits) (hT : Tab base) (h0 : 0 < base.heap.size) (a : Int) : Calls Tryd.prog 15 #[.pointer (some ⟨p, 0, none⟩), .int .i64 a] w (FirstPost bits a.toNat w) := by
  obtain ⟨ws, hm⟩ := h.map
  exact first_any hm (hT.below h.below h0) a
theorem Grown.len_ {base : World} (h : Grown base w p q g bits) : Calls Tryd.prog 18 #[.pointer (some ⟨p, 0, none⟩)] w fun e w' => e = .returned (.int .i64 bits.length) ∧ w = w' := by
  obtain ⟨ws, hm⟩ := h.map
  exact len_any hm
/-- What Run answers, whatever the number. -/
noncomputable def runI (bits : List Bool) (n : Int) : Nat × Bool := if n < 1 then (0, false) else runL n.toNat bits 0
theorem Grown.run {base : World} (h : Grown base w p q g bits) (hT : Tab base) (h0 : 0 < base.heap.size) (n : Int) : Calls Tryd.prog 16 #[.pointer (some ⟨p, 0, none⟩), .int .i64 n] w fun e w' => e = .returned (.tuple #[.int .i64 (runI bits n).1, .bool (runI bits n).2]) ∧ w = w' := by
  obtain ⟨ws, hm⟩ := h.map
  unfold runI
  by_cases hn : n < 1
  · rw [if_pos hn]
    exact run_few _ n hn w
  · rw [if_neg hn]
    obtain ⟨m, rfl⟩ : ∃ m : Nat, n = m := ⟨n.toNat, by omega⟩
    exact run_any hm (hT.below h.below h0) m (by omega)
theorem Grown.refFirst {base : World} (h : Grown base w p q g bits) (a : Int) : Calls Tryd.prog 26 #[.slice (some ⟨g, 0, none⟩) bits.length bits.length, .int .i64 a] w (FirstPost bits a.toNat w) := ref_first h.ref a
theorem Grown.refRun {base : World} (h : Grown base w p q g bits) (n : Int) : Calls Tryd.prog 27 #[.slice (some ⟨g, 0, none⟩) bits.length bits.length, .int .i64 n] w fun e w' => e = .returned (.tuple #[.int .i64 (runI bits n).1, .bool (runI bits n).2]) ∧ w = w' := by
  unfold runI
  by_cases hn : n < 1
  · rw [if_pos hn]
    exact ref_few _ n hn w
  · rw [if_neg hn]
    obtain ⟨m, rfl⟩ : ∃ m : Nat, n = m := ⟨n.toNat, by omega⟩
    exact ref_run h.ref m (by omega)
theorem Grown.refAll {base : World} (h : Grown base w p q g bits) : Calls Tryd.prog 28 #[.slice (some ⟨g, 0, none⟩) bits.length bits.length] w fun e w' => ∃ v, e = .returned v ∧ Ints w' v (ones bits) ∧ Below w.heap.size w w' := by
  refine (ref_all h.ref).mono fun e w' ⟨v, he, hr, _, hb⟩ => ⟨v, he, ints_of_own hr ?_, hb⟩
  have := onesTo_le (bits := bits) bits.length
  have := h.ref.le
  unfold ones; omega
theorem Grown.all2 {base : World} (h : Grown base w p q g bits) (hT : Tab base) (h0 : 0 < base.heap.size) : Calls Tryd.prog 23 #[.pointer (some ⟨p, 0, none⟩)] w fun e w' => ∃ v, e = .returned v ∧ Ints w' v (ones bits) ∧ Below w.heap.size w w' := by
  obtain ⟨ws, hm⟩ := h.map
  refine (all_any hm (hT.below h.below h0)).mono fun e w' ⟨v, he, hr, _, hb⟩ => ⟨v, he, ints_of_own hr ?_, hb⟩
  have := onesTo_le (bits := bits) bits.length
  have := hm.le
  unfold ones; omega
theorem Grown.hasAny {base : World} (h : Grown base w p q g bits) (i : Int) : Calls Tryd.prog 19 #[.pointer (some ⟨p, 0, none⟩), .int .i64 i] w fun e w' => e = .returned (.bool (decide (0 ≤ i ∧ i < bits.length) && bits.getD i.toNat false)) ∧ w = w' := by
  obtain ⟨ws, hm⟩ := h.map
  by_cases hi : 0 ≤ i ∧ i < bits.length
  · obtain ⟨m, rfl⟩ : ∃ m : Nat, i = m := ⟨i.toNat, by omega⟩
    rw [decide_eq_true hi, Bool.true_and, Int.toNat_natCast]
    exact has_in hm m (by omega)
  · rw [decide_eq_false hi, Bool.false_and]
    exact has_out hm i (by omega)
theorem Grown.alive2 {base : World} (h : Grown base w p q g bits) (hT : Tab base) (h0 : 0 < base.heap.size) : Calls Tryd.prog 17 #[] w fun e w' => e = .returned (.bool true) ∧ Below w.heap.size w w' :=
  alive_any (hT.below h.below h0)
set_option maxRecDepth 100000 in
set_option maxHeartbeats 1000000 in
theorem acts_walk (n : Int) (A : Option Addr) (l : List Act) (c : Nat) (a0 a1 a2 : Int) (hc : l.length ≤ c) (hm : l.length ≤ maxLen) (hS : SliceOf w A 4 actEnc act0 l) (hT : Tab w) :
    Calls Tryd.prog 4 #[.int .i64 n, .slice A l.length c, .agg #[.int .i64 a0, .int .i64 a1, .int .i64 a2]] w fun e w' => e = .returned (.bool true) ∧ Below w.heap.size w w' := by
  obtain ⟨N, hN⟩ := grown_n n
  have hN2 : N ≤ 300 := by omega
  have hb0 := below1 w (.cells #[.int .i64 a0, .int .i64 a1, .int .i64 a2] 36)
  have hbox := heap_alloc_new w (.cells #[.int .i64 a0, .int .i64 a1, .int .i64 a2] 36)
  have hsz : (w.alloc (.cells #[.int .i64 a0, .int .i64 a1, .int .i64 a2] 36)).heap.size = w.heap.size + 1 := World.size_alloc _ _
  go_enter Tryd.func4, Tryd.ntmps4
  go_wp2_with fail
  generalize w.alloc (.cells #[.int .i64 a0, .int .i64 a1, .int .i64 a2] 36) = w0 at *
  have HGR := Lib.hid (grown_any (w := w0) n A l c hc hm (hS.on hb0) N hN)
  have HT := Lib.hid (hT.on hb0)
  have h0 : 0 < w0.heap.size := by have := lt_of_cell (hT 0 (by decide)); omega
  have HB0 := Lib.hid hb0
  have HBX := Lib.hid hbox
  clear hS hT hN hc hm hb0 hbox
  refine HGR.out.mono ?_
  rintro e w1 ⟨p, q, g, bits, rfl, hG, hL⟩
  have HG := Lib.hid hG
  have HBX1 := Lib.hid ((hG.below.block w.heap.size (by omega)).trans HBX.out)
  subst hL
  clear hG
  unfold refV
  go_wp2_with fail
  refine (HG.out.alive2 HT.out h0).mono ?_
  rintro e w2 ⟨rfl, hb⟩
  have HG2 := Lib.hid (HG.out.on hb)
  have HBX2 := Lib.hid ((hb.block w.heap.size (block_lt HBX1.out)).trans HBX1.out)
  clear hb HG
  have e0 : w2.cell? ⟨w.heap.size, 0, none⟩ = some (.int .i64 a0) := (blk_cells HBX2.out 0).trans rfl
  have e1 : w2.cell? ⟨w.heap.size, 1, none⟩ = some (.int .i64 a1) := (blk_cells HBX2.out 1).trans rfl
  have e2 : w2.cell? ⟨w.heap.size, 2, none⟩ = some (.int .i64 a2) := (blk_cells HBX2.out 2).trans rfl
  go_wp2_with fail
  refine (HG2.out.firstL HT.out h0 _).mono ?_
  rintro e w3 ⟨rfl, rfl⟩
  go_wp2_with fail
  refine (HG2.out.refFirst _).mono ?_
  rintro e w3 ⟨rfl, rfl⟩
  go_wp2_with fail
  refine (HG2.out.run HT.out h0 _).mono ?_
  rintro e w3 ⟨rfl, rfl⟩
  go_wp2_with fail
  refine (HG2.out.refRun _).mono ?_
  rintro e w3 ⟨rfl, rfl⟩
  go_wp2_with fail
  generalize (FirstL bits a0.toNat).1 = x1
  generalize (FirstL bits a0.toNat).2 = y1
  generalize (runI bits a1).1 = x2
  generalize (runI bits a1).2 = y2
  have g1 : ((x1 : Int) != (x1 : Int)) = false := by simp
  have g2 : (y1 != y1) = false := by simp
  have g3 : ((x2 : Int) != (x2 : Int)) = false := by simp
  have g4 : (y2 != y2) = false := by simp
  by_cases c1 : 0 ≤ a2
  · by_cases c2 : a2 < bits.length
    · obtain ⟨m, rfl⟩ : ∃ m : Nat, a2 = m := ⟨a2.toNat, by omega⟩
      have hm : m < bits.length := by omega
      have hp := HG2.out.ref.place m hm
      have HH : Hid (∀ k, Calls Tryd.prog 19 #[.pointer (some ⟨p, 0, none⟩), .int .i64 (m : Nat)] (w2.drewN k) fun e w' => e = .returned (.bool (bits.getD m false)) ∧ w' = w2.drewN k) := Lib.hid (fun k => ((HG2.out.on (below_drewN (Below.refl _ _) k)).has m hm).mono (fun _ _ h => ⟨h.1, h.2.symm⟩))
      generalize bits.getD m false = y at *
      have g5 : (y != y) = false := by simp
      go_quiet ((go_at_call 19; exact Calls.quiet_of_same (HH.out _)))
      have HG3 := Lib.hid (HG2.out.on (below_drewN (Below.refl _ _) nq))
      go_wp2_with fail
      refine (HG3.out.refAll).mono ?_
      rintro e w4 ⟨v1, rfl, hI1, hb4⟩
      have HG4 := Lib.hid (HG3.out.on hb4)
      obtain ⟨A1, k1, rfl, hk1, hm1, hs1⟩ := hI1
      have HI1 := Lib.hid (show Ints w4 (.slice A1 (ones bits).length k1) (ones bits) from ⟨A1, k1, rfl, hk1, hm1, hs1⟩)
      have HLE := Lib.hid (ones_len bits)
      clear hb4 hm1 hs1
      go_wp2_with fail
      refine (HG4.out.len_).mono ?_
      rintro e w' ⟨rfl, rfl⟩
      go_wp2_with fail
      refine (HG4.out.all2 HT.out h0).mono ?_
      rintro e w5 ⟨v2, rfl, hI2, hb5⟩
      have HG5 := Lib.hid (HG4.out.on hb5)
      have HI2 := Lib.hid hI2
      have HI15 := Lib.hid (HI1.out.on hb5)
      clear hb5 hI2
      go_wp2_with fail
      refine (same_any HI2.out HI15.out).mono ?_
      rintro e w6 ⟨rfl, hb6⟩
      have HG6 := Lib.hid (HG5.out.on hb6)
      clear hb6
      rw [decide_eq_true rfl]
      go_wp2_with fail
      refine (HG6.out.count).mono ?_
      rintro e w7 ⟨rfl, rfl⟩
      rw [← HLE.out]
      go_wp2
      go_ret
      exact ⟨rfl, HB0.out.on HG6.out.below⟩
    · have HH : Hid (∀ k, Calls Tryd.prog 19 #[.pointer (some ⟨p, 0, none⟩), .int .i64 a2] (w2.drewN k) fun e w' => e = .returned (.bool false) ∧ w' = w2.drewN k) := Lib.hid (fun k => ((HG2.out.on (below_drewN (Below.refl _ _) k)).hasAny a2).mono (fun _ _ h => ⟨by rw [h.1, decide_eq_false (show ¬ (0 ≤ a2 ∧ a2 < (bits.length : Int)) by omega), Bool.false_and], h.2.symm⟩))
      have c3 : decide (a2 < (bits.length : Int)) = false := decide_eq_false c2
      go_quiet ((go_at_call 19; exact Calls.quiet_of_same (HH.out _)))
      have HG3 := Lib.hid (HG2.out.on (below_drewN (Below.refl _ _) nq))
      go_wp2_with fail
      refine (HG3.out.refAll).mono ?_
      rintro e w4 ⟨v1, rfl, hI1, hb4⟩
      have HG4 := Lib.hid (HG3.out.on hb4)
      obtain ⟨A1, k1, rfl, hk1, hm1, hs1⟩ := hI1
      have HI1 := Lib.hid (show Ints w4 (.slice A1 (ones bits).length k1) (ones bits) from ⟨A1, k1, rfl, hk1, hm1, hs1⟩)
      have HLE := Lib.hid (ones_len bits)
      clear hb4 hm1 hs1
      go_wp2_with fail
      refine (HG4.out.len_).mono ?_
      rintro e w' ⟨rfl, rfl⟩
      go_wp2_with fail
      refine (HG4.out.all2 HT.out h0).mono ?_
      rintro e w5 ⟨v2, rfl, hI2, hb5⟩
      have HG5 := Lib.hid (HG4.out.on hb5)
      have HI2 := Lib.hid hI2
      have HI15 := Lib.hid (HI1.out.on hb5)
      clear hb5 hI2
      go_wp2_with fail
      refine (same_any HI2.out HI15.out).mono ?_
      rintro e w6 ⟨rfl, hb6⟩
      have HG6 := Lib.hid (HG5.out.on hb6)
      clear hb6
      rw [decide_eq_true rfl]
      go_wp2_with fail
      refine (HG6.out.count).mono ?_
      rintro e w7 ⟨rfl, rfl⟩
      rw [← HLE.out]
      go_wp2
      go_ret
      exact ⟨rfl, HB0.out.on HG6.out.below⟩
  · have HH : Hid (∀ k, Calls Tryd.prog 19 #[.pointer (some ⟨p, 0, none⟩), .int .i64 a2] (w2.drewN k) fun e w' => e = .returned (.bool false) ∧ w' = w2.drewN k) := Lib.hid (fun k => ((HG2.out.on (below_drewN (Below.refl _ _) k)).hasAny a2).mono (fun _ _ h => ⟨by rw [h.1, decide_eq_false (show ¬ (0 ≤ a2 ∧ a2 < (bits.length : Int)) by omega), Bool.false_and], h.2.symm⟩))
    have c3 : decide (0 ≤ a2) = false := decide_eq_false c1
    go_quiet ((go_at_call 19; exact Calls.quiet_of_same (HH.out _)))
    have HG3 := Lib.hid (HG2.out.on (below_drewN (Below.refl _ _) nq))
    go_wp2_with fail
    refine (HG3.out.refAll).mono ?_
    rintro e w4 ⟨v1, rfl, hI1, hb4⟩
    have HG4 := Lib.hid (HG3.out.on hb4)
    obtain ⟨A1, k1, rfl, hk1, hm1, hs1⟩ := hI1
    have HI1 := Lib.hid (show Ints w4 (.slice A1 (ones bits).length k1) (ones bits) from ⟨A1, k1, rfl, hk1, hm1, hs1⟩)
    have HLE := Lib.hid (ones_len bits)
    clear hb4 hm1 hs1
    go_wp2_with fail
    refine (HG4.out.len_).mono ?_
    rintro e w' ⟨rfl, rfl⟩
    go_wp2_with fail
    refine (HG4.out.all2 HT.out h0).mono ?_
    rintro e w5 ⟨v2, rfl, hI2, hb5⟩
    have HG5 := Lib.hid (HG4.out.on hb5)
    have HI2 := Lib.hid hI2
    have HI15 := Lib.hid (HI1.out.on hb5)
    clear hb5 hI2
    go_wp2_with fail
    refine (same_any HI2.out HI15.out).mono ?_
    rintro e w6 ⟨rfl, hb6⟩
    have HG6 := Lib.hid (HG5.out.on hb6)
    clear hb6
    rw [decide_eq_true rfl]
    go_wp2_with fail
    refine (HG6.out.count).mono ?_
    rintro e w7 ⟨rfl, rfl⟩
    rw [← HLE.out]
    go_wp2
    go_ret
    exact ⟨rfl, HB0.out.on HG6.out.below⟩
end Go.Proofs.YtbdpbkblihaeiaaDoor
