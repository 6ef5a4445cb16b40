/- The document's table: Add; how both tables hang together. -/
import Derived.Test.YtbdpbkblihaeiaaDoorRu
namespace Go.Proofs.YtbdpbkblihaeiaaDoor
open Go.RowKit
set_option linter.unusedVariables false
set_option linter.unusedSimpArgs false
variable {w w' : World} {G : Nat} {r : List Slot}
def freeR (s : Slot) : Bool := !s.used && decide (s.gen ≤ 255)
def RAddPost (w : World) (G : Nat) (r : List Slot) (ee : Entry) (e : Ending) (w' : World) : Prop :=
  (∃ k : Nat, k < r.length ∧ freeR (r.getD k slot0) = true ∧ (∀ j, j < k → freeR (r.getD j slot0) = false) ∧ e = .returned (.tuple #[tokV k ((r.getD k slot0).gen : Nat), .int .i64 0]) ∧ RefT w' G (r.set k ⟨(r.getD k slot0).gen, true, ee⟩) ∧ Mod (fun i => i = G) w w') ∨
  ((∀ j, j < r.length → freeR (r.getD j slot0) = false) ∧ e = .returned (.tuple #[tokV 0 0, .int .i64 12]) ∧ RefT w' G r ∧ Mod (fun i => i = G) w w')
set_option maxRecDepth 100000 in
set_option maxHeartbeats 1000000 in
theorem radd_any (h : RefT w G r) (ee : Entry) : Calls Tryd.prog 56 #[refVal G r, entV ee] w (RAddPost w G r ee) := by
  unfold entV refVal
  have hb := (below1 w (.cells #[.int .i64 ee.addr, .int .i64 ee.region, .bool ee.held, .bool ee.pinned] 51)).on (below1 _ (.cells #[.int .i64 0, .int .i64 0] 57))
  have hle := h.le
  have hlt := block_lt h.body
  have hR := h.on hb
  have hE := (Below.heap_alloc (w.alloc (.cells #[.int .i64 ee.addr, .int .i64 ee.region, .bool ee.held, .bool ee.pinned] 51)) (.cells #[.int .i64 0, .int .i64 0] 57) w.heap.size (by simp)).trans (heap_alloc_new w _)
  have hK := two_block (Below.refl _ ((w.alloc (.cells #[.int .i64 ee.addr, .int .i64 ee.region, .bool ee.held, .bool ee.pinned] 51)).alloc (.cells #[.int .i64 0, .int .i64 0] 57)))
  have e0 := (blk_cells hE 0).trans rfl
  have e1 := (blk_cells hE 1).trans rfl
  have e2 := (blk_cells hE 2).trans rfl
  have e3 := (blk_cells hE 3).trans rfl
  have q0 := (blk_cells hK 0).trans rfl
  have q1 := (blk_cells hK 1).trans rfl
  have x0 := blk_thaw hK 0
  have x1 := blk_thaw hK 1
  have HKB := Lib.hid hK
  have HR := Lib.hid hR
  have hne : G ≠ w.heap.size := by omega
  have hne2 : w.heap.size ≠ G := by omega
  have hne3 : G ≠ w.heap.size + 1 := by omega
  have hne4 : w.heap.size + 1 ≠ G := by omega
  clear h hE hK hR
  go_enter Tryd.func56, Tryd.ntmps56
  generalize hW2 : (w.alloc (.cells #[.int .i64 ee.addr, .int .i64 ee.region, .bool ee.held, .bool ee.pinned] 51)).alloc (.cells #[.int .i64 0, .int .i64 0] 57) = W2 at *
  go_wp2
  go_loopw [6] (fun v6 wr => ∃ j : Nat, j ≤ r.length ∧ v6 = .int .i64 j ∧ wr = W2 ∧ Hid (∀ i, i < j → freeR (r.getD i slot0) = false)) (fun v6 _ => r.length - (intOf v6).toNat)
  case atStart => exact ⟨0, by omega, rfl, rfl, Lib.hid (fun i hi => by omega)⟩
  case round =>
    obtain ⟨j, hj, rfl, rfl, HF⟩ := hrel
    by_cases hlt2 : j < r.length
    · have d0 := HR.out.cell j hlt2 0 _ rfl
      rw [Nat.add_zero] at d0
      have d1 := HR.out.cell j hlt2 1 _ rfl
      have hgn := HR.out.getGen j
      cases hf : freeR (r.getD j slot0) with
      | true =>
        have d2 := HR.out.cell j hlt2 2 _ rfl
        have d3 := HR.out.cell j hlt2 3 _ rfl
        have d4 := HR.out.cell j hlt2 4 _ rfl
        have d5 := HR.out.cell j hlt2 5 _ rfl
        have f1 := blk_thaw HR.out.body (j * 6 + 1)
        have f2 := blk_thaw HR.out.body (j * 6 + 2)
        have f3 := blk_thaw HR.out.body (j * 6 + 3)
        have f4 := blk_thaw HR.out.body (j * 6 + 4)
        have f5 := blk_thaw HR.out.body (j * 6 + 5)
        have hfu : (r.getD j slot0).used = false ∧ (r.getD j slot0).gen ≤ 255 := by
          unfold freeR at hf
          simpa only [Bool.and_eq_true, Bool.not_eq_true', decide_eq_true_eq] using hf
        have HFR := Lib.hid hf
        have kg : decide ((((r.getD j slot0).gen : Nat) : Int) ≤ 255) = true := decide_eq_true (by omega)
        rw [hfu.1] at d1
        have HFU := Lib.hid hfu
        generalize hy : (r.getD j slot0).gen = y at d0 kg hgn
        have HY := Lib.hid hy
        clear hf hfu hy
        go_wp2
        (try simp only [Exit.inBlock, Exit.then])
        have h1 := body_set HR.out.body j 1 hlt2 (by decide) (.bool true) ⟨(r.getD j slot0).gen, true, (r.getD j slot0).e⟩ rfl
        have h2 := entSet_body h1 j (by simpa using hlt2) ee
        rw [set_getD _ _ hlt2, List.set_set] at h2
        have hmS : Mod (fun i => i = G) wr (entSet (wr.setCell ⟨G, j * 6 + 1, none⟩ (.bool true)) G j ee) := (Mod.setCell (fun i => i = G) wr ⟨G, j * 6 + 1, none⟩ _ rfl).trans (entSet_mod _ _ _ _ rfl)
        have hmt : Mod (fun i => i = w.heap.size + 1) (entSet (wr.setCell ⟨G, j * 6 + 1, none⟩ (.bool true)) G j ee) (((entSet (wr.setCell ⟨G, j * 6 + 1, none⟩ (.bool true)) G j ee).setCell ⟨w.heap.size + 1, 0, none⟩ (.int .i64 (j : Nat))).setCell ⟨w.heap.size + 1, 1, none⟩ (.int .i64 (y : Nat))) := (Mod.setCell (fun i => i = w.heap.size + 1) _ ⟨w.heap.size + 1, 0, none⟩ _ rfl).trans (Mod.setCell (fun i => i = w.heap.size + 1) _ ⟨w.heap.size + 1, 1, none⟩ _ rfl)
        refine bodyPost_ret (v := .tuple #[tokV j (y : Nat), .int .i64 0]) ?_ rfl (.inl ⟨j, hlt2, HFR.out, HF.out, by rw [HY.out], ?_, ?_⟩)
        · rw [results_cell_tmp rfl]
          go_simp
          rfl
        · exact HR.out.turned j ⟨(r.getD j slot0).gen, true, ee⟩ (by show (r.getD j slot0).gen ≤ 256; have := HFU.out.2; omega) (hmt.keeps h2 hne3)
        · exact ((Mod.of_below hb).trans hmS).trans_new hmt (fun i hi e => by omega)
      | false =>
        have HF2 : Hid (∀ i, i < j + 1 → freeR (r.getD i slot0) = false) := Lib.hid (fun i hi => by
          by_cases e : i < j
          · exact HF.out i e
          · rw [show i = j by omega]; exact hf)
        cases hu : (r.getD j slot0).used with
        | true =>
          rw [hu] at d1
          clear hf hu d0
          go_wp2
          go_roundw
          case rel => exact ⟨j + 1, by omega, by go_num, trivial, HF2⟩
          case measure => simp [intOf]; omega
        | false =>
          rw [hu] at d1
          have kg : ¬ (((r.getD j slot0).gen : Nat) : Int) ≤ 255 := by
            intro e
            unfold freeR at hf
            rw [hu, decide_eq_true (show (r.getD j slot0).gen ≤ 255 by omega)] at hf
            cases hf
          generalize (r.getD j slot0).gen = y at d0 kg hgn
          clear hf hu
          go_wp2
          go_roundw
          case rel => exact ⟨j + 1, by omega, by go_num, trivial, HF2⟩
          case measure => simp [intOf]; omega
    · obtain rfl : j = r.length := by omega
      go_wp2
      (try simp only [Exit.inBlock, Exit.then])
      have hmt : Mod (fun i => i = w.heap.size + 1) wr ((wr.setCell ⟨w.heap.size + 1, 0, none⟩ (.int .i64 0)).setCell ⟨w.heap.size + 1, 1, none⟩ (.int .i64 0)) := (Mod.setCell (fun i => i = w.heap.size + 1) _ ⟨w.heap.size + 1, 0, none⟩ _ rfl).trans (Mod.setCell (fun i => i = w.heap.size + 1) _ ⟨w.heap.size + 1, 1, none⟩ _ rfl)
      refine bodyPost_ret (v := .tuple #[tokV 0 0, .int .i64 12]) ?_ rfl (.inr ⟨HF.out, rfl, HR.out.mod hmt hne3, ?_⟩)
      · rw [results_cell_tmp rfl]
        go_simp
        rfl
      · exact (Mod.of_below hb).trans_new hmt (fun i hi e => by omega)
end Go.Proofs.YtbdpbkblihaeiaaDoor
