/- find: a walk. -/
import Derived.Test.YtkaflgbipjppmaaDoorBo
namespace Go.Proofs.YtkaflgbipjppmaaDoor
open Go.RowKit
set_option linter.unusedVariables false
set_option linter.unusedSimpArgs false
variable {w w' : World} {B Wb Ob p q size Pb bd at_ end_ : Nat} {v : Value} {parts : List (Nat × Nat)} {ow : Int}
/-- Which part begins with a chunk; how many there are where there is none. -/
def findI (parts : List (Nat × Nat)) (f : Int) : Nat := parts.findIdx fun x => decide ((x.1 : Int) = f)
theorem findI_to {parts : List (Nat × Nat)} {f : Int} {i : Nat} (hi : i < parts.length) (h : ((parts.getD i (0, 0)).1 : Int) = f) (hb : ∀ j, j < i → ((parts.getD j (0, 0)).1 : Int) ≠ f) : findI parts f = i := by
  unfold findI
  rw [List.findIdx_eq hi]
  have e : parts.getD i (0, 0) = parts[i] := by simp [List.getD, hi]
  refine ⟨by rw [← e]; exact decide_eq_true h, fun j hj => ?_⟩
  have e2 : parts.getD j (0, 0) = parts[j] := by simp [List.getD, show j < parts.length by omega]
  rw [← e2]; exact decide_eq_false (hb j hj)
theorem findI_none {parts : List (Nat × Nat)} {f : Int} (hb : ∀ j, j < parts.length → ((parts.getD j (0, 0)).1 : Int) ≠ f) : findI parts f = parts.length := by
  unfold findI
  rw [List.findIdx_eq_length]
  intro x hx
  obtain ⟨j, hj, rfl⟩ := List.mem_iff_getElem.1 hx
  have := hb j hj
  simpa [List.getD, hj] using this
set_option maxRecDepth 100000 in
set_option maxHeartbeats 1000000 in
theorem find_any (h : SpaceAt w Pb B bd ow v parts at_ end_) (hpl : parts.length ≤ 1000000) (f : Int) :
    Calls Tryd.prog 61 #[.pointer (some ⟨Pb, 0, none⟩), .int .i64 f] w fun e w' => e = .returned (.tuple #[.agg #[.int .i64 ((parts.getD (findI parts f) (0, 0)).1 : Nat), .int .i64 ((parts.getD (findI parts f) (0, 0)).2 : Nat)], .bool (decide (findI parts f < parts.length))]) ∧ Below w.heap.size w w' := by
  obtain ⟨A2, c2, rfl, hc2, hS2⟩ := wrow_slice partEnc (0, 0) (fun _ => rfl) h.row
  have hb := below1 w (.cells #[.int .i64 0, .int .i64 0] 93)
  have hk := heap_alloc_new w (.cells #[.int .i64 0, .int .i64 0] 93)
  have d2 : (w.alloc (.cells #[.int .i64 0, .int .i64 0] 93)).cell? ⟨Pb, 2, none⟩ = some (.slice A2 parts.length c2) := (h.on hb).c2
  have HS2 := Lib.hid hS2
  have HPIN := Lib.hid h.pin
  have HB0 := Lib.hid hb
  have HK0 := Lib.hid hk
  clear h hS2 hb hk
  go_enter Tryd.func61, Tryd.ntmps61
  go_wp2
  go_loopw [13] (fun v13 wr => ∃ i : Nat, i ≤ parts.length ∧ v13 = .int .i64 i ∧ Hid (∀ j, j < i → ((parts.getD j (0, 0)).1 : Int) ≠ f) ∧ Hid (Below w.heap.size w wr ∧ wr.heap[w.heap.size]? = some (.cells #[.int .i64 0, .int .i64 0] 93 (0, 0)))) (fun v13 _ => parts.length - (intOf v13).toNat)
  case atStart => exact ⟨0, by omega, rfl, Lib.hid (fun j hj => by omega), Lib.hid ⟨HB0.out, HK0.out⟩⟩
  case round =>
    obtain ⟨i, hi, rfl, HN, HB⟩ := hrel
    have hsz := block_lt HB.out.2
    by_cases hlt : i < parts.length
    · obtain ⟨b2, o2, rfl, e0, e1⟩ := part_at (HS2.out.on HB.out.1) i hlt
      have HIN : Hid (∀ m n : Nat, parts.getD i (0, 0) = (m, n) → (m : Int) = f → (findI parts f = i)) := Lib.hid (fun m n e1 e2 => findI_to hlt (by rw [e1]; exact e2) HN.out)
      have HNE : Hid (∀ m n : Nat, parts.getD i (0, 0) = (m, n) → (m : Int) ≠ f → ∀ j, j < i + 1 → ((parts.getD j (0, 0)).1 : Int) ≠ f) := Lib.hid (fun m n e1 e2 j hj => by
        rcases Nat.lt_or_ge j i with g | g
        · exact HN.out j g
        · obtain rfl : j = i := by omega
          rw [e1]; exact e2)
      obtain ⟨m, n, hx⟩ : ∃ m n, parts.getD i (0, 0) = (m, n) := ⟨_, _, rfl⟩
      have HX := Lib.hid hx
      rw [hx] at e0 e1
      replace e0 : wr.cell? ⟨b2, o2 + i * 2, none⟩ = some (.int .i64 (m : Nat)) := e0
      replace e1 : wr.cell? ⟨b2, o2 + i * 2 + 1, none⟩ = some (.int .i64 (n : Nat)) := e1
      have tk := heap_alloc_new wr (.cells #[.int .i64 (m : Nat), .int .i64 (n : Nat)] 93)
      have k0 := (blk_cells tk 0).trans rfl
      have k1 := (blk_cells tk 1).trans rfl
      have hr2 := ((below1 wr (.cells #[.int .i64 (m : Nat), .int .i64 (n : Nat)] 93)).block _ hsz).trans HB.out.2
      have r0 := blk_thaw HB.out.2 0
      have r1 := blk_thaw HB.out.2 1
      have r2 := (blk_cells HB.out.2 0).trans rfl
      have r3 := (blk_cells HB.out.2 1).trans rfl
      have HBb : Hid (Below w.heap.size w (wr.alloc (.cells #[.int .i64 (m : Nat), .int .i64 (n : Nat)] 93)) ∧ _) := Lib.hid ⟨HB.out.1.on (below1 wr (.cells #[.int .i64 (m : Nat), .int .i64 (n : Nat)] 93)), hr2⟩
      clear hx tk hr2
      by_cases hf : (m : Int) = f
      · have HFI := Lib.hid (HIN.out m n HX.out hf)
        subst hf
        go_wp2
        have hX := blk_set (blk_set HB.out.2 0 (.int .i64 (m : Nat))) 1 (.int .i64 (n : Nat))
        have hX2 := ((below1 _ (.cells #[.int .i64 (m : Nat), .int .i64 (n : Nat)] 93)).block _ (block_lt hX)).trans hX
        have x0 := (blk_cells hX2 0).trans rfl
        have x1 := (blk_cells hX2 1).trans rfl
        refine bodyPost_ret (v := .tuple #[.agg #[.int .i64 (m : Nat), .int .i64 (n : Nat)], .bool true]) ?_ rfl ⟨by rw [HFI.out, HX.out, decide_eq_true hlt], ((HB.out.1.setCell (p := ⟨w.heap.size, 0, none⟩) (Nat.le_refl _) _).setCell (p := ⟨w.heap.size, 1, none⟩) (Nat.le_refl _) _).on (below1 _ _)⟩
        rw [results_cell_tmp rfl]
        go_simp
        try rfl
      · have HN2 := Lib.hid (HNE.out m n HX.out hf)
        go_wp2
        go_roundw
        case rel => exact ⟨i + 1, by omega, by go_num, HN2, HBb⟩
        case measure => simp [intOf]; omega
    · obtain rfl : i = parts.length := by omega
      have HFI := Lib.hid (findI_none HN.out)
      have r0 := blk_thaw HB.out.2 0
      have r1 := blk_thaw HB.out.2 1
      have r2 := (blk_cells HB.out.2 0).trans rfl
      have r3 := (blk_cells HB.out.2 1).trans rfl
      go_wp2
      refine bodyPost_ret (v := .tuple #[.agg #[.int .i64 0, .int .i64 0], .bool false]) ?_ rfl ⟨?_, ?_⟩
      · have hX := blk_set (blk_set HB.out.2 0 (.int .i64 0)) 1 (.int .i64 0)
        have x0 := (blk_cells hX 0).trans rfl
        have x1 := (blk_cells hX 1).trans rfl
        rw [results_cell_tmp rfl]
        go_simp
        try rfl
      · rw [HFI.out, decide_eq_false (Nat.lt_irrefl _)]
        simp [List.getD]
      · exact (HB.out.1.setCell (p := ⟨w.heap.size, 0, none⟩) (Nat.le_refl _) _).setCell (p := ⟨w.heap.size, 1, none⟩) (Nat.le_refl _) _
end Go.Proofs.YtkaflgbipjppmaaDoor
