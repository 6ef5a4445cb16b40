/- Contracts of the package table: Add. -/
import Derived.Test.YtbdpbkblihaeiaaDoorTe
namespace Go.Proofs.YtbdpbkblihaeiaaDoor
open Go.RowKit
set_option linter.unusedVariables false
set_option linter.unusedSimpArgs false
variable {w w' : World} {B S p q : Nat} {l : List Slot} {tB tS T T' : TypeId}
theorem exit_world {Q : Exit → Act → World → Prop} {x : Exit} {a : Act} {w w2 : World} (e : w = w2) (h : Q x a w2) : Q x a w := e ▸ h
/-- What only new blocks may have turned behind it. -/
theorem Mod.trans_new {S S' : Nat → Prop} {a b c : World} (h : Mod S a b) (k : Mod S' b c) (hn : ∀ i, i < a.heap.size → S' i → False) : Mod S a c :=
  ⟨k.os.trans h.os, k.tape.trans h.tape, k.output.trans h.output, Nat.le_trans h.size k.size, fun i hi hs => (k.block i (Nat.lt_of_lt_of_le hi h.size) (fun e => hn i hi e)).trans (h.block i hi hs)⟩
theorem add_nil (e : Entry) (w : World) : Calls Tryd.prog 36 #[.pointer none, entV e] w fun e w' => e = .returned (.tuple #[tokV 0 0, .int .i64 1]) ∧ Below w.heap.size w w' := by
  unfold entV
  go_enter Tryd.func36, Tryd.ntmps36
  go_wp2
  (try simp only [Exit.inBlock, Exit.then])
  refine bodyPost_ret (v := .tuple #[tokV 0 0, .int .i64 1]) ?_ rfl ⟨rfl, ?_⟩
  · rw [results_cell_tmp rfl]
    go_simp
    rfl
  · exact (below1 w _).on (below1 _ _)
/-- Every slot is taken. -/
def Full (l : List Slot) : Prop := ∀ s ∈ l, taken s = true
theorem add_full (h : TableAt w B S p q l tB tS T T') (hT : Tab w) (e : Entry) (hf : FirstL (l.map taken) 0 = (0, false)) : Calls Tryd.prog 36 #[.pointer (some ⟨B, 0, none⟩), entV e] w fun e w' => e = .returned (.tuple #[tokV 0 0, .int .i64 12]) ∧ Below w.heap.size w w' := by
  unfold entV
  have HF : Hid (∀ w1, Below w.heap.size w w1 → Calls Tryd.prog 15 #[.pointer (some ⟨p, 0, none⟩), .int .i64 0] w1 fun e w' => e = .returned (.tuple #[.int .i64 0, .bool false]) ∧ w1 = w') := Lib.hid (fun w1 hb => by
    obtain ⟨ws, hm⟩ := (h.on hb).map
    refine (first_any hm (hT.on hb) 0).mono fun e w' ⟨he, hw⟩ => ⟨?_, hw⟩
    rw [he]
    show Ending.returned (.tuple #[.int .i64 (FirstL (l.map taken) 0).1, .bool (FirstL (l.map taken) 0).2]) = _
    rw [hf]; rfl)
  have hb2 := (below1 w (.cells #[.int .i64 e.addr, .int .i64 e.region, .bool e.held, .bool e.pinned] 51)).on (below1 _ (.cells #[.int .i64 0, .int .i64 0] 57))
  have c0 := (h.on hb2).bits
  have HB := Lib.hid hb2
  clear h hT hf hb2
  go_enter Tryd.func36, Tryd.ntmps36
  go_wp2_with (go_at_call 15; refine (HF.out _ HB.out).mono ?_; rintro e w1 ⟨rfl, rfl⟩)
  (try simp only [Exit.inBlock, Exit.then])
  refine bodyPost_ret (v := .tuple #[tokV 0 0, .int .i64 12]) ?_ rfl ⟨rfl, HB.out⟩
  rw [results_cell_tmp rfl]
  go_simp
  rfl
def addL (l : List Slot) (k : Nat) (e : Entry) : List Slot := l.set k ⟨(l.getD k slot0).gen + 1, true, e⟩
set_option maxHeartbeats 1000000 in
theorem add_in (h : TableAt w B S p q l tB tS T T') (hT : Tab w) (ee : Entry) (k : Nat) (hf : FirstL (l.map taken) 0 = (k, true)) (h1 : k < l.length) (h2 : taken (l.getD k slot0) = false) :
    Calls Tryd.prog 36 #[.pointer (some ⟨B, 0, none⟩), entV ee] w fun e w' => e = .returned (.tuple #[tokV k ((l.getD k slot0).gen + 1 : Nat), .int .i64 0]) ∧ TableTo w B S p q (addL l k ee) tB tS T T' w' := by
  unfold entV
  have HF : Hid (∀ w1, Below w.heap.size w w1 → Calls Tryd.prog 15 #[.pointer (some ⟨p, 0, none⟩), .int .i64 0] w1 fun e w' => e = .returned (.tuple #[.int .i64 (k : Nat), .bool true]) ∧ w1 = w') := Lib.hid (fun w1 hb => by
    obtain ⟨ws, hm⟩ := (h.on hb).map
    refine (first_any hm (hT.on hb) 0).mono fun e w' ⟨he, hw⟩ => ⟨?_, hw⟩
    rw [he]
    show Ending.returned (.tuple #[.int .i64 (FirstL (l.map taken) 0).1, .bool (FirstL (l.map taken) 0).2]) = _
    rw [hf])
  have hle := h.le
  have hb2 := (below1 w (.cells #[.int .i64 ee.addr, .int .i64 ee.region, .bool ee.held, .bool ee.pinned] 51)).on (below1 _ (.cells #[.int .i64 0, .int .i64 0] 57))
  have HB := Lib.hid hb2
  have h0 := h.on hb2
  have c0 := h0.bits
  have hg := cell_gen h k
  have hg2 : ¬ (l.getD k slot0).gen = 255 := by intro e; rw [taken, e] at h2; simp at h2
  obtain ⟨ws, hm⟩ := h0.map
  have HSET := Lib.hid (set_in hm k true (by simpa using h1))
  have HT0 := Lib.hid h0
  have H2 := Lib.hid h2
  have hlt := block_lt h.body
  have hltB := block_lt h.head
  have hltp := block_lt hm.head
  have hltq := block_lt hm.body
  have HH := Lib.hid h
  obtain ⟨ws0, hm0⟩ := h.map
  have hp0 := block_lt hm0.head
  have hq0 := block_lt hm0.body
  clear h hT hf hb2 h0 hm h2 hltp hltq hm0
  go_enter Tryd.func36, Tryd.ntmps36
  go_wp2_with (go_at_call 15; refine (HF.out _ HB.out).mono ?_; rintro e w1 ⟨rfl, rfl⟩)
  refine HSET.out.mono ?_
  rintro e w1 ⟨rfl, ws1, hM1, hmod1⟩
  have hB1 := hmod1.keeps HT0.out.head (fun e => by rcases e with e | e; exact HT0.out.Bp e; exact HT0.out.Bq e)
  have hS1 := hmod1.keeps HT0.out.body (fun e => by rcases e with e | e; exact HT0.out.Sp e; exact HT0.out.Sq e)
  have hE1 := hmod1.keeps ((Below.heap_alloc _ _ _ (by simp)).trans (heap_alloc_new w _)) (fun e => by rcases e with e | e <;> omega)
  have hR := two_block (Below.refl _ ((w.alloc (.cells #[.int .i64 ee.addr, .int .i64 ee.region, .bool ee.held, .bool ee.pinned] 51)).alloc (.cells #[.int .i64 0, .int .i64 0] 57)))
  have hR1 := hmod1.keeps hR (fun e => by rcases e with e | e <;> omega)
  have c1 := (blk_cells hB1 0).trans rfl
  have d (j : Nat) (v : Value) (hv : (slotV (l.getD k slot0))[j]? = some v) : w1.cell? ⟨S, k * 6 + j, none⟩ = some v := by
    rw [blk_cells hS1 (k * 6 + j)]
    have := flatMap_get slotV 6 (fun _ => rfl) slot0 l k j v h1 hv
    simpa using this
  have d0 := d 0 _ rfl
  rw [Nat.add_zero] at d0
  have d1 := d 1 _ rfl
  have d2 := d 2 _ rfl
  have d3 := d 3 _ rfl
  have d4 := d 4 _ rfl
  have d5 := d 5 _ rfl
  clear d
  have f0 := blk_thaw hS1 (k * 6)
  have f1 := blk_thaw hS1 (k * 6 + 1)
  have f2 := blk_thaw hS1 (k * 6 + 2)
  have f3 := blk_thaw hS1 (k * 6 + 3)
  have f4 := blk_thaw hS1 (k * 6 + 4)
  have f5 := blk_thaw hS1 (k * 6 + 5)
  have e0 := (blk_cells hE1 0).trans rfl
  have e1 := (blk_cells hE1 1).trans rfl
  have e2 := (blk_cells hE1 2).trans rfl
  have e3 := (blk_cells hE1 3).trans rfl
  have r0 := (blk_cells hR1 0).trans rfl
  have r1 := (blk_cells hR1 1).trans rfl
  have HR1 := Lib.hid hR1
  have x0 := blk_thaw hR1 0
  have x1 := blk_thaw hR1 1
  have HM1 := Lib.hid hM1
  have HMOD1 := Lib.hid hmod1
  have HB1 := Lib.hid hB1
  have HS1 := Lib.hid hS1
  have n1 : S ≠ w.heap.size := by omega
  have n2 : S ≠ w.heap.size + 1 := by omega
  have n3 : w.heap.size ≠ S := by omega
  have n4 : w.heap.size + 1 ≠ S := by omega
  have hwr : wrap64 (((l.getD k slot0).gen : Int) + 1) = (((l.getD k slot0).gen + 1 : Nat) : Int) := by simp [wrap64, - List.getD_eq_getElem?_getD]; omega
  generalize hyy : (l.getD k slot0).gen = y at d0 hwr hg hg2
  have HY := Lib.hid hyy
  clear hM1 hmod1 hB1 hS1 hE1 hR hR1 c0 hyy
  go_wp2
  go_region
  obtain ⟨w4, hw4⟩ : ∃ w4, w4 = (entSet ((w1.setCell ⟨S, k * 6, none⟩ (.int .i64 ((y : Int) + 1))).setCell ⟨S, k * 6 + 1, none⟩ (.bool true)) S k ee).drew := ⟨_, rfl⟩
  refine exit_world (Q := Exit.then _ _) (w2 := w4) (by rw [hw4]; rfl) ?_
  have hM4 : Mod (fun i => i = S) w1 w4 := hw4 ▸ (((Mod.setCell (fun i => i = S) w1 ⟨S, k * 6, none⟩ _ rfl).trans (Mod.setCell _ _ _ _ rfl)).trans (entSet_mod _ _ _ _ rfl)).drew
  have h0 : (w1.setCell ⟨S, k * 6, none⟩ (.int .i64 ((y : Int) + 1))).heap[S]? = some (.cells ((l.set k ⟨y + 1, (l.getD k slot0).used, (l.getD k slot0).e⟩).flatMap slotV).toArray tS (0, 0)) := body_set HS1.out k 0 h1 (by decide) (.int .i64 ((y : Int) + 1)) ⟨y + 1, (l.getD k slot0).used, (l.getD k slot0).e⟩ rfl
  have h2 := body_set h0 k 1 (by simpa using h1) (by decide) (.bool true) ⟨y + 1, true, (l.getD k slot0).e⟩ (by rw [set_getD l k h1]; rfl)
  rw [List.set_set] at h2
  have h3 := entSet_body h2 k (by simpa using h1) ee
  rw [set_getD l k h1, List.set_set] at h3
  have hadd : addL l k ee = l.set k ⟨y + 1, true, ee⟩ := by unfold addL; rw [HY.out]
  rw [← hadd] at h3
  generalize entSet ((w1.setCell ⟨S, k * 6, none⟩ (.int .i64 ((y : Int) + 1))).setCell ⟨S, k * 6 + 1, none⟩ (.bool true)) S k ee = w5 at h3 hw4
  have hS4 : w4.heap[S]? = some (.cells ((addL l k ee).flatMap slotV).toArray tS (0, 0)) := hw4 ▸ h3
  clear h0 h2 h3
  have hg4 : w4.cell? ⟨S, k * 6, none⟩ = some (.int .i64 ((y : Int) + 1)) := by
    rw [blk_cells hS4 (k * 6)]
    have := flatMap_get slotV 6 (fun _ => rfl) slot0 (addL l k ee) k 0 (.int .i64 ((y + 1 : Nat) : Int)) (by unfold addL; simpa using h1) (by unfold addL; rw [set_getD l k h1, HY.out]; rfl)
    simpa using this
  have r0' := hM4.cell r0 n4
  have r1' := hM4.cell r1 n4
  have hR4 := hM4.keeps HR1.out n4
  have x0' := blk_thaw hR4 0
  have x1' := blk_thaw hR4 1
  have HM4 := Lib.hid hM4
  have HS4 := Lib.hid hS4
  clear hw4 hM4 hS4 hR4 r0 r1 x0 x1 d0 d1 d2 d3 d4 d5 f0 f1 f2 f3 f4 f5 e0 e1 e2 e3 c1 n1 n2 n3 hwr
  go_wp2
  (try simp only [Exit.inBlock, Exit.then])
  refine bodyPost_ret (v := .tuple #[tokV k ((l.getD k slot0).gen + 1 : Nat), .int .i64 0]) ?_ rfl ⟨rfl, ?_⟩
  · rw [results_cell_tmp rfl, HY.out]
    go_simp
    rfl
  · have h := HT0.out
    have hmt : Mod (fun i => i = w.heap.size + 1) w4 ((w4.setCell ⟨w.heap.size + 1, 0, none⟩ (.int .i64 (k : Int))).setCell ⟨w.heap.size + 1, 1, none⟩ (.int .i64 ((y : Int) + 1))) := (Mod.setCell (fun i => i = w.heap.size + 1) w4 ⟨w.heap.size + 1, 0, none⟩ _ rfl).trans (Mod.setCell (fun i => i = w.heap.size + 1) _ ⟨w.heap.size + 1, 1, none⟩ _ rfl)
    have hx : taken (⟨(l.getD k slot0).gen + 1, true, ee⟩ : Slot) = true := rfl
    refine ⟨h.turned k ⟨(l.getD k slot0).gen + 1, true, ee⟩ (by show (l.getD k slot0).gen + 1 ≤ 255; rw [HY.out]; omega) (ws := ws1) (n := (goneN l : Nat)) ?_ (hmt.keeps HS4.out n4.symm) (hmt.keeps (HM4.out.keeps HB1.out h.BS) (by omega)) ?_, ?_⟩
    · rw [hx]
      exact (HM1.out.mod HM4.out (fun e => h.Sp e.symm) (fun e => h.Sq e.symm)).mod hmt (by omega) (by omega)
    · have := goneN_set l k h1 ⟨(l.getD k slot0).gen + 1, true, ee⟩
      have h2 := H2.out
      have h3 : retired (l.getD k slot0) = false := by
        unfold taken at h2; unfold retired
        revert h2
        cases (l.getD k slot0).used <;> simp
      rw [this, h3]
      simp [retired]
    · have m1 : Mod (Four B S p q) w _ := Mod.of_below HB.out
      have m2 := HMOD1.out.mono (S' := Four B S p q) (fun i _ e => by rcases e with e | e; exact .inr (.inr (.inl e)); exact .inr (.inr (.inr e)))
      have m3 := HM4.out.mono (S' := Four B S p q) (fun i _ e => .inr (.inl e))
      refine ((m1.trans m2).trans m3).trans_new hmt ?_
      intro i hi e
      omega
end Go.Proofs.YtbdpbkblihaeiaaDoor
