/- The document's table: New, Drop, Counts, Add. -/
import Derived.Test.YtbdpbkblihaeiaaDoorRt
namespace Go.Proofs.YtbdpbkblihaeiaaDoor
open Go.RowKit
set_option linter.unusedVariables false
set_option linter.unusedSimpArgs false
variable {w w' : World} {G : Nat} {r : List Slot}
def slot1 : Slot := ⟨1, false, noEntry⟩
def refInit (K j : Nat) : List Slot := (List.range K).map fun i => if i < j then slot1 else slot0
theorem refInit_len (K j : Nat) : (refInit K j).length = K := by simp [refInit]
theorem refInit_get {K j i : Nat} (h : i < K) : (refInit K j).getD i slot0 = if i < j then slot1 else slot0 := by simp [refInit, List.getD, h]
theorem refInit_zero (K : Nat) : refInit K 0 = List.replicate K slot0 := slots_ext (by simp [refInit]) (fun i hi => by
  rw [refInit_len] at hi
  rw [refInit_get hi, if_neg (by omega)]
  simp [List.getD, hi])
theorem refInit_next {K j : Nat} (h : j < K) : (refInit K j).set j slot1 = refInit K (j + 1) := slots_ext (by simp [refInit]) (fun i hi => by
  have hi' : i < K := by simpa [refInit] using hi
  rw [refInit_get hi']
  by_cases e : i = j
  · subst e
    rw [set_getD _ _ (by rw [refInit_len]; exact h), if_pos (by omega)]
  · rw [set_ne _ e, refInit_get hi']
    by_cases g : i < j
    · rw [if_pos g, if_pos (by omega)]
    · rw [if_neg g, if_neg (by omega)])
theorem refInit_all (K : Nat) : refInit K K = List.replicate K slot1 := slots_ext (by simp [refInit]) (fun i hi => by
  rw [refInit_len] at hi
  rw [refInit_get hi, if_pos hi]
  simp [List.getD, hi])
theorem infoRefSlot : (Tryd.prog.info? 110).map (fun i => (i.zero, i.size, i.bytes)) = some (some (.agg #[.int .i64 0, .bool false, .int .i64 0, .int .i64 0, .bool false, .bool false]), 6, 40) := by kernel_rfl
set_option maxRecDepth 100000 in
theorem rnew_any (K : Nat) (w : World) (h2 : K ≤ 8) : Calls Tryd.prog 43 #[.int .i64 K] w fun e w' => e = .returned (refVal w.heap.size (List.replicate K slot1)) ∧ RefT w' w.heap.size (List.replicate K slot1) ∧ Below w.heap.size w w' := by
  obtain ⟨i0, hi, hz0, hz1, hz2⟩ := info_parts infoRefSlot
  have hmk : (Instr.makeSlice 79 (.int .i64 (K : Int)) (.int .i64 (K : Int))).run Tryd.prog w = .ok (.slice (some ⟨w.heap.size, 0, none⟩) K K) (w.alloc (.cells ((refInit K 0).flatMap slotV).toArray 110)) := by
    rw [run_make w 79 110 i0 (.agg #[.int .i64 0, .bool false, .int .i64 0, .int .i64 0, .bool false, .bool false]) Tryd.underlying79 hi hz0 .i64 .i64 _ _ (by omega) (by omega) (by rw [hz2]; omega) (by omega), hz1]
    rw [Int.toNat_natCast, refInit_zero, ← made_slots K]
    rfl
  have HB0 : Hid ((w.alloc (.cells ((refInit K 0).flatMap slotV).toArray 110)).heap[w.heap.size]? = some (.cells ((refInit K 0).flatMap slotV).toArray 110 (0, 0))) := Lib.hid (heap_alloc_new w _)
  have hb0 := below1 w (.cells ((refInit K 0).flatMap slotV).toArray 110)
  clear hi hz0 hz1 hz2
  go_enter Tryd.func43, Tryd.ntmps43
  go_wp2
  go_loopw [4] (fun v4 wr => ∃ j : Nat, j ≤ K ∧ v4 = .int .i64 j ∧ Below w.heap.size w wr ∧ Hid (wr.heap[w.heap.size]? = some (.cells ((refInit K j).flatMap slotV).toArray 110 (0, 0)))) (fun v4 _ => K - (intOf v4).toNat)
  case atStart => exact ⟨0, by omega, rfl, hb0, HB0⟩
  case round =>
    obtain ⟨j, hj, rfl, hB, HB⟩ := hrel
    by_cases hlt : j < K
    · have hjl : j < (refInit K j).length := by rw [refInit_len]; exact hlt
      have c0 := blk_cells HB.out (j * 6)
      have f0 := blk_thaw HB.out (j * 6)
      have hc : wr.cell? ⟨w.heap.size, j * 6, none⟩ = some (.int .i64 0) := by
        rw [c0]
        have := flatMap_get slotV 6 (fun _ => rfl) slot0 (refInit K j) j 0 (.int .i64 0) hjl (by rw [refInit_get hlt, if_neg (by omega)]; rfl)
        simpa using this
      have HS := Lib.hid (body_set HB.out j 0 hjl (by decide) (.int .i64 1) slot1 (by rw [refInit_get hlt, if_neg (by omega)]; rfl))
      rw [refInit_next hlt, Nat.add_zero] at HS
      clear c0
      go_wp2
      go_roundw
      case rel => exact ⟨j + 1, by omega, by go_num, hB.setCell (Nat.le_refl _) _, HS⟩
      case measure => simp [intOf]; omega
    · obtain rfl : j = K := by omega
      go_wp2
      go_ret
      have hh := HB.out
      rw [refInit_all] at hh
      exact ⟨by unfold refVal; rw [List.length_replicate]; rfl, ⟨hh, fun s hs => by rw [(List.mem_replicate.1 hs).2]; decide, by simpa using h2⟩, hB⟩
set_option maxHeartbeats 1000000 in
theorem rdrop_any (h : RefT w G r) (k : Nat) (g : Int) (hk : k < r.length) (hg : (r.getD k slot0).gen ≤ 255) : Calls Tryd.prog 57 #[refVal G r, tokV k g] w fun e w' => e = .returned (.tuple #[]) ∧ RefT w' G (r.set k ⟨(r.getD k slot0).gen + 1, false, noEntry⟩) ∧ Mod (fun i => i = G) w w' := by
  unfold tokV refVal
  have hb := below1 w (.cells #[.int .i64 (k : Int), .int .i64 g] 57)
  have hle := h.le
  have hlt := block_lt h.body
  have e0 := (blk_cells (heap_alloc_new w (.cells #[.int .i64 (k : Int), .int .i64 g] 57)) 0).trans rfl
  have hR := h.on hb
  have d0 := hR.cell k hk 0 _ rfl
  rw [Nat.add_zero] at d0
  have d1 := hR.cell k hk 1 _ rfl
  have d2 := hR.cell k hk 2 _ rfl
  have d3 := hR.cell k hk 3 _ rfl
  have d4 := hR.cell k hk 4 _ rfl
  have d5 := hR.cell k hk 5 _ rfl
  have f0 := blk_thaw hR.body (k * 6)
  have f1 := blk_thaw hR.body (k * 6 + 1)
  have f2 := blk_thaw hR.body (k * 6 + 2)
  have f3 := blk_thaw hR.body (k * 6 + 3)
  have f4 := blk_thaw hR.body (k * 6 + 4)
  have f5 := blk_thaw hR.body (k * 6 + 5)
  have hne : G ≠ w.heap.size := by omega
  have hne2 : w.heap.size ≠ G := by omega
  have HR := Lib.hid hR
  have hwr : wrap64 (((r.getD k slot0).gen : Int) + 1) = (((r.getD k slot0).gen + 1 : Nat) : Int) := by simp [wrap64, - List.getD_eq_getElem?_getD]; omega
  generalize hy : (r.getD k slot0).gen = y at d0 hwr hg
  have HY := Lib.hid hy
  clear h hR hy
  go_enter Tryd.func57, Tryd.ntmps57
  generalize hW1 : w.alloc (.cells #[.int .i64 (k : Int), .int .i64 g] 57) = W1 at *
  go_wp2
  have hd := drop_body HR.out.body k hk
  have hd2 := body_set hd k 0 (by unfold dropL; simpa using hk) (by decide) (.int .i64 ((y : Int) + 1)) ⟨y + 1, false, noEntry⟩ (by unfold dropL; rw [set_getD _ _ hk]; rfl)
  unfold dropL at hd2
  rw [List.set_set] at hd2
  refine bodyPost_end (results_none rfl _ _ _) rfl ⟨rfl, ?_, ?_⟩
  · exact HR.out.turned k ⟨y + 1, false, noEntry⟩ (by show y + 1 ≤ 256; omega) hd2
  · exact (Mod.of_below hb).trans ((drop_mod (P := fun i => i = G) W1 G k rfl).trans (Mod.setCell _ _ _ _ rfl))
/-- How many of the first j slots are used, free, retired. -/
def cU (r : List Slot) : Nat := (r.filter (·.used)).length
def cL (r : List Slot) : Nat := (r.filter fun s => !s.used && decide (s.gen ≤ 255)).length
def cG (r : List Slot) : Nat := (r.filter fun s => !s.used && !decide (s.gen ≤ 255)).length
theorem take_next (r : List Slot) {j : Nat} (h : j < r.length) : r.take (j + 1) = r.take j ++ [r.getD j slot0] := by
  rw [List.take_add_one]; simp [List.getD, h]
theorem filter_one (p : Slot → Bool) (s : Slot) : (List.filter p [s]).length = if p s = true then 1 else 0 := by cases h : p s <;> simp [List.filter, h]
theorem cU_next (r : List Slot) {j : Nat} (h : j < r.length) : cU (r.take (j + 1)) = cU (r.take j) + (if (r.getD j slot0).used = true then 1 else 0) := by
  unfold cU; rw [take_next r h, List.filter_append, List.length_append, filter_one]
theorem cL_next (r : List Slot) {j : Nat} (h : j < r.length) : cL (r.take (j + 1)) = cL (r.take j) + (if (!(r.getD j slot0).used && decide ((r.getD j slot0).gen ≤ 255)) = true then 1 else 0) := by
  unfold cL; rw [take_next r h, List.filter_append, List.length_append, filter_one]
theorem cG_next (r : List Slot) {j : Nat} (h : j < r.length) : cG (r.take (j + 1)) = cG (r.take j) + (if (!(r.getD j slot0).used && !decide ((r.getD j slot0).gen ≤ 255)) = true then 1 else 0) := by
  unfold cG; rw [take_next r h, List.filter_append, List.length_append, filter_one]
theorem rcounts_any (h : RefT w G r) : Calls Tryd.prog 58 #[refVal G r] w fun e w' => e = .returned (.tuple #[.int .i64 (cU r : Nat), .int .i64 (cL r : Nat), .int .i64 (cG r : Nat)]) ∧ w = w' := by
  unfold refVal
  have hle := h.le
  have H := Lib.hid h
  clear h
  go_enter Tryd.func58, Tryd.ntmps58
  go_wp2
  go_loopw [5, 6, 7, 8] (fun v5 v6 v7 v8 wr => ∃ j a b c : Nat, j ≤ r.length ∧ a ≤ j ∧ b ≤ j ∧ c ≤ j ∧ v8 = .int .i64 j ∧ v5 = .int .i64 a ∧ v6 = .int .i64 b ∧ v7 = .int .i64 c ∧ wr = w ∧ Hid (a = cU (r.take j) ∧ b = cL (r.take j) ∧ c = cG (r.take j))) (fun _ _ _ v8 _ => r.length - (intOf v8).toNat)
  case atStart => exact ⟨0, 0, 0, 0, by omega, by omega, by omega, by omega, rfl, rfl, rfl, rfl, rfl, Lib.hid ⟨rfl, rfl, rfl⟩⟩
  case round =>
    obtain ⟨j, a, b, c, hj, ha, hb, hc, rfl, rfl, rfl, rfl, rfl, HC⟩ := hrel
    by_cases hlt : j < r.length
    · have c0 := H.out.cell j hlt 0 _ rfl
      have c1 := H.out.cell j hlt 1 _ rfl
      rw [Nat.add_zero] at c0
      have hu := cU_next r hlt
      have hl := cL_next r hlt
      have hg := cG_next r hlt
      obtain ⟨e1, e2, e3⟩ := HC.out
      rw [← e1] at hu
      rw [← e2] at hl
      rw [← e3] at hg
      cases hus : (r.getD j slot0).used with
      | true =>
        rw [hus] at c1 hu hl hg
        have HN : Hid (a + 1 = cU (r.take (j + 1)) ∧ b = cL (r.take (j + 1)) ∧ c = cG (r.take (j + 1))) := Lib.hid ⟨by rw [hu]; rfl, by rw [hl]; rfl, by rw [hg]; rfl⟩
        clear hu hl hg e1 e2 e3 HC hus c0
        go_wp2
        go_roundw
        case rel => exact ⟨j + 1, a + 1, b, c, by omega, by omega, by omega, by omega, by go_num, by go_num, rfl, rfl, trivial, HN⟩
        case measure => simp [intOf]; omega
      | false =>
        rw [hus] at c1 hu hl hg
        by_cases hgen : (r.getD j slot0).gen ≤ 255
        · have HN : Hid (a = cU (r.take (j + 1)) ∧ b + 1 = cL (r.take (j + 1)) ∧ c = cG (r.take (j + 1))) := Lib.hid ⟨by rw [hu]; rfl, by rw [hl, decide_eq_true hgen]; rfl, by rw [hg, decide_eq_true hgen]; rfl⟩
          have kg : decide ((((r.getD j slot0).gen : Nat) : Int) ≤ 255) = true := decide_eq_true (by omega)
          generalize (r.getD j slot0).gen = y at c0 kg hgen
          clear hu hl hg e1 e2 e3 HC hus
          go_wp2
          go_roundw
          case rel => exact ⟨j + 1, a, b + 1, c, by omega, by omega, by omega, by omega, by go_num, rfl, by go_num, rfl, trivial, HN⟩
          case measure => simp [intOf]; omega
        · have HN : Hid (a = cU (r.take (j + 1)) ∧ b = cL (r.take (j + 1)) ∧ c + 1 = cG (r.take (j + 1))) := Lib.hid ⟨by rw [hu]; rfl, by rw [hl, decide_eq_false hgen]; rfl, by rw [hg, decide_eq_false hgen]; rfl⟩
          have kg : ¬ (((r.getD j slot0).gen : Nat) : Int) ≤ 255 := by omega
          generalize (r.getD j slot0).gen = y at c0 kg hgen
          clear hu hl hg e1 e2 e3 HC hus
          go_wp2
          go_roundw
          case rel => exact ⟨j + 1, a, b, c + 1, by omega, by omega, by omega, by omega, by go_num, rfl, rfl, by go_num, trivial, HN⟩
          case measure => simp [intOf]; omega
    · obtain rfl : j = r.length := by omega
      obtain ⟨e1, e2, e3⟩ := HC.out
      rw [List.take_length] at e1 e2 e3
      subst e1 e2 e3
      go_wp2
      go_ret3
      exact ⟨rfl, rfl⟩
end Go.Proofs.YtbdpbkblihaeiaaDoor
