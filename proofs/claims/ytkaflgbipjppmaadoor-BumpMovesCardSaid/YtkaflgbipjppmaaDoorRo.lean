/- The document's store: Owned, Free, New: walks. -/
import Derived.Test.YtkaflgbipjppmaaDoorOw
import Derived.Test.YtkaflgbipjppmaaDoorRx3
namespace Go.Proofs.YtkaflgbipjppmaaDoor
open Go.RowKit
set_option linter.unusedVariables false
set_option linter.unusedSimpArgs false
variable {w w' : World} {G Wg Og size : Nat} {W W' own own' : List Int}
/-- Of the first k chunks an owner's. -/
def upO (own : List Int) (o : Int) (k : Nat) : List Nat := selO own o (List.range k)
theorem upO_yes {own : List Int} {o : Int} {k : Nat} (h : own.getD k 0 = o) : upO own o (k + 1) = upO own o k ++ [k] := by
  unfold upO; rw [List.range_succ]; exact selO_yes h
theorem upO_no {own : List Int} {o : Int} {k : Nat} (h : own.getD k 0 ≠ o) : upO own o (k + 1) = upO own o k := by
  unfold upO; rw [List.range_succ]; exact selO_no h
theorem upO_le (own : List Int) (o : Int) (k : Nat) : (upO own o k).length ≤ k := by have := selO_le own o (List.range k); simpa [upO] using this
theorem ownedL_eq {own : List Int} {o : Int} (ho : o ≠ 0) : ownedL own o = upO own o own.length := by
  unfold ownedL upO selO ones onesTo
  rw [List.filter_filter, List.length_map]
  refine List.filter_congr fun c hc => ?_
  have hcl : c < own.length := by simpa using hc
  rw [busy_get hcl]
  by_cases h : own.getD c 0 = o
  · simp [h, busy, ho, - List.getD_eq_getElem?_getD]
  · simp [h, - List.getD_eq_getElem?_getD]
theorem free_count (own : List Int) : ∀ k, k ≤ own.length → (upO own 0 k).length + many ((own.take k).map busy) = k
  | 0, _ => by simp [upO, selO, many]
  | k + 1, h => by
    have ih := free_count own k (by omega)
    have ht : own.take (k + 1) = own.take k ++ [own.getD k 0] := by
      rw [List.take_add_one]; simp [List.getD, show k < own.length by omega]
    have hm : many ((own.take (k + 1)).map busy) = many ((own.take k).map busy) + many [busy (own.getD k 0)] := by rw [ht, List.map_append]; unfold many; rw [List.count_append]; rfl
    rw [hm]
    generalize many ((own.take k).map busy) = mk at *
    by_cases hz : own.getD k 0 = 0
    · rw [upO_yes hz, List.length_append, hz]
      have : many [busy 0] = 0 := by decide
      simp; omega
    · rw [upO_no hz]
      have : many [busy (own.getD k 0)] = 1 := by
        have : busy (own.getD k 0) = true := by simp [busy, hz, - List.getD_eq_getElem?_getD]
        rw [this]; decide
      omega
theorem freeN_up (own : List Int) : freeN own = (upO own 0 own.length).length := by
  have := free_count own own.length (Nat.le_refl _)
  rw [List.take_length] at this
  unfold freeN; omega
set_option maxRecDepth 100000 in
set_option maxHeartbeats 1000000 in
theorem rfree_any (h : RefSt w G Wg Og W size own) : Calls Tryd.prog 53 #[.pointer (some ⟨G, 0, none⟩)] w fun e w' => e = .returned (.int .i64 (freeN own : Nat)) ∧ w = w' := by
  have k2 := h.c2
  have hol := h.o2
  have H := Lib.hid h
  rw [freeN_up]
  clear h
  go_enter Tryd.func53, Tryd.ntmps53
  go_wp2
  go_loop [3, 4] (fun v3 v4 => ∃ k : Nat, k ≤ own.length ∧ v4 = .int .i64 k ∧ v3 = .int .i64 ((upO own 0 k).length : Nat)) (fun _ v4 => own.length - (intOf v4).toNat)
  case atStart => exact ⟨0, by omega, rfl, rfl⟩
  case round =>
    obtain ⟨k, hk, rfl, rfl⟩ := hrel
    have hle := upO_le own 0 k
    by_cases hlt : k < own.length
    · have hcell := H.out.own_cell k hlt
      by_cases hz : own.getD k 0 = 0
      · have HU := Lib.hid (upO_yes (o := 0) hz)
        rw [hz] at hcell
        clear hz
        go_wp2
        go_round
        case rel => exact ⟨k + 1, by omega, by go_num, by rw [HU.out, List.length_append]; go_num⟩
        case measure => simp [intOf]; omega
      · have HU := Lib.hid (upO_no (o := 0) hz)
        have hb : (own.getD k 0 == 0) = false := by simpa using hz
        generalize own.getD k 0 = y at hcell hb
        clear hz
        go_wp2
        go_round
        case rel => exact ⟨k + 1, by omega, by go_num, by rw [HU.out]⟩
        case measure => simp [intOf]; omega
    · obtain rfl : k = own.length := by omega
      go_wp2
      go_ret
      exact ⟨rfl, rfl⟩
set_option maxRecDepth 100000 in
set_option maxHeartbeats 2000000 in
theorem rowned_any (h : RefSt w G Wg Og W size own) (o : Int) (ho : 0 < o) : Calls Tryd.prog 68 #[.pointer (some ⟨G, 0, none⟩), .int .i64 o] w fun e w' => ∃ v, e = .returned v ∧ Ints w' v (ownedL own o) ∧ Below w.heap.size w w' := by
  obtain ⟨i0, hi, hz0, hz1, hz2⟩ := info_parts infoInt
  have HI := Lib.hid hi
  have HZ0 := Lib.hid hz0
  have HZ1 := Lib.hid hz1
  have HZ2 := Lib.hid hz2
  clear hi hz0 hz1 hz2
  have hol := h.o2
  have H := Lib.hid h
  rw [ownedL_eq (by omega)]
  have HPOST : Hid (∀ (v : Value) (X : World), X.ownsRow w.heap.size 3 1 v (upO own o own.length).length ((upO own o own.length).map intV) → Ints X v (upO own o own.length)) := Lib.hid (fun v X hr => ints_of_own hr (by have := upO_le own o own.length; omega))
  clear h
  go_enter Tryd.func68, Tryd.ntmps68
  go_wp2
  go_loopw [5, 6] (fun v5 v6 wr => ∃ k : Nat, k ≤ own.length ∧ v6 = .int .i64 k ∧ Hid (wr.ownsRow w.heap.size 3 1 v5 (upO own o k).length ((upO own o k).map intV)) ∧ Hid (Below w.heap.size w wr)) (fun _ v6 _ => own.length - (intOf v6).toNat)
  case atStart => exact ⟨0, by omega, rfl, Lib.hid (World.ownsRow_nil _ _ _ _), Lib.hid (Below.refl _ _)⟩
  case round =>
    obtain ⟨k, hk, rfl, HR, HB⟩ := hrel
    have hsz := HB.out.size
    have k2 := (H.out.on HB.out).c2
    by_cases hlt : k < own.length
    · have hcell := (H.out.on HB.out).own_cell k hlt
      by_cases hz : own.getD k 0 = o
      · have HU := Lib.hid (upO_yes hz)
        have hb : (own.getD k 0 == o) = true := by simpa using hz
        generalize own.getD k 0 = y at hcell hb
        have hle := upO_le own o k
        have hml : (upO own o k).length + 1 ≤ maxLen := by unfold maxLen; omega
        have hl9 : ((upO own o k).length + 1) * 8 ≤ 140737488355328 := by omega
        have hs9 : w.heap.size ≤ (wr.alloc (.cells #[.int .i64 (k : Nat)] 3)).heap.size := by rw [World.size_alloc]; omega
        clear hz
        go_wp2_with (at_builtin; go_loud (refine wpList_append_own _ rfl _ _ 22 rfl w.heap.size 3 i0 (.int .i64 0) 1 8 Tryd.underlying22 HI.out HZ0.out HZ1.out HZ2.out rfl (by decide) _ _ _ rfl (own_on HR.out (below1 _ _)) ⟨_, 0, none⟩ 1 1 [.int .i64 (k : Nat)] rfl rfl (World.news_of_block (heap_alloc_new _ (.cells #[.int .i64 (k : Nat)] 3))) (by simp [Value.oneCell']) hml hl9 hs9 ?_; intro v' w5 hown' hgrow _))
        go_roundw
        case rel =>
          have hba := HB.out.on (below1 wr (.cells #[.int .i64 (k : Nat)] 3))
          refine ⟨k + 1, by omega, by go_num, Lib.hid ?_, Lib.hid (hba.grown hgrow hba.size (fun z e => (HR.out.lt z e).1))⟩
          rw [HU.out]
          simpa [intV] using hown'
        case measure => simp [intOf]; omega
      · have HU := Lib.hid (upO_no hz)
        have hb : (own.getD k 0 == o) = false := by simpa using hz
        generalize own.getD k 0 = y at hcell hb
        clear hz
        go_wp2
        go_roundw
        case rel => exact ⟨k + 1, by omega, by go_num, by rw [HU.out]; exact HR, HB⟩
        case measure => simp [intOf]; omega
    · obtain rfl : k = own.length := by omega
      go_wp2
      go_ret
      exact ⟨_, rfl, HPOST.out _ _ HR.out, HB.out⟩
theorem three_blocks (w : World) (o1 o2 o3 : Obj) : (((w.alloc o1).alloc o2).alloc o3).drew.heap[w.heap.size]? = some o1 ∧ (((w.alloc o1).alloc o2).alloc o3).drew.heap[w.heap.size + 1]? = some o2 ∧ (((w.alloc o1).alloc o2).alloc o3).drew.heap[w.heap.size + 1 + 1]? = some o3 ∧ Below w.heap.size w (((w.alloc o1).alloc o2).alloc o3).drew := by
  have b2 := below1 (w.alloc o1) o2
  have b3 := below1 ((w.alloc o1).alloc o2) o3
  have h1 := World.alloc_heap_new w o1
  have h2 := World.alloc_heap_new (w.alloc o1) o2
  have h3 := World.alloc_heap_new ((w.alloc o1).alloc o2) o3
  rw [World.size_alloc] at h2
  rw [World.size_alloc, World.size_alloc] at h3
  exact ⟨(b3.block _ (by rw [World.size_alloc, World.size_alloc]; omega)).trans ((b2.block _ (by rw [World.size_alloc]; omega)).trans h1), (b3.block _ (by rw [World.size_alloc, World.size_alloc]; omega)).trans h2, h3, Below.drew (((below1 w o1).on b2).on b3)⟩
set_option maxRecDepth 100000 in
set_option maxHeartbeats 1000000 in
theorem rnew_any (c n : Nat) (w : World) (hc1 : 1 ≤ c) (hc2 : c ≤ 1024) (hn1 : 1 ≤ n) (hn2 : n ≤ 1024) : Calls Tryd.prog 46 #[.int .i64 c, .int .i64 n] w fun e w' => ∃ G Wg Og, e = .returned (.pointer (some ⟨G, 0, none⟩)) ∧ RefSt w' G Wg Og (List.replicate (c * n) 0) n (List.replicate c 0) ∧ Below w.heap.size w w' ∧ w.heap.size ≤ G ∧ w.heap.size ≤ Wg ∧ w.heap.size ≤ Og := by
  obtain ⟨i0, hi, hz0, hz1, hz2⟩ := info_parts info64
  obtain ⟨j0, hj, jz0, jz1, jz2⟩ := info_parts infoI
  have hm : c * n ≤ 1048576 := Nat.le_trans (Nat.mul_le_mul hc2 hn2) (by decide)
  have hcn : (c : Int) * (n : Int) = ((c * n : Nat) : Int) := by simp
  obtain ⟨m, hmm⟩ : ∃ m, m = c * n := ⟨_, rfl⟩
  have hM := Lib.hid hmm
  rw [← hmm] at hm hcn ⊢
  have hwr : IntKind.i64.wrap ((c : Int) * (n : Int)) = (m : Int) := by rw [hcn, IntKind.wrap_i64]; omega
  have mk1 : ∀ W : World, (Instr.makeSlice 42 (.int .i64 (m : Nat)) (.int .i64 (m : Nat))).run Tryd.prog W = .ok (.slice (some ⟨W.heap.size, 0, none⟩) m m) (W.alloc (.cells (List.replicate m (Value.int .u64 0)).toArray 46)) := fun W => by
    rw [run_make W 42 46 i0 (.int .u64 0) Tryd.underlying42 hi hz0 .i64 .i64 _ _ (by omega) (by omega) (by rw [hz2]; omega) (by omega), hz1, made_one _ rfl, Nat.mul_one]
    rw [Int.toNat_natCast]
  have mk2 : ∀ W : World, (Instr.makeSlice 22 (.int .i64 (c : Nat)) (.int .i64 (c : Nat))).run Tryd.prog W = .ok (.slice (some ⟨W.heap.size, 0, none⟩) c c) (W.alloc (.cells (List.replicate c (Value.int .i64 0)).toArray 3)) := fun W => by
    rw [run_make W 22 3 j0 (.int .i64 0) Tryd.underlying22 hj jz0 .i64 .i64 _ _ (by omega) (by omega) (by rw [jz2]; omega) (by omega), jz1, made_one _ rfl, Nat.mul_one]
    rw [Int.toNat_natCast]
  have HFIN : Hid (∀ (X : World) (Wg Og G : Nat), X.heap[Wg]? = some (.cells (Array.replicate m (Value.int .u64 0)) 46 (0, 0)) → X.heap[Og]? = some (.cells (Array.replicate c (Value.int .i64 0)) 3 (0, 0)) → X.heap[G]? = some (.cells #[.slice (some ⟨Wg, 0, none⟩) m m, .int .i64 n, .slice (some ⟨Og, 0, none⟩) c c] 44 (0, 0)) → G ≠ Wg → G ≠ Og → Wg ≠ Og → RefSt X G Wg Og (List.replicate m 0) n (List.replicate c 0)) := Lib.hid (fun X Wg Og G h1 h2 h3 n1 n2 n3 => by
    refine ⟨?_, ?_, ?_, by rw [hmm]; simp, hn1, hn2, by simpa using hc1, by simpa using hc2, n1, n2, n3⟩
    · rw [List.length_replicate, List.length_replicate]; exact h3
    · rw [h1, List.map_replicate]; simp [wordV]
    · rw [h2, List.map_replicate]; simp [ownV])
  clear hi hz0 hz1 hz2 hj jz0 jz1 jz2 hcn hmm hc1 hc2 hn1 hn2
  go_enter Tryd.func46, Tryd.ntmps46
  go_wp2_with fail
  first
    | go_region
    | fail
  all_goals
    go_wp2
    go_ret
  · obtain ⟨g1, g2, g3, g4⟩ := three_blocks w (.cells (Array.replicate m (Value.int .u64 0)) 46) (.cells (Array.replicate c (Value.int .i64 0)) 3) (.cells #[.slice (some ⟨w.heap.size, 0, none⟩) m m, .int .i64 n, .slice (some ⟨w.heap.size + 1, 0, none⟩) c c] 44)
    exact ⟨w.heap.size + 1 + 1, w.heap.size, w.heap.size + 1, rfl, HFIN.out _ _ _ _ g1 g2 g3 (by omega) (by omega) (by omega), g4, by omega, by omega, by omega⟩
  · obtain ⟨g1, g2, g3, g4⟩ := three_blocks w (.cells (Array.replicate c (Value.int .i64 0)) 3) (.cells (Array.replicate m (Value.int .u64 0)) 46) (.cells #[.slice (some ⟨w.heap.size + 1, 0, none⟩) m m, .int .i64 n, .slice (some ⟨w.heap.size, 0, none⟩) c c] 44)
    exact ⟨w.heap.size + 1 + 1, w.heap.size + 1, w.heap.size, rfl, HFIN.out _ _ _ _ g2 g1 g3 (by omega) (by omega) (by omega), g4, by omega, by omega, by omega⟩
end Go.Proofs.YtkaflgbipjppmaaDoor
