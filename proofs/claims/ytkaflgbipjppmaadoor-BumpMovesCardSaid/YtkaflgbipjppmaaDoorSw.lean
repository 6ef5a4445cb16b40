/- Contracts of the package store: walks. -/
import Derived.Test.YtkaflgbipjppmaaDoorSt
import Derived.Test.YtkaflgbipjppmaaDoorCl
import Derived.Test.YtkaflgbipjppmaaDoorRun
namespace Go.Proofs.YtkaflgbipjppmaaDoor
open Go.RowKit
set_option linter.unusedVariables false
variable {w w' : World} {B Wb Ob p q size : Nat} {W W' own own' : List Int}
theorem words_any (h : StoreAt w B Wb Ob p q W size own) : Calls Tryd.prog 39 #[.pointer (some ⟨B, 0, none⟩)] w fun e w' => e = .returned (.int .i64 size) ∧ w = w' := by
  have h0 := h.c1
  go_enter Tryd.func39, Tryd.ntmps39
  go_wp2
  go_ret
  exact ⟨rfl, rfl⟩
theorem chunks_any (h : StoreAt w B Wb Ob p q W size own) : Calls Tryd.prog 38 #[.pointer (some ⟨B, 0, none⟩)] w fun e w' => e = .returned (.int .i64 own.length) ∧ w = w' := by
  have h0 := h.c2
  go_enter Tryd.func38, Tryd.ntmps38
  go_wp2
  go_ret
  exact ⟨rfl, rfl⟩
theorem freeN_int (own : List Int) : ((freeN own : Nat) : Int) = (own.length : Int) - (many (own.map busy) : Nat) := by
  have := many_le (own.map busy)
  rw [List.length_map] at this
  unfold freeN
  omega
theorem free_any (h : StoreAt w B Wb Ob p q W size own) : Calls Tryd.prog 20 #[.pointer (some ⟨B, 0, none⟩)] w fun e w' => e = .returned (.int .i64 (freeN own : Nat)) ∧ Below w.heap.size w w' := by
  obtain ⟨u, hu⟩ := h.map
  have HC : Hid (∀ k, Calls Tryd.prog 54 #[.pointer (some ⟨p, 0, none⟩)] (w.drewN k) fun e w' => e = .returned (.int .i64 (many (own.map busy) : Nat)) ∧ w' = w.drewN k) := Lib.hid (fun n => (count_any (hu.on (below_drewN (Below.refl _ w) n))).mono fun e w' ⟨h1, h2⟩ => ⟨h1, h2.symm⟩)
  have h2 := h.c2
  have h3 := h.c3
  have hF := freeN_int own
  have hl := h.o2
  have hm := many_le (own.map busy)
  rw [List.length_map] at hm
  generalize many (own.map busy) = m at *
  clear hu h
  go_enter Tryd.func20, Tryd.ntmps20
  go_wp2_with fail
  go_quiet ((go_at_call 54; exact Calls.quiet_of_same (HC.out _)))
  go_wp2
  go_ret
  rw [hF]
  exact ⟨rfl, below_drewN (Below.refl _ _) _⟩
theorem new_out3 (c n : Int) (w : World) (hn : c < 1 ∨ 1024 < c ∨ n < 1 ∨ 1024 < n) : Calls Tryd.prog 40 #[.int .i64 c, .int .i64 n] w fun e w' => e = .returned (.tuple #[.pointer none, .int .i64 3]) ∧ w = w' := by
  by_cases h1 : c < 1
  · clear hn
    go_enter Tryd.func40, Tryd.ntmps40
    go_wp2
    go_ret2
    exact ⟨rfl, rfl⟩
  by_cases h2 : 1024 < c
  · clear hn
    go_enter Tryd.func40, Tryd.ntmps40
    go_wp2
    go_ret2
    exact ⟨rfl, rfl⟩
  by_cases h3 : n < 1
  · clear hn
    go_enter Tryd.func40, Tryd.ntmps40
    go_wp2
    go_ret2
    exact ⟨rfl, rfl⟩
  · have h4 : 1024 < n := by omega
    clear hn
    go_enter Tryd.func40, Tryd.ntmps40
    go_wp2
    go_ret2
    exact ⟨rfl, rfl⟩
theorem infoI : (Tryd.prog.info? 3).map (fun i => (i.zero, i.size, i.bytes)) = some (some (.int .i64 0), 1, 8) := by kernel_rfl
theorem not_busy (n : Nat) : (List.replicate n (0 : Int)).map busy = List.replicate n false := by rw [List.map_replicate]; rfl
/-- A store that the call made, all of it in blocks of base's heap and above. -/
def Fresh3 (base : Nat) (B Wb Ob p q : Nat) : Prop := ∀ k, Five B Wb Ob p q k → base ≤ k
def NewPost3 (c n : Nat) (w : World) (e : Ending) (w' : World) : Prop := ∃ B Wb Ob p q, e = .returned (.tuple #[.pointer (some ⟨B, 0, none⟩), .int .i64 0]) ∧ StoreAt w' B Wb Ob p q (List.replicate (c * n) 0) n (List.replicate c 0) ∧ Below w.heap.size w w' ∧ Fresh3 w.heap.size B Wb Ob p q
theorem new_fin3 {w1 X : World} {c n m : Nat} (hb : Below w.heap.size w w1) (hM : MapAt w1 (w.heap.size + 1) w.heap.size (List.replicate c false) (List.replicate ((c + 63) / 64) 0) 122 46) (hm : m = c * n)
    (hc1 : 1 ≤ c) (hc2 : c ≤ 1024) (hn1 : 1 ≤ n) (hn2 : n ≤ 1024) (hX : Below w1.heap.size w1 X) {Wb Ob B : Nat} (hWb : X.heap[Wb]? = some (.cells (Array.replicate m (Value.int .u64 0)) 46 (0, 0)))
    (hOb : X.heap[Ob]? = some (.cells (Array.replicate c (Value.int .i64 0)) 3 (0, 0))) (hB : X.heap[B]? = some (.cells #[.slice (some ⟨Wb, 0, none⟩) m m, .int .i64 n, .slice (some ⟨Ob, 0, none⟩) c c, .pointer (some ⟨w.heap.size + 1, 0, none⟩)] 96 (0, 0)))
    (h1 : w1.heap.size ≤ Wb) (h2 : w1.heap.size ≤ Ob) (h3 : w1.heap.size ≤ B) (n1 : B ≠ Wb) (n2 : B ≠ Ob) (n5 : Wb ≠ Ob) : NewPost3 c n w (.returned (.tuple #[.pointer (some ⟨B, 0, none⟩), .int .i64 0])) X := by
  subst hm
  have hpl := hM.plt
  have hz := hb.size
  refine ⟨B, Wb, Ob, w.heap.size + 1, w.heap.size, rfl, ⟨?_, ?_, ?_, ⟨_, by rw [not_busy]; exact hM.on hX⟩, by simp, hn1, hn2, by simpa using hc1, by simpa using hc2, fun o ho => by rw [(List.mem_replicate.1 ho).2]; exact Int.le_refl _, n1, n2, by omega, by omega, n5, by omega, by omega, by omega, by omega⟩, hb.on hX, fun k e => ?_⟩
  · rw [List.length_replicate, List.length_replicate]; exact hB
  · rw [hWb, List.map_replicate]; simp [wordV]
  · rw [hOb, List.map_replicate]; simp [ownV]
  · rcases e with e | e | e | e | e <;> omega
set_option maxRecDepth 100000 in
set_option maxHeartbeats 1000000 in
theorem new_in3 (c n : Nat) (w : World) (hc1 : 1 ≤ c) (hc2 : c ≤ 1024) (hn1 : 1 ≤ n) (hn2 : n ≤ 1024) : Calls Tryd.prog 40 #[.int .i64 c, .int .i64 n] w (NewPost3 c n w) := by
  have HB := Lib.hid (new_in c w hc1 (by omega))
  obtain ⟨i0, hi, hz0, hz1, hz2⟩ := info_parts info64
  obtain ⟨j0, hj, jz0, jz1, jz2⟩ := info_parts infoI
  have hm : c * n ≤ 1048576 := Nat.le_trans (Nat.mul_le_mul hc2 hn2) (by decide)
  have hcn : (c : Int) * (n : Int) = ((c * n : Nat) : Int) := by simp
  obtain ⟨m, hmm⟩ : ∃ m, m = c * n := ⟨_, rfl⟩
  have hM := Lib.hid hmm
  rw [← hmm] at hm hcn
  have hwr : IntKind.i64.wrap ((c : Int) * (n : Int)) = (m : Int) := by rw [hcn, IntKind.wrap_i64]; omega
  have mk1 : ∀ W : World, (Instr.makeSlice 42 (.int .i64 (m : Nat)) (.int .i64 (m : Nat))).run Tryd.prog W = .ok (.slice (some ⟨W.heap.size, 0, none⟩) m m) (W.alloc (.cells (List.replicate m (Value.int .u64 0)).toArray 46)) := fun W => by
    rw [run_make W 42 46 i0 (.int .u64 0) Tryd.underlying42 hi hz0 .i64 .i64 _ _ (by omega) (by omega) (by rw [hz2]; omega) (by omega), hz1, made_one _ rfl, Nat.mul_one]
    rw [Int.toNat_natCast]
  have mk2 : ∀ W : World, (Instr.makeSlice 22 (.int .i64 (c : Nat)) (.int .i64 (c : Nat))).run Tryd.prog W = .ok (.slice (some ⟨W.heap.size, 0, none⟩) c c) (W.alloc (.cells (List.replicate c (Value.int .i64 0)).toArray 3)) := fun W => by
    rw [run_make W 22 3 j0 (.int .i64 0) Tryd.underlying22 hj jz0 .i64 .i64 _ _ (by omega) (by omega) (by rw [jz2]; omega) (by omega), jz1, made_one _ rfl, Nat.mul_one]
    rw [Int.toNat_natCast]
  have g1 : ¬ ((c : Int) < 1) := by omega
  have g2 : ¬ ((1024 : Int) < c) := by omega
  have g3 : ¬ ((n : Int) < 1) := by omega
  have g4 : ¬ ((1024 : Int) < n) := by omega
  have H1 := Lib.hid hc1
  have H2 := Lib.hid hc2
  have H3 := Lib.hid hn1
  have H4 := Lib.hid hn2
  clear hi hz0 hz1 hz2 hj jz0 jz1 jz2 hcn hmm hc1 hc2 hn1 hn2
  go_enter Tryd.func40, Tryd.ntmps40
  go_wp2_with fail
  refine HB.out.mono ?_
  rintro e w1 ⟨rfl, hMap, hb⟩
  have HMap := Lib.hid hMap
  have Hb := Lib.hid hb
  have hz := hb.size
  have hpl := hMap.plt
  have hql := hMap.qlt
  clear hMap hb HB
  go_wp2_with fail
  first
    | go_region
    | fail
  all_goals
    go_wp2
    go_ret2
  · have s1 : (w1.alloc (.cells (Array.replicate m (Value.int .u64 0)) 46)).heap.size = w1.heap.size + 1 := World.size_alloc _ _
    have e3 := (World.size_alloc (w1.alloc (.cells (Array.replicate m (Value.int .u64 0)) 46)) (.cells (Array.replicate c (Value.int .i64 0)) 3)).trans (by rw [s1])
    have b1 := heap_alloc_new w1 (.cells (Array.replicate m (Value.int .u64 0)) 46)
    have b2 := heap_alloc_new (w1.alloc (.cells (Array.replicate m (Value.int .u64 0)) 46)) (.cells (Array.replicate c (Value.int .i64 0)) 3)
    have b3 := heap_alloc_new ((w1.alloc (.cells (Array.replicate m (Value.int .u64 0)) 46)).alloc (.cells (Array.replicate c (Value.int .i64 0)) 3)) (.cells #[.slice (some ⟨w1.heap.size, 0, none⟩) m m, .int .i64 n, .slice (some ⟨w1.heap.size + 1, 0, none⟩) c c, .pointer (some ⟨w.heap.size + 1, 0, none⟩)] 96)
    rw [s1] at b2
    rw [e3] at b3
    have h2 := (below1 (w1.alloc (.cells (Array.replicate m (Value.int .u64 0)) 46)) (.cells (Array.replicate c (Value.int .i64 0)) 3)).on (below1 _ (.cells #[.slice (some ⟨w1.heap.size, 0, none⟩) m m, .int .i64 n, .slice (some ⟨w1.heap.size + 1, 0, none⟩) c c, .pointer (some ⟨w.heap.size + 1, 0, none⟩)] 96))
    exact new_fin3 Hb.out HMap.out hM.out H1.out H2.out H3.out H4.out (Below.drew ((below1 w1 _).on h2)) (Wb := w1.heap.size) (Ob := w1.heap.size + 1) (B := w1.heap.size + 1 + 1) ((h2.block w1.heap.size (by omega)).trans b1) ((Below.heap_alloc _ _ _ (by omega)).trans b2) b3 (by omega) (by omega) (by omega) (by omega) (by omega) (by omega)
  · have s1 : (w1.alloc (.cells (Array.replicate c (Value.int .i64 0)) 3)).heap.size = w1.heap.size + 1 := World.size_alloc _ _
    have e3 := (World.size_alloc (w1.alloc (.cells (Array.replicate c (Value.int .i64 0)) 3)) (.cells (Array.replicate m (Value.int .u64 0)) 46)).trans (by rw [s1])
    have b1 := heap_alloc_new w1 (.cells (Array.replicate c (Value.int .i64 0)) 3)
    have b2 := heap_alloc_new (w1.alloc (.cells (Array.replicate c (Value.int .i64 0)) 3)) (.cells (Array.replicate m (Value.int .u64 0)) 46)
    have b3 := heap_alloc_new ((w1.alloc (.cells (Array.replicate c (Value.int .i64 0)) 3)).alloc (.cells (Array.replicate m (Value.int .u64 0)) 46)) (.cells #[.slice (some ⟨w1.heap.size + 1, 0, none⟩) m m, .int .i64 n, .slice (some ⟨w1.heap.size, 0, none⟩) c c, .pointer (some ⟨w.heap.size + 1, 0, none⟩)] 96)
    rw [s1] at b2
    rw [e3] at b3
    have h2 := (below1 (w1.alloc (.cells (Array.replicate c (Value.int .i64 0)) 3)) (.cells (Array.replicate m (Value.int .u64 0)) 46)).on (below1 _ (.cells #[.slice (some ⟨w1.heap.size + 1, 0, none⟩) m m, .int .i64 n, .slice (some ⟨w1.heap.size, 0, none⟩) c c, .pointer (some ⟨w.heap.size + 1, 0, none⟩)] 96))
    exact new_fin3 Hb.out HMap.out hM.out H1.out H2.out H3.out H4.out (Below.drew ((below1 w1 _).on h2)) (Wb := w1.heap.size + 1) (Ob := w1.heap.size) (B := w1.heap.size + 1 + 1) ((Below.heap_alloc _ _ _ (by omega)).trans b2) ((h2.block w1.heap.size (by omega)).trans b1) b3 (by omega) (by omega) (by omega) (by omega) (by omega) (by omega)
end Go.Proofs.YtkaflgbipjppmaaDoor
