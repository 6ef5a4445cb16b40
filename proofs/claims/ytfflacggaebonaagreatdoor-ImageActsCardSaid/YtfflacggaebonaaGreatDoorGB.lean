/- Sw Tr Sx Sy Co Rm Ru Rw3 Rx3 Rn Pi -/
import Derived.Test.YtfflacggaebonaaGreatDoorGA
import Derived.Maps.AppendAt
import Derived.Laws.AppendOwn
import Derived.Deep.AppendLies
import Derived.RangeFuncRecord
section
namespace Go.Proofs.YtfflacggaebonaaGreatDoor
open Go.RowKit
set_option linter.unusedVariables false
variable {w w' : World} {B Wb Ob p q size : Nat} {W W' own own' : List Int}
theorem freeN_int (own : List Int) : ((freeN own : Nat) : Int) = (own.length : Int) - (many (own.map busy) : Nat) := by
  have := many_le (own.map busy)
  rw [List.length_map] at this
  unfold freeN
  omega
theorem new_out3 (c n : Int) (w : World) (hn : c < 1 ∨ 1024 < c ∨ n < 1 ∨ 1024 < n) : Calls Tryz.prog 18 #[.int .i64 c, .int .i64 n] w fun e w' => e = .returned (.tuple #[.pointer none, .int .i64 3]) ∧ w = w' := by
  by_cases h1 : c < 1
  · clear hn
    go_enter Tryz.func18, Tryz.ntmps18
    go_wp2
    go_ret2
    exact ⟨rfl, rfl⟩
  by_cases h2 : 1024 < c
  · clear hn
    go_enter Tryz.func18, Tryz.ntmps18
    go_wp2
    go_ret2
    exact ⟨rfl, rfl⟩
  by_cases h3 : n < 1
  · clear hn
    go_enter Tryz.func18, Tryz.ntmps18
    go_wp2
    go_ret2
    exact ⟨rfl, rfl⟩
  · have h4 : 1024 < n := by omega
    clear hn
    go_enter Tryz.func18, Tryz.ntmps18
    go_wp2
    go_ret2
    exact ⟨rfl, rfl⟩
theorem infoI : (Tryz.prog.info? 3).map (fun i => (i.zero, i.size, i.bytes)) = some (some (.int .i64 0), 1, 8) := by kernel_rfl
theorem not_busy (n : Nat) : (List.replicate n (0 : Int)).map busy = List.replicate n false := by rw [List.map_replicate]; rfl
/-- A store that the call made, all of it in blocks of base's heap and above. -/
def Fresh3 (base : Nat) (B Wb Ob p q : Nat) : Prop := ∀ k, Five B Wb Ob p q k → base ≤ k
def NewPost3 (c n : Nat) (w : World) (e : Ending) (w' : World) : Prop := ∃ B Wb Ob p q, e = .returned (.tuple #[.pointer (some ⟨B, 0, none⟩), .int .i64 0]) ∧ StoreAt w' B Wb Ob p q (List.replicate (c * n) 0) n (List.replicate c 0) ∧ Below w.heap.size w w' ∧ Fresh3 w.heap.size B Wb Ob p q
theorem new_fin3 {w1 X : World} {c n m : Nat} (hb : Below w.heap.size w w1) (hM : MapAt w1 (w.heap.size + 1) w.heap.size (List.replicate c false) (List.replicate ((c + 63) / 64) 0) 148 33) (hm : m = c * n)
    (hc1 : 1 ≤ c) (hc2 : c ≤ 1024) (hn1 : 1 ≤ n) (hn2 : n ≤ 1024) (hX : Below w1.heap.size w1 X) {Wb Ob B : Nat} (hWb : X.heap[Wb]? = some (.cells (Array.replicate m (Value.int .u64 0)) 33 (0, 0)))
    (hOb : X.heap[Ob]? = some (.cells (Array.replicate c (Value.int .i64 0)) 3 (0, 0))) (hB : X.heap[B]? = some (.cells #[.slice (some ⟨Wb, 0, none⟩) m m, .int .i64 n, .slice (some ⟨Ob, 0, none⟩) c c, .pointer (some ⟨w.heap.size + 1, 0, none⟩)] 107 (0, 0)))
    (h1 : w1.heap.size ≤ Wb) (h2 : w1.heap.size ≤ Ob) (h3 : w1.heap.size ≤ B) (n1 : B ≠ Wb) (n2 : B ≠ Ob) (n5 : Wb ≠ Ob) : NewPost3 c n w (.returned (.tuple #[.pointer (some ⟨B, 0, none⟩), .int .i64 0])) X := by
  subst hm
  have hpl := hM.plt
  have hz := hb.size
  refine ⟨B, Wb, Ob, w.heap.size + 1, w.heap.size, rfl, ⟨?_, ?_, ?_, ⟨_, by rw [not_busy]; exact hM.on hX⟩, by simp, hn1, hn2, by simpa using hc1, by simpa using hc2, fun o ho => by rw [(List.mem_replicate.1 ho).2]; exact Int.le_refl _, n1, n2, by omega, by omega, n5, by omega, by omega, by omega, by omega⟩, hb.on hX, fun k e => ?_⟩
  · rw [List.length_replicate, List.length_replicate]; exact hB
  · rw [hWb, List.map_replicate]; simp [wordV]
  · rw [hOb, List.map_replicate]; simp [ownV]
  · rcases e with e | e | e | e | e <;> omega
set_option maxRecDepth 100000 in
set_option maxHeartbeats 1000000 in
theorem new_in3 (c n : Nat) (w : World) (hc1 : 1 ≤ c) (hc2 : c ≤ 1024) (hn1 : 1 ≤ n) (hn2 : n ≤ 1024) : Calls Tryz.prog 18 #[.int .i64 c, .int .i64 n] w (NewPost3 c n w) := by
  have HB := Lib.hid (new_in c w hc1 (by omega))
  obtain ⟨i0, hi, hz0, hz1, hz2⟩ := info_parts info64
  obtain ⟨j0, hj, jz0, jz1, jz2⟩ := info_parts infoI
  have hm : c * n ≤ 1048576 := Nat.le_trans (Nat.mul_le_mul hc2 hn2) (by decide)
  have hcn : (c : Int) * (n : Int) = ((c * n : Nat) : Int) := by simp
  obtain ⟨m, hmm⟩ : ∃ m, m = c * n := ⟨_, rfl⟩
  have hM := Lib.hid hmm
  rw [← hmm] at hm hcn
  have hwr : IntKind.i64.wrap ((c : Int) * (n : Int)) = (m : Int) := by rw [hcn, IntKind.wrap_i64]; omega
  have mk1 : ∀ W : World, (Instr.makeSlice 41 (.int .i64 (m : Nat)) (.int .i64 (m : Nat))).run Tryz.prog W = .ok (.slice (some ⟨W.heap.size, 0, none⟩) m m) (W.alloc (.cells (List.replicate m (Value.int .u64 0)).toArray 33)) := fun W => by
    rw [run_make W 41 33 i0 (.int .u64 0) Tryz.underlying41 hi hz0 .i64 .i64 _ _ (by omega) (by omega) (by rw [hz2]; omega) (by omega), hz1, made_one _ rfl, Nat.mul_one]
    rw [Int.toNat_natCast]
  have mk2 : ∀ W : World, (Instr.makeSlice 42 (.int .i64 (c : Nat)) (.int .i64 (c : Nat))).run Tryz.prog W = .ok (.slice (some ⟨W.heap.size, 0, none⟩) c c) (W.alloc (.cells (List.replicate c (Value.int .i64 0)).toArray 3)) := fun W => by
    rw [run_make W 42 3 j0 (.int .i64 0) Tryz.underlying42 hj jz0 .i64 .i64 _ _ (by omega) (by omega) (by rw [jz2]; omega) (by omega), jz1, made_one _ rfl, Nat.mul_one]
    rw [Int.toNat_natCast]
  have g1 : ¬ ((c : Int) < 1) := by omega
  have g2 : ¬ ((1024 : Int) < c) := by omega
  have g3 : ¬ ((n : Int) < 1) := by omega
  have g4 : ¬ ((1024 : Int) < n) := by omega
  have H1 := Lib.hid hc1
  have H2 := Lib.hid hc2
  have H3 := Lib.hid hn1
  have H4 := Lib.hid hn2
  clear hi hz0 hz1 hz2 hj jz0 jz1 jz2 hcn hmm hc1 hc2 hn1 hn2
  go_enter Tryz.func18, Tryz.ntmps18
  go_wp2_with fail
  refine HB.out.mono ?_
  rintro e w1 ⟨rfl, hMap, hb⟩
  have HMap := Lib.hid hMap
  have Hb := Lib.hid hb
  have hz := hb.size
  have hpl := hMap.plt
  have hql := hMap.qlt
  clear hMap hb HB
  go_wp2_with fail
  first
    | go_region
    | fail
  all_goals
    go_wp2
    go_ret2
  · have s1 : (w1.alloc (.cells (Array.replicate m (Value.int .u64 0)) 33)).heap.size = w1.heap.size + 1 := World.size_alloc _ _
    have e3 := (World.size_alloc (w1.alloc (.cells (Array.replicate m (Value.int .u64 0)) 33)) (.cells (Array.replicate c (Value.int .i64 0)) 3)).trans (by rw [s1])
    have b1 := heap_alloc_new w1 (.cells (Array.replicate m (Value.int .u64 0)) 33)
    have b2 := heap_alloc_new (w1.alloc (.cells (Array.replicate m (Value.int .u64 0)) 33)) (.cells (Array.replicate c (Value.int .i64 0)) 3)
    have b3 := heap_alloc_new ((w1.alloc (.cells (Array.replicate m (Value.int .u64 0)) 33)).alloc (.cells (Array.replicate c (Value.int .i64 0)) 3)) (.cells #[.slice (some ⟨w1.heap.size, 0, none⟩) m m, .int .i64 n, .slice (some ⟨w1.heap.size + 1, 0, none⟩) c c, .pointer (some ⟨w.heap.size + 1, 0, none⟩)] 107)
    rw [s1] at b2
    rw [e3] at b3
    have h2 := (below1 (w1.alloc (.cells (Array.replicate m (Value.int .u64 0)) 33)) (.cells (Array.replicate c (Value.int .i64 0)) 3)).on (below1 _ (.cells #[.slice (some ⟨w1.heap.size, 0, none⟩) m m, .int .i64 n, .slice (some ⟨w1.heap.size + 1, 0, none⟩) c c, .pointer (some ⟨w.heap.size + 1, 0, none⟩)] 107))
    exact new_fin3 Hb.out HMap.out hM.out H1.out H2.out H3.out H4.out (Below.drew ((below1 w1 _).on h2)) (Wb := w1.heap.size) (Ob := w1.heap.size + 1) (B := w1.heap.size + 1 + 1) ((h2.block w1.heap.size (by omega)).trans b1) ((Below.heap_alloc _ _ _ (by omega)).trans b2) b3 (by omega) (by omega) (by omega) (by omega) (by omega) (by omega)
  · have s1 : (w1.alloc (.cells (Array.replicate c (Value.int .i64 0)) 3)).heap.size = w1.heap.size + 1 := World.size_alloc _ _
    have e3 := (World.size_alloc (w1.alloc (.cells (Array.replicate c (Value.int .i64 0)) 3)) (.cells (Array.replicate m (Value.int .u64 0)) 33)).trans (by rw [s1])
    have b1 := heap_alloc_new w1 (.cells (Array.replicate c (Value.int .i64 0)) 3)
    have b2 := heap_alloc_new (w1.alloc (.cells (Array.replicate c (Value.int .i64 0)) 3)) (.cells (Array.replicate m (Value.int .u64 0)) 33)
    have b3 := heap_alloc_new ((w1.alloc (.cells (Array.replicate c (Value.int .i64 0)) 3)).alloc (.cells (Array.replicate m (Value.int .u64 0)) 33)) (.cells #[.slice (some ⟨w1.heap.size + 1, 0, none⟩) m m, .int .i64 n, .slice (some ⟨w1.heap.size, 0, none⟩) c c, .pointer (some ⟨w.heap.size + 1, 0, none⟩)] 107)
    rw [s1] at b2
    rw [e3] at b3
    have h2 := (below1 (w1.alloc (.cells (Array.replicate c (Value.int .i64 0)) 3)) (.cells (Array.replicate m (Value.int .u64 0)) 33)).on (below1 _ (.cells #[.slice (some ⟨w1.heap.size + 1, 0, none⟩) m m, .int .i64 n, .slice (some ⟨w1.heap.size, 0, none⟩) c c, .pointer (some ⟨w.heap.size + 1, 0, none⟩)] 107))
    exact new_fin3 Hb.out HMap.out hM.out H1.out H2.out H3.out H4.out (Below.drew ((below1 w1 _).on h2)) (Wb := w1.heap.size + 1) (Ob := w1.heap.size) (B := w1.heap.size + 1 + 1) ((Below.heap_alloc _ _ _ (by omega)).trans b2) ((h2.block w1.heap.size (by omega)).trans b1) b3 (by omega) (by omega) (by omega) (by omega) (by omega) (by omega)
end Go.Proofs.YtfflacggaebonaaGreatDoor
end
section
namespace Go.Proofs.YtfflacggaebonaaGreatDoor
open Go.RowKit
set_option linter.unusedVariables false
variable {w w' : World} {B Wb Ob p q size : Nat} {W W' own own' : List Int}
theorem take_none (v o n : Int) (w : World) : Calls Tryz.prog 52 #[.pointer none, .int .i64 o, .int .i64 n] w fun e w' => e = .returned (.tuple #[.int .i64 0, .int .i64 1]) ∧ w = w' := by
  go_enter Tryz.func52, Tryz.ntmps52
  go_wp2
  go_ret2
  exact ⟨rfl, rfl⟩
theorem take_few (B : Nat) (o n : Int) (w : World) (h : o < 1 ∨ n < 1) : Calls Tryz.prog 52 #[.pointer (some ⟨B, 0, none⟩), .int .i64 o, .int .i64 n] w fun e w' => e = .returned (.tuple #[.int .i64 0, .int .i64 2]) ∧ w = w' := by
  by_cases h1 : o < 1
  · clear h
    go_enter Tryz.func52, Tryz.ntmps52
    go_wp2
    go_ret2
    exact ⟨rfl, rfl⟩
  · have h2 : n < 1 := by omega
    clear h
    go_enter Tryz.func52, Tryz.ntmps52
    go_wp2
    go_ret2
    exact ⟨rfl, rfl⟩
theorem run_at {n a : Nat} {b : Bool} (h : runAtO own n = (a, b)) : (b = true ∧ a + n ≤ own.length ∧ (∀ j, a ≤ j → j < a + n → own.getD j 0 = 0)) ∨ (b = false ∧ a = 0) := by
  unfold runAtO at h
  rcases run_spec n (own.map busy) _ 0 rfl with ⟨a', g1, g2, g3, g4⟩ | ⟨g1, g2⟩
  · rw [g1] at h
    cases h
    refine .inl ⟨rfl, by simpa using g3.1, fun j h1 h2 => ?_⟩
    have h3 := g3.2 j h1 h2
    have h4 := g3.1
    rw [List.length_map] at h4
    have : (own.map busy).getD j false = busy (own.getD j 0) := by simp [List.getD, show j < own.length by omega]
    rw [this] at h3
    simpa [busy] using h3
  · rw [g1] at h
    cases h
    exact .inr ⟨rfl, rfl⟩
theorem take_full (h : StoreAt w B Wb Ob p q W size own) (hT : Tab w) (o : Int) (n : Nat) (ho : 1 ≤ o) (hn : 1 ≤ n) (hr : runAtO own n = (0, false)) :
    Calls Tryz.prog 52 #[.pointer (some ⟨B, 0, none⟩), .int .i64 o, .int .i64 n] w fun e w' => e = .returned (.tuple #[.int .i64 0, .int .i64 11]) ∧ w = w' := by
  obtain ⟨u, hu⟩ := h.map
  have HC := run_any hu hT n hn
  unfold RunPost at HC
  rw [show runL n (own.map busy) 0 = (0, false) from hr] at HC
  have HR := Lib.hid HC
  have h3 := h.c3
  have c1 : ¬ o < 1 := by omega
  have c2 : ¬ (n : Int) < 1 := by omega
  clear hu HC h hr
  go_enter Tryz.func52, Tryz.ntmps52
  go_wp2_with (go_at_call 77; refine HR.out.mono ?_; rintro e w1 ⟨rfl, rfl⟩)
  go_ret2
  exact ⟨rfl, rfl⟩
/-- The store in the midst of TakeRun's loop. -/
structure MidT (w : World) (B Wb Ob p q : Nat) (W : List Int) (size : Nat) (own own2 : List Int) (bits : List Bool) (X : World) : Prop where
  head : X.heap[B]? = some (.cells #[.slice (some ⟨Wb, 0, none⟩) W.length W.length, .int .i64 size, .slice (some ⟨Ob, 0, none⟩) own.length own.length, .pointer (some ⟨p, 0, none⟩)] 107 (0, 0))
  body : X.heap[Wb]? = some (.cells (W.map wordV).toArray 33 (0, 0))
  owners : X.heap[Ob]? = some (.cells (own2.map ownV).toArray 3 (0, 0))
  map : ∃ u, MapAt X p q bits u 148 33
  mod : Mod (Four3 Wb Ob p q) w X
def TakePost (w : World) (B Wb Ob p q : Nat) (W : List Int) (size : Nat) (own : List Int) (o : Int) (n a : Nat) (e : Ending) (w' : World) : Prop :=
  e = .returned (.tuple #[.int .i64 a, .int .i64 0]) ∧ StoreAt w' B Wb Ob p q (zeroW W (a * size) (n * size)) size (fillO own a o n) ∧ Mod (Four3 Wb Ob p q) w w'
set_option maxRecDepth 100000 in
set_option maxHeartbeats 1000000 in
theorem take_in (h : StoreAt w B Wb Ob p q W size own) (hT : Tab w) (o : Int) (n a : Nat) (ho : 1 ≤ o) (hn : 1 ≤ n) (hr : runAtO own n = (a, true)) :
    Calls Tryz.prog 52 #[.pointer (some ⟨B, 0, none⟩), .int .i64 o, .int .i64 n] w (TakePost w B Wb Ob p q W size own o n a) := by
  obtain ⟨u, hu⟩ := h.map
  have HC := run_any hu hT n hn
  unfold RunPost at HC
  rw [show runL n (own.map busy) 0 = (a, true) from hr] at HC
  have HR := Lib.hid HC
  have han : a + n ≤ own.length := by
    rcases run_at hr with ⟨_, h1, _⟩ | ⟨h1, _⟩
    · exact h1
    · cases h1
  have HF := Lib.hid (fill_in hu a n true (by simpa using han))
  have h3 := h.c3
  have hol := h.o2
  have hw := h.wlen
  have hs1 := h.s1
  have hs2 := h.s2
  have HS := Lib.hid h
  have HFO : Hid (∀ X, Turned w p q (fillL (own.map busy) a true n) 148 33 X → MidT w B Wb Ob p q W size own own (fillL (own.map busy) a true n) X) := Lib.hid (fun X ⟨u2, hu2, hm⟩ => by
    have hn : ∀ k, k ≠ p → k ≠ q → ¬ Two p q k := fun k h1 h2 e => e.elim h1 h2
    exact ⟨hm.keeps h.head (hn _ h.n3 h.n4), hm.keeps h.body (hn _ h.n6 h.n7), hm.keeps h.owners (hn _ h.n8 h.n9), ⟨u2, hu2⟩, hm.mono fun k _ e => by rcases e with e | e; exact .inr (.inr (.inl e)); exact .inr (.inr (.inr e))⟩)
  have hx1 : a * size + n * size = (a + n) * size := (Nat.add_mul _ _ _).symm
  have hx2 : (a + n) * size ≤ W.length := by rw [h.hW]; exact Nat.mul_le_mul_right _ han
  have hx3 : 1 ≤ n * size := Nat.mul_le_mul hn hs1
  have HX1 := Lib.hid hx1
  obtain ⟨x, hx⟩ : ∃ x, x = a * size := ⟨_, rfl⟩
  obtain ⟨y, hy⟩ : ∃ y, y = n * size := ⟨_, rfl⟩
  have HX := Lib.hid hx
  have HY := Lib.hid hy
  have e1 : IntKind.i64.wrap ((a : Int) * (size : Int)) = (x : Int) := by
    rw [show ((a : Int) * (size : Int)) = (x : Int) by rw [hx]; simp, IntKind.wrap_i64]; omega
  have e2 : IntKind.i64.wrap (((a : Int) + (n : Int)) * (size : Int)) = ((x + y : Nat) : Int) := by
    rw [show (((a : Int) + (n : Int)) * (size : Int)) = ((x + y : Nat) : Int) by rw [hx, hy, hx1]; simp, IntKind.wrap_i64]; omega
  have e3 : IntKind.i64.wrap (IntKind.i64.wrap ((a : Int) + (n : Int)) * (size : Int)) = ((x + y : Nat) : Int) := by
    rw [show IntKind.i64.wrap ((a : Int) + (n : Int)) = (a : Int) + (n : Int) by rw [IntKind.wrap_i64]; omega, e2]
  rw [← hy] at hx3
  rw [← hx1, ← hx, ← hy] at hx2
  have hne : ¬ W.length = x := by omega
  obtain ⟨z, hz⟩ : ∃ z, z = x + y := ⟨_, rfl⟩
  have HXY := Lib.hid hx2
  rw [← hz] at e3 hx2
  have hz1 : x ≤ z := by omega
  have hz2 : x < z := by omega
  have HZ := Lib.hid (show z - x = y by omega)
  clear e2 hz
  have c1 : ¬ o < 1 := by omega
  have c2 : ¬ (n : Int) < 1 := by omega
  clear hu HC h hr hx1 hx hy
  go_enter Tryz.func52, Tryz.ntmps52
  go_wp2_with (first | (go_at_call 77; refine HR.out.mono ?_; rintro e w1 ⟨rfl, rfl⟩) | (go_at_call 78; refine HF.out.mono ?_; rintro e w2 ⟨rfl, ht⟩; have HM := Lib.hid (HFO.out _ ht); clear ht))
  go_loopw [10] (fun v10 wr => ∃ k : Nat, k ≤ n ∧ v10 = .int .i64 (a + k : Nat) ∧ Hid (MidT w B Wb Ob p q W size own (fillO own a o k) (fillL (own.map busy) a true n) wr)) (fun v10 _ => a + n - (intOf v10).toNat)
  case atStart => exact ⟨0, by omega, rfl, HM⟩
  case round =>
    obtain ⟨k, hk, rfl, HK⟩ := hrel
    clear h3
    have k2 := (blk_cells HK.out.head 2).trans rfl
    by_cases hlt : k < n
    · have c5 : ((a + k : Nat) : Int) < (a : Int) + n := by omega
      have hcell : wr.cell? ⟨Ob, a + k, none⟩ = some (ownV ((fillO own a o k).getD (a + k) 0)) := by
        rw [row_cell HK.out.owners (a + k)]
        have := fillO_length own a o k
        simp [List.getD, show a + k < (fillO own a o k).length by omega]
      have hth := blk_thaw HK.out.owners (a + k)
      unfold ownV at hcell
      go_wp2
      go_roundw
      case rel =>
        refine ⟨k + 1, by omega, by go_num, Lib.hid ?_⟩
        have hs := HS.out
        obtain ⟨u2, hu2⟩ := HK.out.map
        have hmd : Mod (fun z => z = Ob) wr (wr.setCell ⟨Ob, a + k, none⟩ (.int .i64 o)) := Mod.setCell _ _ _ _ rfl
        refine ⟨hmd.keeps HK.out.head hs.n2, hmd.keeps HK.out.body hs.n5, ?_, ⟨u2, hu2.mod hmd (fun e => hs.n8 e.symm) (fun e => hs.n9 e.symm)⟩, HK.out.mod.trans (hmd.mono fun z _ e => .inr (.inl e))⟩
        have := blk_set HK.out.owners (a + k) (.int .i64 o)
        rw [this]
        simp [fillO, ownV]
      case measure => simp [intOf]; omega
    · obtain rfl : k = n := by omega
      have c5 : ¬ ((a + k : Nat) : Int) < (a : Int) + k := by omega
      have k0 := (blk_cells HK.out.head 0).trans rfl
      have k1 := (blk_cells HK.out.head 1).trans rfl
      have hbody := HK.out.body
      have hmod := HK.out.mod
      obtain ⟨u2, hu2⟩ := HK.out.map
      have hown := HK.out.owners
      have hhead := HK.out.head
      clear k2
      go_wp2_with fail
      obtain ⟨w3, hw3⟩ : ∃ w3, w3 = wr.drew := ⟨_, rfl⟩
      refine still_tail_at 19 (by kernel_rfl) (by kernel_rfl) hw3 ?_
      replace hmod : Mod (Four3 Wb Ob p q) w w3 := by rw [hw3]; exact hmod.drew
      replace hu2 : MapAt w3 p q (fillL (own.map busy) a true k) u2 148 33 := by rw [hw3]; exact hu2.on (Below.drew (Below.refl _ _))
      replace hown : w3.heap[Ob]? = some (.cells ((fillO own a o k).map ownV).toArray 3 (0, 0)) := by rw [hw3]; exact hown
      replace hhead : w3.heap[B]? = some (.cells #[.slice (some ⟨Wb, 0, none⟩) W.length W.length, .int .i64 size, .slice (some ⟨Ob, 0, none⟩) own.length own.length, .pointer (some ⟨p, 0, none⟩)] 107 (0, 0)) := by rw [hw3]; exact hhead
      replace hbody : w3.heap[Wb]? = some (.cells (W.map wordV).toArray 33 (0, 0)) := by rw [hw3]; exact hbody
      replace k0 : w3.cell? ⟨B, 0, none⟩ = some (.slice (some ⟨Wb, 0, none⟩) W.length W.length) := by rw [hw3]; exact k0
      replace k1 : w3.cell? ⟨B, 1, none⟩ = some (.int .i64 size) := by rw [hw3]; exact k1
      have HMOD := Lib.hid hmod
      have HU2 := Lib.hid hu2
      have HOWN := Lib.hid hown
      have HHEAD := Lib.hid hhead
      have HBODY := Lib.hid hbody
      clear hw3 hmod hu2 hown hhead hbody HK
      simp only [List.take_succ_cons, List.take_zero, List.drop_succ_cons, List.drop_zero]
      iterate 19
        with_reducible refine wpStill_step ?_
        intro K hK
        go_simp
        with_reducible refine hK _ ?_
        clear hK K
      refine wpStill_nil ?_
      refine wpList_clear rfl _ _ rfl 33 Tryz.underlying41 (.int .u64 0) (by kernel_rfl) rfl rfl Wb x (z - x) (W.length - x) rfl (by omega) (W.map wordV) 33 HBODY.out (by rw [List.length_map]; omega) ?_
      intro w4 H4
      go_wp2
      go_ret2
      obtain ⟨hrow, hm4⟩ := H4.out
      rw [HZ.out, ← zeroW_map] at hrow
      have hs := HS.out
      have hzl : (zeroW W x y).length = W.length := zeroW_length W x y HXY.out
      have hfl := fillO_length own a o k
      refine ⟨rfl, ?_, HMOD.out.trans (hm4.mono fun i _ e => .inl e)⟩
      rw [← HX.out, ← HY.out]
      refine ⟨?_, hrow, hm4.keeps HOWN.out (fun e => hs.n5 e.symm), ⟨u2, ?_⟩, by rw [hzl, hfl]; exact hs.hW, hs.s1, hs.s2, by rw [hfl]; exact hs.o1, by rw [hfl]; exact hs.o2, fillO_pos own a o (by omega) hs.pos k, hs.n1, hs.n2, hs.n3, hs.n4, hs.n5, hs.n6, hs.n7, hs.n8, hs.n9⟩
      · rw [hzl, hfl]; exact hm4.keeps HHEAD.out hs.n1
      · rw [fillO_busy own a o (by omega) k]
        exact HU2.out.mod hm4 (fun e => hs.n6 e.symm) (fun e => hs.n7 e.symm)
end Go.Proofs.YtfflacggaebonaaGreatDoor
end
section
namespace Go.Proofs.YtfflacggaebonaaGreatDoor
open Go.RowKit
set_option linter.unusedVariables false
set_option linter.unusedSimpArgs false
variable {w w' : World} {B Wb Ob p q size : Nat} {W W' own own' : List Int}
/-- Are n words from a on all somebody's? -/
def okW (own : List Int) (size a n : Nat) : Bool := (List.range n).all fun j => decide (own.getD ((a + j) / size) 0 ≠ 0)
theorem okW_iff {own : List Int} {size a n : Nat} : okW own size a n = true ↔ ∀ j, j < n → own.getD ((a + j) / size) 0 ≠ 0 := by
  unfold okW
  rw [List.all_eq_true]
  constructor
  · intro h j hj
    exact of_decide_eq_true (h j (List.mem_range.2 hj))
  · intro h j hj
    exact decide_eq_true (h j (List.mem_range.1 hj))
theorem okW_one {own : List Int} {size a : Nat} : okW own size a 1 = decide (own.getD (a / size) 0 ≠ 0) := by
  unfold okW; simp [List.range_succ]
/-- By chunks. -/
theorem okW_chunks {own : List Int} {size a n : Nat} (hs : 1 ≤ size) (hn : 1 ≤ n) (h : ∀ c, a / size ≤ c → c ≤ (a + n - 1) / size → own.getD c 0 ≠ 0) : okW own size a n = true :=
  okW_iff.2 fun j hj => h _ (Nat.div_le_div_right (by omega)) (Nat.div_le_div_right (by omega))
theorem okW_not {own : List Int} {size a n c : Nat} (hs : 1 ≤ size) (hn : 1 ≤ n) (h1 : a / size ≤ c) (h2 : c ≤ (a + n - 1) / size) (h : own.getD c 0 = 0) : okW own size a n = false := by
  rw [Bool.eq_false_iff]
  intro hk
  have hk := okW_iff.1 hk
  by_cases hc : a / size = c
  · exact hk 0 (by omega) (by rw [Nat.add_zero, hc]; exact h)
  · have h3 : a < c * size := by
      have h4 : a / size < c := by omega
      exact (Nat.div_lt_iff_lt_mul (by omega)).1 h4
    have h5 : c * size ≤ a + n - 1 := (Nat.le_div_iff_mul_le (by omega)).1 h2
    refine hk (c * size - a) (by omega) ?_
    rw [show a + (c * size - a) = c * size by omega, Nat.mul_div_cancel _ (by omega)]
    exact h
theorem at_out (h : StoreAt w B Wb Ob p q W size own) (a n : Int) (hi : ¬ (0 ≤ n ∧ 0 ≤ a ∧ a ≤ W.length ∧ n ≤ W.length - a)) : Calls Tryz.prog 43 #[.pointer (some ⟨B, 0, none⟩), .int .i64 a, .int .i64 n] w fun e w' => e = .returned (.int .i64 3) ∧ w = w' := by
  have h0 := h.c0
  have hl := h.wlen
  clear h
  by_cases c1 : n < 0
  · go_enter Tryz.func43, Tryz.ntmps43
    go_wp2
    go_ret
    exact ⟨rfl, rfl⟩
  · by_cases c2 : a < 0
    · go_enter Tryz.func43, Tryz.ntmps43
      go_wp2
      go_ret
      exact ⟨rfl, rfl⟩
    · by_cases c3 : (W.length : Int) < a
      · go_enter Tryz.func43, Tryz.ntmps43
        go_wp2
        go_ret
        exact ⟨rfl, rfl⟩
      · have c4 : (W.length : Int) - a < n := by omega
        clear hi
        go_enter Tryz.func43, Tryz.ntmps43
        go_wp2
        go_ret
        exact ⟨rfl, rfl⟩
def atE (own : List Int) (size a n : Nat) : Int := if okW own size a n = true then 0 else 17
theorem at_none (h : StoreAt w B Wb Ob p q W size own) (a : Nat) (hi : a ≤ W.length) : Calls Tryz.prog 43 #[.pointer (some ⟨B, 0, none⟩), .int .i64 a, .int .i64 0] w fun e w' => e = .returned (.int .i64 0) ∧ w = w' := by
  have h0 := h.c0
  have hl := h.wlen
  have c2 : ¬ (a : Int) < 0 := by omega
  have c3 : ¬ (W.length : Int) < (a : Int) := by omega
  have c4 : ¬ (W.length : Int) - (a : Int) < 0 := by omega
  clear h
  go_enter Tryz.func43, Tryz.ntmps43
  go_wp2
  go_ret
  exact ⟨rfl, rfl⟩
set_option maxRecDepth 100000 in
set_option maxHeartbeats 1000000 in
theorem at_some (h : StoreAt w B Wb Ob p q W size own) (a n : Nat) (hn : 1 ≤ n) (hi : a + n ≤ W.length) : Calls Tryz.prog 43 #[.pointer (some ⟨B, 0, none⟩), .int .i64 a, .int .i64 n] w fun e w' => e = .returned (.int .i64 (atE own size a n)) ∧ w = w' := by
  have h0 := h.c0
  have h1 := h.c1
  have h2 := h.c2
  have hl := h.wlen
  have hs1 := h.s1
  have hol := h.o2
  have c1 : ¬ (n : Int) < 0 := by omega
  have c2 : ¬ (a : Int) < 0 := by omega
  have c3 : ¬ (W.length : Int) < (a : Int) := by omega
  have c4 : ¬ (W.length : Int) - (a : Int) < (n : Int) := by omega
  have c5 : ((n : Int) == 0) = false := by simp; omega
  have c6 : ¬ (size : Int) = 0 := by omega
  have hrL : (a + n - 1) / size < own.length := by
    rw [Nat.div_lt_iff_lt_mul (by omega)]
    have := h.hW
    omega
  obtain ⟨q1, hq1⟩ : ∃ q1, q1 = a / size := ⟨_, rfl⟩
  obtain ⟨r1, hr1⟩ : ∃ r1, r1 = (a + n - 1) / size := ⟨_, rfl⟩
  have e1 : (a : Int).tdiv (size : Int) = (q1 : Int) := by rw [Int.tdiv_eq_ediv_of_nonneg (by omega), hq1]; simp
  have e2 : (a : Int) / (size : Int) = (q1 : Int) := by rw [hq1]; simp
  have e3 : ((a : Int) + (n : Int) - 1).tdiv (size : Int) = (r1 : Int) := by
    rw [Int.tdiv_eq_ediv_of_nonneg (by omega), hr1, show (a : Int) + (n : Int) - 1 = ((a + n - 1 : Nat) : Int) by omega]; simp
  have e4 : ((a : Int) + (n : Int) - 1) / (size : Int) = (r1 : Int) := by
    rw [hr1, show (a : Int) + (n : Int) - 1 = ((a + n - 1 : Nat) : Int) by omega]; simp
  have hqr : q1 ≤ r1 := by rw [hq1, hr1]; exact Nat.div_le_div_right (by omega)
  rw [← hr1] at hrL
  have HQ := Lib.hid hq1
  have HR := Lib.hid hr1
  have HOC := Lib.hid (fun i hi => h.own_cell i hi)
  clear h hq1 hr1
  go_enter Tryz.func43, Tryz.ntmps43
  go_wp2
  go_loopw [7] (fun v7 wr => ∃ c : Nat, q1 ≤ c ∧ c ≤ r1 + 1 ∧ v7 = .int .i64 c ∧ wr = w ∧ Hid (∀ j, q1 ≤ j → j < c → own.getD j 0 ≠ 0)) (fun v7 _ => r1 + 1 - (intOf v7).toNat)
  case atStart => exact ⟨q1, by omega, by omega, rfl, rfl, Lib.hid (fun j h1 h2 => by omega)⟩
  case round =>
    obtain ⟨c, hc1, hc2, rfl, rfl, HA⟩ := hrel
    by_cases hlt : c ≤ r1
    · have hlt' : (c : Int) ≤ (r1 : Int) := by omega
      have hcell := HOC.out c (by omega)
      by_cases hz : own.getD c 0 = 0
      · rw [hz] at hcell
        go_wp2
        go_ret
        have : atE own size a n = 17 := by unfold atE; rw [if_neg (by rw [okW_not hs1 hn (by rw [← HQ.out]; exact hc1) (by rw [← HR.out]; exact hlt) hz]; decide)]
        rw [this]
        exact ⟨rfl, rfl⟩
      · have HZ := Lib.hid hz
        have hzb : (own.getD c 0 == 0) = false := by simpa using hz
        generalize own.getD c 0 = y at hcell hzb
        clear hz
        go_wp2
        go_roundw
        case rel => exact ⟨c + 1, by omega, by omega, by go_num, trivial, Lib.hid (fun j h1 h2 => by
          by_cases hj : j = c
          · rw [hj]; exact HZ.out
          · exact HA.out j h1 (by omega))⟩
        case measure => simp [intOf]; omega
    · have hlt' : ¬ (c : Int) ≤ (r1 : Int) := by omega
      go_wp2
      go_ret
      have : atE own size a n = 0 := by unfold atE; rw [if_pos (okW_chunks hs1 hn (fun j h1 h2 => HA.out j (by rw [HQ.out]; exact h1) (by rw [← HR.out] at h2; omega)))]
      rw [this]
      exact ⟨rfl, rfl⟩
def chE (own : List Int) (c : Nat) : Int := if own.getD c 0 = 0 then 17 else 0
theorem read_out (h : StoreAt w B Wb Ob p q W size own) (a : Int) (ha : a < 0 ∨ W.length ≤ a) : Calls Tryz.prog 12 #[.pointer (some ⟨B, 0, none⟩), .int .i64 a] w fun e w' => e = .returned (.tuple #[.int .u64 0, .int .i64 3]) ∧ w = w' := by
  have HC := Lib.hid (at_out h a 1 (by omega))
  clear h
  go_enter Tryz.func12, Tryz.ntmps12
  go_wp2_with (go_at_call 43; refine HC.out.mono ?_; rintro e w1 ⟨rfl, rfl⟩)
  go_ret2
  exact ⟨rfl, rfl⟩
def readV (W own : List Int) (size a : Nat) : Int := if own.getD (a / size) 0 = 0 then 0 else W.getD a 0
theorem read_in (h : StoreAt w B Wb Ob p q W size own) (a : Nat) (ha : a < W.length) : Calls Tryz.prog 12 #[.pointer (some ⟨B, 0, none⟩), .int .i64 a] w fun e w' => e = .returned (.tuple #[.int .u64 (readV W own size a), .int .i64 (chE own (a / size))]) ∧ w = w' := by
  have HC0 := at_some h a 1 (by decide) (by omega)
  have h0 := h.c0
  have hl := h.wlen
  have hcell := h.word_cell a ha
  unfold atE at HC0
  rw [okW_one] at HC0
  unfold readV chE
  generalize W.getD a 0 = x at hcell ⊢
  generalize own.getD (a / size) 0 = y at HC0 ⊢
  clear h
  by_cases hy : y = 0
  · rw [if_pos hy, if_pos hy]
    rw [if_neg (by simp [hy])] at HC0
    have HC := Lib.hid HC0
    clear HC0
    go_enter Tryz.func12, Tryz.ntmps12
    go_wp2_with (go_at_call 43; refine HC.out.mono ?_; rintro e w1 ⟨rfl, rfl⟩)
    go_ret2
    exact ⟨rfl, rfl⟩
  · rw [if_neg hy, if_neg hy]
    rw [if_pos (by simp [hy])] at HC0
    have HC := Lib.hid HC0
    clear HC0 hy
    go_enter Tryz.func12, Tryz.ntmps12
    go_wp2_with (go_at_call 43; refine HC.out.mono ?_; rintro e w1 ⟨rfl, rfl⟩)
    go_ret2
    exact ⟨rfl, rfl⟩
end Go.Proofs.YtfflacggaebonaaGreatDoor
end
section
namespace Go.Proofs.YtfflacggaebonaaGreatDoor
open Go.RowKit
set_option linter.unusedVariables false
set_option linter.unusedSimpArgs false
variable {w w' : World} {B Wb Ob p q size : Nat} {W W' own own' : List Int}
theorem StoreAt.setW (h : StoreAt w B Wb Ob p q W size own) (a : Nat) (x : Int) : StoreAt (w.setCell ⟨Wb, a, none⟩ (.int .u64 x)) B Wb Ob p q (W.set a x) size own := by
  obtain ⟨u, hu⟩ := h.map
  have hm : Mod (fun k => k = Wb) w (w.setCell ⟨Wb, a, none⟩ (.int .u64 x)) := Mod.setCell _ _ _ _ rfl
  refine { h with head := ?_, body := ?_, owners := hm.keeps h.owners (fun e => h.n5 e.symm), map := ⟨u, hu.mod hm (fun e => h.n6 e.symm) (fun e => h.n7 e.symm)⟩, hW := by rw [List.length_set]; exact h.hW }
  · rw [List.length_set]; exact hm.keeps h.head h.n1
  · rw [blk_set h.body a (.int .u64 x)]
    simp [wordV]
theorem StoreAt.setO (h : StoreAt w B Wb Ob p q W size own) (hw : Mod (Four3 Wb Ob p q) w w') {own2 : List Int} (hl : own2.length = own.length) (hp : ∀ o ∈ own2, 0 ≤ o)
    (hWb : w'.heap[Wb]? = w.heap[Wb]?) (hO : w'.heap[Ob]? = some (.cells (own2.map ownV).toArray 3 (0, 0))) (hm : ∃ u, MapAt w' p q (own2.map busy) u 148 33) : StoreAt w' B Wb Ob p q W size own2 := by
  have hh := hw.keeps h.head (fun e => by rcases e with e | e | e | e; exact h.n1 e; exact h.n2 e; exact h.n3 e; exact h.n4 e)
  rw [← hl] at hh
  exact { h with head := hh, body := hWb.trans h.body, owners := hO, map := hm, hW := (by rw [hl]; exact h.hW), o1 := (by rw [hl]; exact h.o1), o2 := (by rw [hl]; exact h.o2), pos := hp }
theorem write_out (h : StoreAt w B Wb Ob p q W size own) (a x : Int) (ha : a < 0 ∨ W.length ≤ a) : Calls Tryz.prog 35 #[.pointer (some ⟨B, 0, none⟩), .int .i64 a, .int .u64 x] w fun e w' => e = .returned (.int .i64 3) ∧ w = w' := by
  have HC := Lib.hid (at_out h a 1 (by omega))
  clear h
  go_enter Tryz.func35, Tryz.ntmps35
  go_wp2_with (go_at_call 43; refine HC.out.mono ?_; rintro e w1 ⟨rfl, rfl⟩)
  go_ret
  exact ⟨rfl, rfl⟩
def writeW (W own : List Int) (size a : Nat) (x : Int) : List Int := if own.getD (a / size) 0 = 0 then W else W.set a x
theorem write_in (h : StoreAt w B Wb Ob p q W size own) (a : Nat) (x : Int) (ha : a < W.length) : Calls Tryz.prog 35 #[.pointer (some ⟨B, 0, none⟩), .int .i64 a, .int .u64 x] w fun e w' => e = .returned (.int .i64 (chE own (a / size))) ∧ StoreAt w' B Wb Ob p q (writeW W own size a x) size own ∧ Mod (Four3 Wb Ob p q) w w' := by
  have HC0 := at_some h a 1 (by decide) (by omega)
  have h0 := h.c0
  have hl := h.wlen
  have hcell := h.word_cell a ha
  have hth := blk_thaw h.body a
  unfold atE at HC0
  rw [okW_one] at HC0
  unfold writeW chE
  have H := Lib.hid h
  generalize W.getD a 0 = y0 at hcell
  generalize own.getD (a / size) 0 = y at HC0 ⊢
  clear h
  by_cases hy : y = 0
  · rw [if_pos hy, if_pos hy]
    rw [if_neg (by simp [hy])] at HC0
    have HC := Lib.hid HC0
    clear HC0
    go_enter Tryz.func35, Tryz.ntmps35
    go_wp2_with (go_at_call 43; refine HC.out.mono ?_; rintro e w1 ⟨rfl, rfl⟩)
    go_ret
    exact ⟨rfl, H.out, Mod.refl _ _⟩
  · rw [if_neg hy, if_neg hy]
    rw [if_pos (by simp [hy])] at HC0
    have HC := Lib.hid HC0
    clear HC0 hy
    go_enter Tryz.func35, Tryz.ntmps35
    go_wp2_with (go_at_call 43; refine HC.out.mono ?_; rintro e w1 ⟨rfl, rfl⟩)
    go_ret
    exact ⟨rfl, H.out.setW a x, Mod.setCell _ _ _ _ (.inl rfl)⟩
theorem set_pos {l : List Int} (h : ∀ o ∈ l, 0 ≤ o) (c : Nat) {x : Int} (hx : 0 ≤ x) : ∀ o ∈ l.set c x, 0 ≤ o := fun o ho => by
  rcases List.mem_or_eq_of_mem_set ho with g | g
  · exact h o g
  · rw [g]; exact hx
theorem take_any (o : Int) (R : Ending → World → Prop) (h : Calls Tryz.prog 52 #[.pointer (some ⟨B, 0, none⟩), .int .i64 o, .int .i64 1] w R) (hR : ∀ e w', R e w' → ∃ v x, e = .returned (.tuple #[v, x])) : Calls Tryz.prog 21 #[.pointer (some ⟨B, 0, none⟩), .int .i64 o] w R := by
  have HR := Lib.hid hR
  go_enter Tryz.func21, Tryz.ntmps21
  go_wp2_with fail
  refine h.mono ?_
  rintro e w1 hr
  obtain ⟨v, x, rfl⟩ := HR.out e w1 hr
  have H := Lib.hid hr
  clear hr hR
  go_wp2
  exact H.out
end Go.Proofs.YtfflacggaebonaaGreatDoor
end
section
namespace Go.Proofs.YtfflacggaebonaaGreatDoor
open Go.RowKit
set_option linter.unusedVariables false
set_option linter.unusedSimpArgs false
variable {w w' : World} {B Wb Ob p q size : Nat} {W W' own own' : List Int}
theorem wpList_copy_mod {P : Program} {w : World} {ops : Array Oper} {rest : List Oper} {o : Oper} {a : Act} {Q : Exit → Act → World → Prop} (hgd : o.guard = none) (d s : Operand) (dT sT : TypeId)
    (ho : o.op = .call { callee := .builtin .copy, args := #[d, s], argTypes := #[dT, sT] }) (elem : TypeId) (hu : P.underlying dT = some (.slice elem)) (hsz : (P.info? elem).map (·.size) = some 1)
    (g off dLen dCap : Nat) (ad : Addr) (sLen sCap : Nat) (hd : a.eval d = .slice (some ⟨g, off, none⟩) dLen dCap) (hs : a.eval s = .slice (some ad) sLen sCap)
    (cur : List Value) (t : TypeId) (hg : w.heap[g]? = some (.cells cur.toArray t (0, 0))) (cs : List Value) (hn : cs.length = Nat.min sLen dLen)
    (hsrc : ∀ j v, cs[j]? = some v → w.cell? (ad.add j) = some v) (hfit : off + cs.length ≤ cur.length) (h1 : ∀ v ∈ cs, v.oneCell' = true)
    (h : ∀ w', Hid (w'.heap[g]? = some (.cells (splice cur off cs).toArray t (0, 0)) ∧ Mod (fun k => k = g) w w') → wpList P ops Q rest (a.put o.dst (goInt cs.length)) w') : wpList P ops Q (o :: rest) a w := by
  refine wpList_copy_own hgd d s dT sT ho elem hu hsz g off dLen dCap ad sLen sCap hd hs cur.toArray t hg cs hn hsrc (by simpa using hfit) h1 ?_
  refine h _ ⟨?_, ⟨rfl, rfl, rfl, by simp [World.setRow], fun k hk hn => setRow_other w g k _ (fun e => hn e)⟩⟩
  exact (setRow_heap w g _ _ t _ hg).trans (by simp [splice])
def inW (L : Nat) (a n : Int) : Prop := 0 ≤ n ∧ 0 ≤ a ∧ a ≤ L ∧ n ≤ L - a
theorem at_any (h : StoreAt w B Wb Ob p q W size own) (a n : Nat) (hi : a + n ≤ W.length) : Calls Tryz.prog 43 #[.pointer (some ⟨B, 0, none⟩), .int .i64 a, .int .i64 n] w fun e w' => e = .returned (.int .i64 (atE own size a n)) ∧ w = w' := by
  by_cases hn : n = 0
  · subst hn
    have : atE own size a 0 = 0 := rfl
    rw [this]
    exact at_none h a (by omega)
  · exact at_some h a n (by omega) hi
theorem atE_cases (own : List Int) (size a n : Nat) : (okW own size a n = true ∧ atE own size a n = 0) ∨ (okW own size a n = false ∧ atE own size a n = 17) := by
  unfold atE
  cases h : okW own size a n with
  | true => exact .inl ⟨rfl, rfl⟩
  | false => exact .inr ⟨rfl, rfl⟩
/-- At, whatever the place. -/
theorem at_two (h : StoreAt w B Wb Ob p q W size own) (a n : Int) : ∃ x : Int, (x = 0 ∨ x = 3 ∨ x = 17) ∧ (x = 3 ↔ ¬ inW W.length a n) ∧ (x = 0 ↔ inW W.length a n ∧ okW own size a.toNat n.toNat = true) ∧
    Calls Tryz.prog 43 #[.pointer (some ⟨B, 0, none⟩), .int .i64 a, .int .i64 n] w fun e w' => e = .returned (.int .i64 x) ∧ w = w' := by
  by_cases hi : inW W.length a n
  · obtain ⟨h1, h2, h3, h4⟩ := hi
    obtain ⟨a', rfl⟩ : ∃ a' : Nat, a = a' := ⟨a.toNat, by omega⟩
    obtain ⟨n', rfl⟩ : ∃ n' : Nat, n = n' := ⟨n.toNat, by omega⟩
    have hi : inW W.length (a' : Int) (n' : Int) := ⟨h1, h2, h3, h4⟩
    have hc := at_any h a' n' (by omega)
    rw [Int.toNat_natCast, Int.toNat_natCast]
    rcases atE_cases own size a' n' with ⟨g1, g2⟩ | ⟨g1, g2⟩
    · rw [g2] at hc
      exact ⟨0, .inl rfl, ⟨fun e => absurd e (by decide), fun e => absurd hi e⟩, ⟨fun _ => ⟨hi, g1⟩, fun _ => rfl⟩, hc⟩
    · rw [g2] at hc
      exact ⟨17, .inr (.inr rfl), ⟨fun e => absurd e (by decide), fun e => absurd hi e⟩, ⟨fun e => absurd e (by decide), fun e => absurd (g1.symm.trans e.2) (by decide)⟩, hc⟩
  · exact ⟨3, .inr (.inl rfl), ⟨fun _ => hi, fun _ => rfl⟩, ⟨fun e => absurd e (by decide), fun e => absurd e.1 hi⟩, at_out h a n hi⟩
/-- What Copy says. -/
def copyE (W own : List Int) (size : Nat) (t f n : Int) (x : Int) : Prop :=
  (x = 3 ∧ (¬ inW W.length t n ∨ ¬ inW W.length f n)) ∨ (x = 17 ∧ inW W.length t n ∧ inW W.length f n ∧ ¬ (okW own size t.toNat n.toNat = true ∧ okW own size f.toNat n.toNat = true)) ∨
  (x = 0 ∧ inW W.length t n ∧ inW W.length f n ∧ okW own size t.toNat n.toNat = true ∧ okW own size f.toNat n.toNat = true)
theorem copy_bad (h : StoreAt w B Wb Ob p q W size own) (t f n : Int) (hb : ¬ (inW W.length t n ∧ inW W.length f n ∧ okW own size t.toNat n.toNat = true ∧ okW own size f.toNat n.toNat = true)) :
    Calls Tryz.prog 47 #[.pointer (some ⟨B, 0, none⟩), .int .i64 t, .int .i64 f, .int .i64 n] w fun e w' => (∃ x, e = .returned (.int .i64 x) ∧ copyE W own size t f n x ∧ x ≠ 0) ∧ w = w' := by
  obtain ⟨x, hx, hx3, hx0, hcx⟩ := at_two h t n
  obtain ⟨y, hy, hy3, hy0, hcy⟩ := at_two h f n
  have HX := Lib.hid hcx
  have HY := Lib.hid hcy
  have HX3 := Lib.hid hx3
  have HX0 := Lib.hid hx0
  have HY3 := Lib.hid hy3
  have HY0 := Lib.hid hy0
  have HB := Lib.hid hb
  clear h hcx hcy hx3 hx0 hy3 hy0 hb
  by_cases h3 : x = 3 ∨ y = 3
  · have hE : Hid (copyE W own size t f n 3) := Lib.hid (.inl ⟨rfl, h3.imp HX3.out.1 HY3.out.1⟩)
    by_cases hx3 : x = 3
    · subst hx3
      go_enter Tryz.func47, Tryz.ntmps47
      go_wp2_with (go_at_call 43; first | (refine HX.out.mono ?_; rintro e w1 ⟨rfl, rfl⟩; clear HX) | (refine HY.out.mono ?_; rintro e w1 ⟨rfl, rfl⟩; clear HY))
      go_ret
      exact ⟨⟨3, rfl, hE.out, by decide⟩, rfl⟩
    · have hy3 : y = 3 := by omega
      subst hy3
      have k1 : (x == 3) = false := by simpa using hx3
      clear h3 hx3
      go_enter Tryz.func47, Tryz.ntmps47
      go_wp2_with (go_at_call 43; first | (refine HX.out.mono ?_; rintro e w1 ⟨rfl, rfl⟩; clear HX) | (refine HY.out.mono ?_; rintro e w1 ⟨rfl, rfl⟩; clear HY))
      go_ret
      exact ⟨⟨3, rfl, hE.out, by decide⟩, rfl⟩
  · have hix : inW W.length t n := Classical.byContradiction fun e => h3 (.inl (HX3.out.2 e))
    have hiy : inW W.length f n := Classical.byContradiction fun e => h3 (.inr (HY3.out.2 e))
    have hE : Hid (copyE W own size t f n 17) := Lib.hid (.inr (.inl ⟨rfl, hix, hiy, fun e => HB.out ⟨hix, hiy, e.1, e.2⟩⟩))
    have hxy : x = 17 ∨ y = 17 := by
      rcases hx with rfl | rfl | rfl
      · rcases hy with rfl | rfl | rfl
        · exact absurd ⟨hix, hiy, (HX0.out.1 rfl).2, (HY0.out.1 rfl).2⟩ HB.out
        · exact absurd (.inr rfl) h3
        · exact .inr rfl
      · exact absurd (.inl rfl) h3
      · exact .inl rfl
    by_cases hx17 : x = 17
    · subst hx17
      have k2 : (y == 3) = false := by simp; omega
      clear hxy hx hix hiy hy
      go_enter Tryz.func47, Tryz.ntmps47
      go_wp2_with (go_at_call 43; first | (refine HX.out.mono ?_; rintro e w1 ⟨rfl, rfl⟩; clear HX) | (refine HY.out.mono ?_; rintro e w1 ⟨rfl, rfl⟩; clear HY))
      go_ret
      exact ⟨⟨17, rfl, hE.out, by decide⟩, rfl⟩
    · have hy17 : y = 17 := by omega
      have hx00 : x = 0 := by omega
      subst hy17
      subst hx00
      clear hxy hx hix hiy hy hx17
      go_enter Tryz.func47, Tryz.ntmps47
      go_wp2_with (go_at_call 43; first | (refine HX.out.mono ?_; rintro e w1 ⟨rfl, rfl⟩; clear HX) | (refine HY.out.mono ?_; rintro e w1 ⟨rfl, rfl⟩; clear HY))
      go_ret
      exact ⟨⟨17, rfl, hE.out, by decide⟩, rfl⟩
/-- The words when n from f on go over to t and on. -/
def copyW (W : List Int) (t f n : Nat) : List Int := splice W t ((W.drop f).take n)
theorem copyW_get {W : List Int} {t f n : Nat} (ht : t + n ≤ W.length) (hf : f + n ≤ W.length) (i : Nat) : (copyW W t f n).getD i 0 = if t ≤ i ∧ i < t + n then W.getD (f + (i - t)) 0 else W.getD i 0 := by
  have hl : ((W.drop f).take n).length = n := by simp; omega
  unfold copyW
  rw [splice_getD (by rw [hl]; exact ht), hl]
  by_cases h : t ≤ i ∧ i < t + n
  · rw [if_pos h, if_pos h]
    simp only [List.getD, List.getElem?_take, List.getElem?_drop]
    rw [if_pos (by omega)]
  · rw [if_neg h, if_neg h]
set_option maxRecDepth 100000 in
set_option maxHeartbeats 2000000 in
theorem copy_in (h : StoreAt w B Wb Ob p q W size own) (t f n : Nat) (ht : t + n ≤ W.length) (hf : f + n ≤ W.length) (h1 : okW own size t n = true) (h2 : okW own size f n = true) :
    Calls Tryz.prog 47 #[.pointer (some ⟨B, 0, none⟩), .int .i64 t, .int .i64 f, .int .i64 n] w fun e w' => e = .returned (.int .i64 0) ∧ StoreAt w' B Wb Ob p q (copyW W t f n) size own ∧ Mod (Four3 Wb Ob p q) w w' := by
  have hc1 := at_any h t n ht
  have hc2 := at_any h f n hf
  unfold atE at hc1 hc2
  rw [if_pos h1] at hc1
  rw [if_pos h2] at hc2
  have HX := Lib.hid hc1
  have HY := Lib.hid hc2
  have H := Lib.hid h
  have k0 := h.c0
  have hl := h.wlen
  have hbody := h.body
  have hn0 : t ≤ t + n := by omega
  obtain ⟨z1, hz1⟩ : ∃ z1, z1 = t + n := ⟨_, rfl⟩
  obtain ⟨z2, hz2⟩ : ∃ z2, z2 = f + n := ⟨_, rfl⟩
  have e1 : IntKind.i64.wrap ((t : Int) + (n : Int)) = (z1 : Int) := by rw [IntKind.wrap_i64]; omega
  have e2 : IntKind.i64.wrap ((f : Int) + (n : Int)) = (z2 : Int) := by rw [IntKind.wrap_i64]; omega
  have g1 : t ≤ z1 := by omega
  have g2 : f ≤ z2 := by omega
  have g3 : z1 ≤ W.length := by omega
  have g4 : z2 ≤ W.length := by omega
  have HZ1 := Lib.hid (show z1 - t = n by omega)
  have HZ2 := Lib.hid (show z2 - f = n by omega)
  have HTN := Lib.hid ht
  have HFN := Lib.hid hf
  by_cases hn : n = 0
  · have HN := Lib.hid hn
    clear h hc1 hc2 h1 h2 hz1 hz2 ht hf hn0 hn
    go_enter Tryz.func47, Tryz.ntmps47
    go_wp2_with (go_at_call 43; first | (refine HX.out.mono ?_; rintro e w1 ⟨rfl, rfl⟩; clear HX) | (refine HY.out.mono ?_; rintro e w1 ⟨rfl, rfl⟩; clear HY))
    obtain ⟨w3, hw3⟩ : ∃ w3, w3 = w.drew := ⟨_, rfl⟩
    refine still_tail_at 18 (by kernel_rfl) (by kernel_rfl) hw3 ?_
    replace k0 : w3.cell? ⟨B, 0, none⟩ = some (.slice (some ⟨Wb, 0, none⟩) W.length W.length) := by rw [hw3]; exact k0
    have H3 : Hid (StoreAt w3 B Wb Ob p q W size own) := Lib.hid (by rw [hw3]; exact H.out.on (Below.drew (Below.refl _ _)))
    have HM3 : Hid (Mod (Four3 Wb Ob p q) w w3) := Lib.hid (by rw [hw3]; exact (Mod.refl _ _).drew)
    clear hw3 hbody
    simp only [List.take_succ_cons, List.take_zero, List.drop_succ_cons, List.drop_zero]
    iterate 18
      with_reducible refine wpStill_step ?_
      intro K hK
      go_simp
      with_reducible refine hK _ ?_
      clear hK K
    refine wpStill_nil ?_
    refine wpList_copy_nothing rfl _ _ _ _ rfl 33 Tryz.underlying41 (by kernel_rfl) _ _ (z1 - t) (W.length - t) (z2 - f) (W.length - f) rfl rfl (by rw [HZ1.out, HZ2.out, HN.out]; rfl) ?_
    go_wp2
    all_goals
      go_ret
      have hcw : ∀ a b : Nat, copyW W a b n = W := fun a b => by rw [HN.out]; unfold copyW splice; simp
      rw [hcw]
      exact ⟨rfl, H3.out, HM3.out⟩
  · have hne1 : ¬ W.length = t := by omega
    have hne2 : ¬ W.length = f := by omega
    have HN := Lib.hid hn
    clear h hc1 hc2 h1 h2 hz1 hz2 ht hf hn0 hn
    go_enter Tryz.func47, Tryz.ntmps47
    go_wp2_with (go_at_call 43; first | (refine HX.out.mono ?_; rintro e w1 ⟨rfl, rfl⟩; clear HX) | (refine HY.out.mono ?_; rintro e w1 ⟨rfl, rfl⟩; clear HY))
    obtain ⟨w3, hw3⟩ : ∃ w3, w3 = w.drew := ⟨_, rfl⟩
    refine still_tail_at 18 (by kernel_rfl) (by kernel_rfl) hw3 ?_
    replace k0 : w3.cell? ⟨B, 0, none⟩ = some (.slice (some ⟨Wb, 0, none⟩) W.length W.length) := by rw [hw3]; exact k0
    have H3 : Hid (StoreAt w3 B Wb Ob p q W size own) := Lib.hid (by rw [hw3]; exact H.out.on (Below.drew (Below.refl _ _)))
    have HM3 : Hid (Mod (Four3 Wb Ob p q) w w3) := Lib.hid (by rw [hw3]; exact (Mod.refl _ _).drew)
    clear hw3 hbody
    simp only [List.take_succ_cons, List.take_zero, List.drop_succ_cons, List.drop_zero]
    iterate 18
      with_reducible refine wpStill_step ?_
      intro K hK
      go_simp
      with_reducible refine hK _ ?_
      clear hK K
    refine wpStill_nil ?_
    have hcl : (((W.drop f).take n).map wordV).length = n := by have := HFN.out; simp; omega
    refine wpList_copy_mod rfl _ _ _ _ rfl 33 Tryz.underlying41 (by kernel_rfl) Wb t (z1 - t) (W.length - t) ⟨Wb, f, none⟩ (z2 - f) (W.length - f) rfl rfl (W.map wordV) _ H3.out.body (((W.drop f).take n).map wordV) (by rw [hcl, HZ1.out, HZ2.out]; exact (Nat.min_self n).symm) ?_ (by rw [hcl]; have := HTN.out; simp; omega) (by intro v hv; obtain ⟨x, _, rfl⟩ := List.mem_map.1 hv; rfl) ?_
    · intro j v hv
      have hj : j < n := by rw [← hcl]; exact (List.getElem?_eq_some_iff.1 hv).1
      have hfj := HFN.out
      have h9 := H3.out.word_cell (f + j) (by omega)
      rw [show (⟨Wb, f, none⟩ : Addr).add j = ⟨Wb, f + j, none⟩ from Addr.add_lit ..]
      rw [h9]
      have : (((W.drop f).take n).map wordV)[j]? = some (.int .u64 (W.getD (f + j) 0)) := by
        simp [List.getD, hj, show f + j < W.length by omega, wordV]
      rw [this] at hv
      exact hv
    · intro w4 H4
      go_wp2
      go_ret
      obtain ⟨hrow0, hm4⟩ := H4.out
      have hrow : w4.heap[Wb]? = some (.cells ((copyW W t f n).map wordV).toArray 33 (0, 0)) := by
        rw [hrow0]
        unfold copyW splice
        simp [List.map_take, List.map_drop]
      have hlen : (copyW W t f n).length = W.length := length_splice _ _ _ (by have := HFN.out; have := HTN.out; simp; omega)
      have h3 := H3.out
      obtain ⟨u, hu⟩ := h3.map
      refine ⟨rfl, { h3 with head := ?_, body := hrow, owners := hm4.keeps h3.owners (fun e => h3.n5 e.symm), map := ⟨u, hu.mod hm4 (fun e => h3.n6 e.symm) (fun e => h3.n7 e.symm)⟩, hW := (by rw [hlen]; exact h3.hW) }, HM3.out.trans (hm4.mono fun k _ e => .inl e)⟩
      rw [hlen]
      exact hm4.keeps h3.head h3.n1
end Go.Proofs.YtfflacggaebonaaGreatDoor
end
section
namespace Go.Proofs.YtfflacggaebonaaGreatDoor
open Go.RowKit
set_option linter.unusedVariables false
set_option linter.unusedSimpArgs false
variable {w w' : World} {G Wg Og size : Nat} {W W' own own' : List Int}
structure RefSt (w : World) (G Wg Og : Nat) (W : List Int) (size : Nat) (own : List Int) : Prop where
  head : w.heap[G]? = some (.cells #[.slice (some ⟨Wg, 0, none⟩) W.length W.length, .int .i64 size, .slice (some ⟨Og, 0, none⟩) own.length own.length] 44 (0, 0))
  body : w.heap[Wg]? = some (.cells (W.map wordV).toArray 33 (0, 0))
  owners : w.heap[Og]? = some (.cells (own.map ownV).toArray 3 (0, 0))
  hW : W.length = own.length * size
  s1 : 1 ≤ size
  s2 : size ≤ 1024
  o1 : 1 ≤ own.length
  o2 : own.length ≤ 1024
  n1 : G ≠ Wg
  n2 : G ≠ Og
  n3 : Wg ≠ Og
def Two3 (Wg Og : Nat) (k : Nat) : Prop := k = Wg ∨ k = Og
theorem RefSt.wlen (h : RefSt w G Wg Og W size own) : W.length ≤ 1048576 := by
  rw [h.hW]
  exact Nat.le_trans (Nat.mul_le_mul h.o2 h.s2) (by decide)
theorem RefSt.mod {P : Nat → Prop} (h : RefSt w G Wg Og W size own) (hm : Mod P w w') (h1 : ¬ P G) (h2 : ¬ P Wg) (h3 : ¬ P Og) : RefSt w' G Wg Og W size own :=
  { h with head := hm.keeps h.head h1, body := hm.keeps h.body h2, owners := hm.keeps h.owners h3 }
theorem RefSt.on (h : RefSt w G Wg Og W size own) (hb : Below w.heap.size w w') : RefSt w' G Wg Og W size own := h.mod (P := fun _ => False) (.of_below hb) (fun x => x) (fun x => x) (fun x => x)
theorem RefSt.c0 (h : RefSt w G Wg Og W size own) : w.cell? ⟨G, 0, none⟩ = some (.slice (some ⟨Wg, 0, none⟩) W.length W.length) := (blk_cells h.head 0).trans rfl
theorem RefSt.c1 (h : RefSt w G Wg Og W size own) : w.cell? ⟨G, 1, none⟩ = some (.int .i64 size) := (blk_cells h.head 1).trans rfl
theorem RefSt.c2 (h : RefSt w G Wg Og W size own) : w.cell? ⟨G, 2, none⟩ = some (.slice (some ⟨Og, 0, none⟩) own.length own.length) := (blk_cells h.head 2).trans rfl
theorem RefSt.own_cell (h : RefSt w G Wg Og W size own) (i : Nat) (hi : i < own.length) : w.cell? ⟨Og, i, none⟩ = some (.int .i64 (own.getD i 0)) := by
  rw [row_cell h.owners i]
  simp [List.getD, hi, ownV]
theorem RefSt.word_cell (h : RefSt w G Wg Og W size own) (i : Nat) (hi : i < W.length) : w.cell? ⟨Wg, i, none⟩ = some (.int .u64 (W.getD i 0)) := by
  rw [row_cell h.body i]
  simp [List.getD, hi, wordV]
theorem RefSt.setO (h : RefSt w G Wg Og W size own) (c : Nat) (o : Int) : RefSt (w.setCell ⟨Og, c, none⟩ (.int .i64 o)) G Wg Og W size (own.set c o) ∧ Mod (fun k => k = Og) w (w.setCell ⟨Og, c, none⟩ (.int .i64 o)) := by
  have hm : Mod (fun k => k = Og) w (w.setCell ⟨Og, c, none⟩ (.int .i64 o)) := Mod.setCell _ _ _ _ rfl
  refine ⟨{ h with head := ?_, body := hm.keeps h.body h.n3, owners := ?_, hW := (by rw [List.length_set]; exact h.hW), o1 := (by rw [List.length_set]; exact h.o1), o2 := (by rw [List.length_set]; exact h.o2) }, hm⟩
  · rw [List.length_set]; exact hm.keeps h.head h.n2
  · rw [blk_set h.owners c (.int .i64 o)]; simp [ownV]
theorem RefSt.setW (h : RefSt w G Wg Og W size own) (a : Nat) (x : Int) : RefSt (w.setCell ⟨Wg, a, none⟩ (.int .u64 x)) G Wg Og (W.set a x) size own ∧ Mod (fun k => k = Wg) w (w.setCell ⟨Wg, a, none⟩ (.int .u64 x)) := by
  have hm : Mod (fun k => k = Wg) w (w.setCell ⟨Wg, a, none⟩ (.int .u64 x)) := Mod.setCell _ _ _ _ rfl
  refine ⟨{ h with head := ?_, body := ?_, owners := hm.keeps h.owners (fun e => h.n3 e.symm), hW := (by rw [List.length_set]; exact h.hW) }, hm⟩
  · rw [List.length_set]; exact hm.keeps h.head h.n1
  · rw [blk_set h.body a (.int .u64 x)]; simp [wordV]
theorem rin_yes (h : RefSt w G Wg Og W size own) (a n : Int) (hi : inW W.length a n) : Calls Tryz.prog 64 #[.pointer (some ⟨G, 0, none⟩), .int .i64 a, .int .i64 n] w fun e w' => e = .returned (.bool true) ∧ w = w' := by
  obtain ⟨h1, h2, h3, h4⟩ := hi
  have h0 := h.c0
  have hl := h.wlen
  clear h
  go_enter Tryz.func64, Tryz.ntmps64
  go_wp2
  go_ret
  exact ⟨rfl, rfl⟩
theorem rin_no (h : RefSt w G Wg Og W size own) (a n : Int) (hi : ¬ inW W.length a n) : Calls Tryz.prog 64 #[.pointer (some ⟨G, 0, none⟩), .int .i64 a, .int .i64 n] w fun e w' => e = .returned (.bool false) ∧ w = w' := by
  unfold inW at hi
  have h0 := h.c0
  have hl := h.wlen
  clear h
  by_cases c1 : 0 ≤ n
  · by_cases c2 : 0 ≤ a
    · by_cases c3 : a ≤ (W.length : Int)
      · have c4 : ¬ n ≤ (W.length : Int) - a := by omega
        clear hi
        go_enter Tryz.func64, Tryz.ntmps64
        go_wp2
        go_ret
        exact ⟨rfl, rfl⟩
      · clear hi
        go_enter Tryz.func64, Tryz.ntmps64
        go_wp2
        go_ret
        exact ⟨rfl, rfl⟩
    · clear hi
      go_enter Tryz.func64, Tryz.ntmps64
      go_wp2
      go_ret
      exact ⟨rfl, rfl⟩
  · clear hi
    go_enter Tryz.func64, Tryz.ntmps64
    go_wp2
    go_ret
    exact ⟨rfl, rfl⟩
theorem rchunk_out (h : RefSt w G Wg Og W size own) (c : Int) (hc : c < 0 ∨ own.length ≤ c) : Calls Tryz.prog 65 #[.pointer (some ⟨G, 0, none⟩), .int .i64 c] w fun e w' => e = .returned (.int .i64 3) ∧ w = w' := by
  have h2 := h.c2
  have hol := h.o2
  clear h
  by_cases c1 : c < 0
  · go_enter Tryz.func65, Tryz.ntmps65
    go_wp2
    go_ret
    exact ⟨rfl, rfl⟩
  · have c2 : (own.length : Int) ≤ c := by omega
    clear hc
    go_enter Tryz.func65, Tryz.ntmps65
    go_wp2
    go_ret
    exact ⟨rfl, rfl⟩
set_option maxRecDepth 100000 in
theorem rchunk_in (h : RefSt w G Wg Og W size own) (c : Nat) (hc : c < own.length) : Calls Tryz.prog 65 #[.pointer (some ⟨G, 0, none⟩), .int .i64 c] w fun e w' => e = .returned (.int .i64 (chE own c)) ∧ w = w' := by
  have h2 := h.c2
  have hcell := h.own_cell c hc
  have hol := h.o2
  have c1 : ¬ (c : Int) < 0 := by omega
  have c2 : ¬ (own.length : Int) ≤ (c : Int) := by omega
  unfold chE
  generalize own.getD c 0 = y at hcell ⊢
  clear h
  by_cases hy : y = 0
  · rw [if_pos hy]
    subst hy
    go_enter Tryz.func65, Tryz.ntmps65
    go_wp2
    go_ret
    exact ⟨rfl, rfl⟩
  · rw [if_neg hy]
    have hzb : (y == 0) = false := by simpa using hy
    clear hy
    go_enter Tryz.func65, Tryz.ntmps65
    go_wp2
    go_ret
    exact ⟨rfl, rfl⟩
theorem rat_out (h : RefSt w G Wg Og W size own) (a : Int) (ha : a < 0 ∨ W.length ≤ a) : Calls Tryz.prog 34 #[.pointer (some ⟨G, 0, none⟩), .int .i64 a] w fun e w' => e = .returned (.int .i64 3) ∧ w = w' := by
  have HC := Lib.hid (rin_no h a 1 (by unfold inW; omega))
  clear h
  go_enter Tryz.func34, Tryz.ntmps34
  go_wp2_with (go_at_call 64; refine HC.out.mono ?_; rintro e w1 ⟨rfl, rfl⟩)
  go_ret
  exact ⟨rfl, rfl⟩
set_option maxRecDepth 100000 in
set_option maxHeartbeats 400000 in
theorem rat_in (h : RefSt w G Wg Og W size own) (a : Nat) (ha : a < W.length) : Calls Tryz.prog 34 #[.pointer (some ⟨G, 0, none⟩), .int .i64 a] w fun e w' => e = .returned (.int .i64 (chE own (a / size))) ∧ w = w' := by
  have HC := Lib.hid (rin_yes h (a : Int) 1 (by unfold inW; omega))
  have hs1 := h.s1
  have hc : a / size < own.length := by
    rw [Nat.div_lt_iff_lt_mul (by omega)]
    have := h.hW
    omega
  have HCH := Lib.hid (rchunk_in h (a / size) hc)
  have h1 := h.c1
  have hl := h.wlen
  have c6 : ¬ (size : Int) = 0 := by omega
  obtain ⟨q1, hq1⟩ : ∃ q1, q1 = a / size := ⟨_, rfl⟩
  have e1 : (a : Int).tdiv (size : Int) = (q1 : Int) := by rw [Int.tdiv_eq_ediv_of_nonneg (by omega), hq1]; simp
  have e2 : (a : Int) / (size : Int) = (q1 : Int) := by rw [hq1]; simp
  have hol := h.o2
  rw [← hq1] at HCH hc ⊢
  have hqb : q1 ≤ 1024 := by omega
  clear h hq1 hc
  go_enter Tryz.func34, Tryz.ntmps34
  go_wp2_with fail
  refine HC.out.mono ?_
  rintro e w1 ⟨rfl, rfl⟩
  clear HC
  go_wp2_with fail
  refine HCH.out.mono ?_
  rintro e w1 ⟨rfl, rfl⟩
  go_wp2
  go_ret
  exact ⟨rfl, rfl⟩
end Go.Proofs.YtfflacggaebonaaGreatDoor
end
section
namespace Go.Proofs.YtfflacggaebonaaGreatDoor
open Go.RowKit
set_option linter.unusedVariables false
set_option linter.unusedSimpArgs false
variable {w w' : World} {G Wg Og size : Nat} {W W' own own' : List Int}
theorem runAtO_none {own : List Int} {n : Nat} (h : ∀ j, j + n ≤ own.length → ¬ Off (own.map busy) j n) : runAtO own n = (0, false) := by
  unfold runAtO
  rcases run_spec n (own.map busy) _ 0 rfl with ⟨a, g1, g2, g3, g4⟩ | ⟨g1, g2⟩
  · exact absurd g3 (h a (by simpa using g3.1))
  · exact g1
theorem runAtO_hit {own : List Int} {n a : Nat} (h1 : Off (own.map busy) a n) (h2 : ∀ j, j < a → ¬ Off (own.map busy) j n) : runAtO own n = (a, true) := by
  unfold runAtO
  rw [run_to (k := a) (Nat.zero_le _) (fun j _ hj => h2 j hj)]
  exact run_hit h1
theorem busy_get {own : List Int} {j : Nat} (hj : j < own.length) : (own.map busy).getD j false = busy (own.getD j 0) := by simp [List.getD, hj]
/-- Where the count of free ones in a row stands at i. -/
structure RowI (own : List Int) (n i r : Nat) : Prop where
  le : r ≤ i
  lt : r < n
  z : ∀ j, i - r ≤ j → j < i → own.getD j 0 = 0
  b : r < i → own.getD (i - r - 1) 0 ≠ 0
  no : ∀ j, j + n ≤ i → ¬ Off (own.map busy) j n
theorem RowI.start {own : List Int} {n : Nat} (hn : 1 ≤ n) : RowI own n 0 0 := ⟨by omega, by omega, fun j h1 h2 => by omega, fun h => by omega, fun j h => by omega⟩
theorem RowI.full {own : List Int} {n i r : Nat} (h : RowI own n i r) (hi : i < own.length) (hx : own.getD i 0 ≠ 0) : RowI own n (i + 1) 0 := by
  have hlt := h.lt
  refine ⟨by omega, by omega, fun j h1 h2 => by omega, fun _ => by rw [Nat.sub_zero, Nat.add_sub_cancel]; exact hx, fun j hj g => ?_⟩
  rcases Nat.lt_or_ge i (j + n) with g1 | g1
  · have := g.2 i (by omega) g1
    rw [busy_get hi] at this
    simp [busy, hx, - List.getD_eq_getElem?_getD] at this
  · exact h.no j g1 g
theorem RowI.more {own : List Int} {n i r : Nat} (h : RowI own n i r) (hi : i < own.length) (hx : own.getD i 0 = 0) (hr : r + 1 ≠ n) : RowI own n (i + 1) (r + 1) := by
  have hlt := h.lt
  have hle := h.le
  refine ⟨by omega, by omega, fun j h1 h2 => ?_, fun h1 => ?_, fun j hj g => ?_⟩
  · by_cases hj : j = i
    · rw [hj]; exact hx
    · exact h.z j (by omega) (by omega)
  · rw [show i + 1 - (r + 1) - 1 = i - r - 1 by omega]
    exact h.b (by omega)
  · rcases Nat.lt_or_ge i (j + n) with g1 | g1
    · have hri : r < i := by omega
      have h3 := g.2 (i - r - 1) (by omega) (by omega)
      rw [busy_get (by omega)] at h3
      simp [busy, h.b hri, - List.getD_eq_getElem?_getD] at h3
    · exact h.no j g1 g
theorem RowI.hit {own : List Int} {n i r : Nat} (h : RowI own n i r) (hi : i < own.length) (hx : own.getD i 0 = 0) (hr : r + 1 = n) : runAtO own n = (i + 1 - n, true) := by
  have hle := h.le
  refine runAtO_hit ⟨by simp; omega, fun j h1 h2 => ?_⟩ (fun j hj => h.no j (by omega))
  rw [busy_get (by omega)]
  have : own.getD j 0 = 0 := by
    by_cases hj : j = i
    · rw [hj]; exact hx
    · exact h.z j (by omega) (by omega)
  rw [this]
  rfl
def RunV (own : List Int) (n : Nat) (x : Int) : Prop := (∃ a : Nat, runAtO own n = (a, true) ∧ x = a) ∨ (runAtO own n = (0, false) ∧ x = -1)
set_option maxRecDepth 100000 in
set_option maxHeartbeats 1000000 in
theorem rrun_any (h : RefSt w G Wg Og W size own) (n : Nat) (hn : 1 ≤ n) (hn2 : n < 9223372036854775808) : Calls Tryz.prog 53 #[.pointer (some ⟨G, 0, none⟩), .int .i64 n] w fun e w' => (∃ x, e = .returned (.int .i64 x) ∧ RunV own n x) ∧ w = w' := by
  have k2 := h.c2
  have hol := h.o2
  have HOC := Lib.hid (fun i hi => h.own_cell i hi)
  clear h
  go_enter Tryz.func53, Tryz.ntmps53
  go_wp2
  go_loopw [5, 6] (fun v5 v6 wr => ∃ i r : Nat, i ≤ own.length ∧ v6 = .int .i64 i ∧ v5 = .int .i64 r ∧ wr = w ∧ Hid (RowI own n i r)) (fun _ v6 _ => own.length - (intOf v6).toNat)
  case atStart => exact ⟨0, 0, by omega, rfl, rfl, rfl, Lib.hid (RowI.start hn)⟩
  case round =>
    obtain ⟨i, r, hi, rfl, rfl, rfl, HR⟩ := hrel
    have hrlt := HR.out.lt
    have hrle := HR.out.le
    by_cases hlt : i < own.length
    · have hcell := HOC.out i hlt
      by_cases hx : own.getD i 0 = 0
      · rw [hx] at hcell
        have HXZ := Lib.hid hx
        clear hx
        by_cases hr : r + 1 = n
        · have HV := Lib.hid (HR.out.hit hlt HXZ.out hr)
          have hre : ((r : Int) + 1 == (n : Int)) = true := by simp; omega
          have hrz : (i : Int) - (n : Int) + 1 = ((i + 1 - n : Nat) : Int) := by omega
          go_wp2
          go_ret
          exact ⟨⟨_, rfl, .inl ⟨i + 1 - n, HV.out, by omega⟩⟩, rfl⟩
        · have hre : ((r : Int) + 1 == (n : Int)) = false := by simp; omega
          have HN := Lib.hid (HR.out.more hlt HXZ.out hr)
          go_wp2
          go_roundw
          case rel => exact ⟨i + 1, r + 1, by omega, by go_num, by go_num, trivial, HN⟩
          case measure => simp [intOf]; omega
      · have HN := Lib.hid (HR.out.full hlt hx)
        have hxb : (own.getD i 0 != 0) = true := by simpa using hx
        generalize own.getD i 0 = y at hcell hxb
        have hre : ((0 : Int) == (n : Int)) = false := by simp; omega
        clear hx
        go_wp2
        go_roundw
        case rel => exact ⟨i + 1, 0, by omega, by go_num, by go_num, trivial, HN⟩
        case measure => simp [intOf]; omega
    · obtain rfl : i = own.length := by omega
      go_wp2
      go_ret
      exact ⟨⟨-1, rfl, .inr ⟨runAtO_none HR.out.no, rfl⟩⟩, rfl⟩
end Go.Proofs.YtfflacggaebonaaGreatDoor
end
section
namespace Go.Proofs.YtfflacggaebonaaGreatDoor
open Go.RowKit
set_option linter.unusedVariables false
set_option linter.unusedSimpArgs false
variable {w w' : World} {G Wg Og size : Nat} {W W' own own' : List Int}
theorem ext_getD {l1 l2 : List Int} (h : l1.length = l2.length) (he : ∀ i, i < l1.length → l1.getD i 0 = l2.getD i 0) : l1 = l2 :=
  List.ext_getElem h fun i g1 g2 => by have := he i g1; simpa [List.getD, g1, g2] using this
theorem set_getD {l : List Int} (i j : Nat) (x : Int) (hi : i < l.length) : (l.set i x).getD j 0 = if j = i then x else l.getD j 0 := by
  by_cases h : j = i
  · subst h; rw [if_pos rfl]; simp [List.getD, hi]
  · rw [if_neg h]; simp [List.getD, show ¬ i = j by omega]
theorem zeroW_step {W : List Int} {x m : Nat} (h : x + m < W.length) : (zeroW W x m).set (x + m) 0 = zeroW W x (m + 1) := by
  have h1 := zeroW_length W x m (by omega)
  have h2 := zeroW_length W x (m + 1) (by omega)
  refine ext_getD (by rw [List.length_set, h1, h2]) (fun i hi => ?_)
  rw [List.length_set, h1] at hi
  rw [set_getD _ _ _ (by omega), zeroW_getD (by omega), zeroW_getD (by omega)]
  by_cases e : i = x + m
  · rw [if_pos e, if_pos (by omega)]
  · rw [if_neg e]
    by_cases g : x ≤ i ∧ i < x + m
    · rw [if_pos g, if_pos (by omega)]
    · rw [if_neg g, if_neg (by omega)]
theorem zeroW_zero (W : List Int) (x : Nat) : zeroW W x 0 = W := by unfold zeroW splice; simp
theorem rtake_few (G : Nat) (o n : Int) (w : World) (h : o < 1 ∨ n < 1) : Calls Tryz.prog 22 #[.pointer (some ⟨G, 0, none⟩), .int .i64 o, .int .i64 n] w fun e w' => e = .returned (.tuple #[.int .i64 0, .int .i64 2]) ∧ w = w' := by
  by_cases h1 : o < 1
  · clear h
    go_enter Tryz.func22, Tryz.ntmps22
    go_wp2
    go_ret2
    exact ⟨rfl, rfl⟩
  · have h2 : n < 1 := by omega
    clear h
    go_enter Tryz.func22, Tryz.ntmps22
    go_wp2
    go_ret2
    exact ⟨rfl, rfl⟩
theorem rtake_full (h : RefSt w G Wg Og W size own) (o : Int) (n : Nat) (ho : 1 ≤ o) (hn : 1 ≤ n) (hn2 : n < 9223372036854775808) (hr : runAtO own n = (0, false)) :
    Calls Tryz.prog 22 #[.pointer (some ⟨G, 0, none⟩), .int .i64 o, .int .i64 n] w fun e w' => e = .returned (.tuple #[.int .i64 0, .int .i64 11]) ∧ w = w' := by
  have HC : Hid (Calls Tryz.prog 53 #[.pointer (some ⟨G, 0, none⟩), .int .i64 n] w fun e w' => e = .returned (.int .i64 (-1)) ∧ w = w') := Lib.hid ((rrun_any h n hn hn2).mono fun e w' ⟨⟨x, h1, h2⟩, h3⟩ => ⟨by
    rcases h2 with ⟨a, g1, g2⟩ | ⟨g1, g2⟩
    · rw [hr] at g1; exact Bool.noConfusion (show false = true from congrArg Prod.snd g1)
    · rw [h1, g2], h3⟩)
  have c1 : ¬ o < 1 := by omega
  have c2 : ¬ (n : Int) < 1 := by omega
  clear h hr
  go_enter Tryz.func22, Tryz.ntmps22
  go_wp2_with (go_at_call 53; refine HC.out.mono ?_; rintro e w1 ⟨rfl, rfl⟩)
  go_ret2
  exact ⟨rfl, rfl⟩
set_option maxRecDepth 100000 in
set_option maxHeartbeats 4000000 in
theorem rtake_in (h : RefSt w G Wg Og W size own) (o : Int) (n a : Nat) (ho : 1 ≤ o) (hn : 1 ≤ n) (hn2 : n < 9223372036854775808) (hr : runAtO own n = (a, true)) :
    Calls Tryz.prog 22 #[.pointer (some ⟨G, 0, none⟩), .int .i64 o, .int .i64 n] w fun e w' => e = .returned (.tuple #[.int .i64 a, .int .i64 0]) ∧ RefSt w' G Wg Og (zeroW W (a * size) (n * size)) size (fillO own a o n) ∧ Mod (Two3 Wg Og) w w' := by
  have HC : Hid (Calls Tryz.prog 53 #[.pointer (some ⟨G, 0, none⟩), .int .i64 n] w fun e w' => e = .returned (.int .i64 a) ∧ w = w') := Lib.hid ((rrun_any h n hn hn2).mono fun e w' ⟨⟨x, h1, h2⟩, h3⟩ => ⟨by
    rcases h2 with ⟨a', g1, g2⟩ | ⟨g1, g2⟩
    · rw [hr] at g1; cases g1; rw [h1, g2]
    · rw [hr] at g1; exact Bool.noConfusion (show true = false from congrArg Prod.snd g1), h3⟩)
  have han : a + n ≤ own.length := by
    rcases run_at hr with ⟨_, h1, _⟩ | ⟨h1, _⟩
    · exact h1
    · cases h1
  have hol := h.o2
  have hwl := h.wlen
  have hs1 := h.s1
  have hs2 := h.s2
  have hW := h.hW
  have H := Lib.hid h
  have HWL := Lib.hid hW
  have c1 : ¬ o < 1 := by omega
  have c2 : ¬ (n : Int) < 1 := by omega
  clear h hr hW
  go_enter Tryz.func22, Tryz.ntmps22
  go_wp2_with (go_at_call 53; refine HC.out.mono ?_; rintro e w1 ⟨rfl, rfl⟩)
  go_loopw [9] (fun v9 wr => ∃ k : Nat, k ≤ n ∧ v9 = .int .i64 ((a : Int) + (k : Int)) ∧ Hid (RefSt wr G Wg Og (zeroW W (a * size) (k * size)) size (fillO own a o k)) ∧ Hid (Mod (Two3 Wg Og) w wr)) (fun v9 _ => a + n - (intOf v9).toNat)
  case atStart => exact ⟨0, by omega, rfl, Lib.hid (by rw [Nat.zero_mul, zeroW_zero]; exact H.out), Lib.hid (Mod.refl _ _)⟩
  case round =>
    obtain ⟨k, hk, rfl, HR, HM⟩ := hrel
    by_cases hlt : k < n
    · have c5 : ((a + k : Nat) : Int) < (a : Int) + n := by omega
      have hfl := fillO_length own a o k
      have k2 := HR.out.c2
      have hcell := HR.out.own_cell (a + k) (by omega)
      have hth := blk_thaw HR.out.owners (a + k)
      rw [hfl] at k2
      generalize (fillO own a o k).getD (a + k) 0 = y0 at hcell
      have hmul : (a + k) * size + size ≤ W.length := by
        rw [HWL.out, ← Nat.succ_mul]
        exact Nat.mul_le_mul_right _ (by omega)
      have hsum : (a + k) * size = a * size + k * size := Nat.add_mul _ _ _
      obtain ⟨y, hy⟩ : ∃ y, y = (a + k) * size := ⟨_, rfl⟩
      have HY := Lib.hid hy
      have HSUM := Lib.hid hsum
      rw [← hy] at hmul
      have e1 : IntKind.i64.wrap (((a : Int) + (k : Int)) * (size : Int)) = (y : Int) := by
        rw [show (((a : Int) + (k : Int)) * (size : Int)) = (y : Int) by rw [hy]; simp, IntKind.wrap_i64]; omega
      have e2 : IntKind.i64.wrap (((a + k : Nat) : Int) * (size : Int)) = (y : Int) := by
        rw [show (((a + k : Nat) : Int) * (size : Int)) = (y : Int) by rw [hy]; simp, IntKind.wrap_i64]; omega
      have HR1 := Lib.hid (HR.out.setO (a + k) o)
      have HK2 : Hid (RefSt (wr.setCell ⟨Og, a + k, none⟩ (.int .i64 o)) G Wg Og (zeroW W (a * size) (k * size + 0)) size (fillO own a o (k + 1)) ∧ Mod (Two3 Wg Og) w (wr.setCell ⟨Og, a + k, none⟩ (.int .i64 o))) := Lib.hid ⟨HR1.out.1, HM.out.trans (HR1.out.2.mono fun z _ e => .inr e)⟩
      clear hy hsum HR1
      go_wp2
      go_loopw [10] (fun v10 wx => ∃ j : Nat, j ≤ size ∧ v10 = .int .i64 j ∧ Hid (RefSt wx G Wg Og (zeroW W (a * size) (k * size + j)) size (fillO own a o (k + 1)) ∧ Mod (Two3 Wg Og) w wx)) (fun v10 _ => size - (intOf v10).toNat)
      case atStart => exact ⟨0, by omega, rfl, HK2⟩
      case round =>
        obtain ⟨j, hj, rfl, HX⟩ := hrel
        clear hcell hth k2 HK2
        have k1 := HX.out.1.c1
        by_cases hlt2 : j < size
        · have hzl : (zeroW W (a * size) (k * size + j)).length = W.length := zeroW_length _ _ _ (by have := HSUM.out; have := HY.out; omega)
          have k0 := HX.out.1.c0
          rw [hzl] at k0
          obtain ⟨z, hz⟩ : ∃ z, z = y + j := ⟨_, rfl⟩
          have hzL : z < W.length := by omega
          have e3 : IntKind.i64.wrap ((y : Int) + (j : Int)) = (z : Int) := by rw [IntKind.wrap_i64]; omega
          have hcell := HX.out.1.word_cell z (by omega)
          have hth := blk_thaw HX.out.1.body z
          generalize (zeroW W (a * size) (k * size + j)).getD z 0 = u0 at hcell
          have HZ := Lib.hid hz
          clear hz
          go_wp2_with fail
          obtain ⟨w3, hw3⟩ : ∃ w3, w3 = wr.drew := ⟨_, rfl⟩
          refine still_tail_at 13 (by kernel_rfl) (by kernel_rfl) hw3 ?_
          have H3 : Hid (RefSt w3 G Wg Og (zeroW W (a * size) (k * size + j)) size (fillO own a o (k + 1)) ∧ Mod (Two3 Wg Og) w w3) := Lib.hid (by rw [hw3]; exact ⟨HX.out.1.on (Below.drew (Below.refl _ _)), HX.out.2.drew⟩)
          replace k0 : w3.cell? ⟨G, 0, none⟩ = some (.slice (some ⟨Wg, 0, none⟩) W.length W.length) := by rw [hw3]; exact k0
          replace k1 : w3.cell? ⟨G, 1, none⟩ = some (.int .i64 size) := by rw [hw3]; exact k1
          replace hcell : w3.cell? ⟨Wg, z, none⟩ = some (.int .u64 u0) := by rw [hw3]; exact hcell
          replace hth : w3.frozen? ⟨Wg, z, none⟩ = false := by rw [hw3]; exact hth
          clear hw3 HX
          simp only [List.take_succ_cons, List.take_zero, List.drop_succ_cons, List.drop_zero]
          iterate 13
            with_reducible refine wpStill_step ?_
            intro K hK
            go_simp
            with_reducible refine hK _ ?_
            clear hK K
          refine wpStill_nil ?_
          go_wp2
          go_roundw
          case rel =>
            have hst := H3.out.1.setW z 0
            have hze : z = a * size + (k * size + j) := by have := HZ.out; have := HY.out; have := HSUM.out; omega
            refine ⟨j + 1, by omega, by go_num, Lib.hid ⟨?_, H3.out.2.trans (hst.2.mono fun i _ e => .inl e)⟩⟩
            have h9 := hst.1
            rw [show (zeroW W (a * size) (k * size + j)).set z 0 = zeroW W (a * size) (k * size + (j + 1)) by rw [hze]; exact zeroW_step (by omega)] at h9
            exact h9
          case measure => simp [intOf]; omega
        · obtain rfl : j = size := by omega
          go_wp2
          go_roundw
          case rel => exact ⟨k + 1, by omega, by go_num, by rw [Nat.succ_mul]; exact Lib.hid HX.out.1, Lib.hid HX.out.2⟩
          case measure => simp [intOf]; omega
    · obtain rfl : k = n := by omega
      have c5 : ¬ (a : Int) + (k : Int) < (a : Int) + (k : Int) := by omega
      go_wp2
      go_ret2
      exact ⟨rfl, HR.out, HM.out⟩
end Go.Proofs.YtfflacggaebonaaGreatDoor
end
section
namespace Go.Proofs.YtfflacggaebonaaGreatDoor
open Go.RowKit
set_option linter.unusedVariables false
set_option linter.unusedSimpArgs false
variable {w w' : World} {G Wg Og size : Nat} {W W' own own' : List Int}
def encW (x : Int) : List Value := [.int .u64 x]
theorem rcopy_bad (h : RefSt w G Wg Og W size own) (t f n : Int) (hb : ¬ (inW W.length t n ∧ inW W.length f n)) :
    Calls Tryz.prog 63 #[.pointer (some ⟨G, 0, none⟩), .int .i64 t, .int .i64 f, .int .i64 n] w fun e w' => e = .returned (.int .i64 3) ∧ w = w' := by
  by_cases h1 : inW W.length t n
  · have h2 : ¬ inW W.length f n := fun e => hb ⟨h1, e⟩
    have HX := Lib.hid (rin_yes h t n h1)
    have HY := Lib.hid (rin_no h f n h2)
    clear h h1 h2 hb
    go_enter Tryz.func63, Tryz.ntmps63
    go_wp2_with (go_at_call 64; first | (refine HX.out.mono ?_; rintro e w1 ⟨rfl, rfl⟩; clear HX) | (refine HY.out.mono ?_; rintro e w1 ⟨rfl, rfl⟩; clear HY))
    go_ret
    exact ⟨rfl, rfl⟩
  · by_cases h2 : inW W.length f n
    · have HX := Lib.hid (rin_no h t n h1)
      have HY := Lib.hid (rin_yes h f n h2)
      clear h h1 h2 hb
      go_enter Tryz.func63, Tryz.ntmps63
      go_wp2_with (go_at_call 64; first | (refine HX.out.mono ?_; rintro e w1 ⟨rfl, rfl⟩; clear HX) | (refine HY.out.mono ?_; rintro e w1 ⟨rfl, rfl⟩; clear HY))
      go_ret
      exact ⟨rfl, rfl⟩
    · have HX := Lib.hid (rin_no h t n h1)
      have HY := Lib.hid (rin_no h f n h2)
      clear h h1 h2 hb
      go_enter Tryz.func63, Tryz.ntmps63
      go_wp2_with (go_at_call 64; first | (refine HX.out.mono ?_; rintro e w1 ⟨rfl, rfl⟩; clear HX) | (refine HY.out.mono ?_; rintro e w1 ⟨rfl, rfl⟩; clear HY))
      go_ret
      exact ⟨rfl, rfl⟩
theorem copyW_step {W : List Int} {t f m : Nat} (ht : t + m < W.length) (hf : f + m < W.length) : (copyW W t f m).set (t + m) (W.getD (f + m) 0) = copyW W t f (m + 1) := by
  have h1 : (copyW W t f m).length = W.length := length_splice _ _ _ (by simp; omega)
  have h2 : (copyW W t f (m + 1)).length = W.length := length_splice _ _ _ (by simp; omega)
  refine ext_getD (by rw [List.length_set, h1, h2]) (fun i hi => ?_)
  rw [List.length_set, h1] at hi
  rw [set_getD _ _ _ (by omega), copyW_get (by omega) (by omega), copyW_get (by omega) (by omega)]
  by_cases e : i = t + m
  · rw [if_pos e, if_pos (by omega), show f + (i - t) = f + m by omega]
  · rw [if_neg e]
    by_cases g : t ≤ i ∧ i < t + m
    · rw [if_pos g, if_pos (by omega)]
    · rw [if_neg g, if_neg (by omega)]
theorem slice_mod {P : Nat → Prop} {α : Type} {A : Option Addr} {size : Nat} {enc : α → List Value} {d : α} {l : List α} (h : SliceOf w A size enc d l) (hm : Mod P w w') (hn : ∀ b o, A = some ⟨b, o, none⟩ → l ≠ [] → ¬ P b) : SliceOf w' A size enc d l := fun i hi => by
  obtain ⟨b, o, e, h1⟩ := h i hi
  exact ⟨b, o, e, fun j v hj => hm.cell (h1 j v hj) (hn b o e (fun e => by rw [e] at hi; exact absurd hi (Nat.not_lt_zero _)))⟩
theorem copyW_zero (W : List Int) (t f : Nat) : copyW W t f 0 = W := by unfold copyW splice; simp
set_option maxRecDepth 100000 in
set_option maxHeartbeats 4000000 in
theorem rcopy_in (h : RefSt w G Wg Og W size own) (t f n : Nat) (ht : t + n ≤ W.length) (hf : f + n ≤ W.length) :
    Calls Tryz.prog 63 #[.pointer (some ⟨G, 0, none⟩), .int .i64 t, .int .i64 f, .int .i64 n] w fun e w' => (okW own size t n = true ∧ okW own size f n = true ∧ e = .returned (.int .i64 0) ∧ RefSt w' G Wg Og (copyW W t f n) size own ∧ Mod (Two3 Wg Og) w w') ∨
      (¬ (okW own size t n = true ∧ okW own size f n = true) ∧ e = .returned (.int .i64 17) ∧ Below w.heap.size w w') := by
  obtain ⟨i0, hi, hz0, hz1, hz2⟩ := info_parts info64
  have HI := Lib.hid hi
  have HZ0 := Lib.hid hz0
  have HZ1 := Lib.hid hz1
  have HZ2 := Lib.hid hz2
  clear hi hz0 hz1 hz2
  have hwl := h.wlen
  have HX := Lib.hid (rin_yes h (t : Int) (n : Int) (by unfold inW; omega))
  have HY := Lib.hid (rin_yes h (f : Int) (n : Int) (by unfold inW; omega))
  have H := Lib.hid h
  clear h
  go_enter Tryz.func63, Tryz.ntmps63
  go_wp2_with (go_at_call 64; first | (refine HX.out.mono ?_; rintro e w1 ⟨rfl, rfl⟩; clear HX) | (refine HY.out.mono ?_; rintro e w1 ⟨rfl, rfl⟩; clear HY))
  go_loopw [11, 12] (fun v11 v12 wr => ∃ j : Nat, j ≤ n ∧ v12 = .int .i64 j ∧ Hid (wr.ownsRow w.heap.size 33 1 v11 ((W.drop f).take j).length (((W.drop f).take j).flatMap encW)) ∧ Hid (Below w.heap.size w wr) ∧ Hid (okW own size t j = true ∧ okW own size f j = true)) (fun _ v12 _ => n - (intOf v12).toNat)
  case atStart => exact ⟨0, by omega, rfl, Lib.hid (World.ownsRow_nil _ _ _ _), Lib.hid (Below.refl _ _), Lib.hid ⟨rfl, rfl⟩⟩
  case round =>
    obtain ⟨j, hj, rfl, HR, HB, HO⟩ := hrel
    by_cases hlt : j < n
    · have HRr := Lib.hid (H.out.on HB.out)
      have HA1 := Lib.hid (rat_in HRr.out (t + j) (by omega))
      have HA2 := Lib.hid (rat_in HRr.out (f + j) (by omega))
      have k0 := HRr.out.c0
      have hcell := HRr.out.word_cell (f + j) (by omega)
      have hlen : ((W.drop f).take j).length = j := by simp; omega
      have htk : (W.drop f).take (j + 1) = (W.drop f).take j ++ [W.getD (f + j) 0] := by
        rw [List.take_add_one]; simp [List.getD, show f + j < W.length by omega]
      have hok : ∀ b : Nat, okW own size b (j + 1) = (okW own size b j && decide (own.getD ((b + j) / size) 0 ≠ 0)) := fun b => by unfold okW; rw [List.range_succ, List.all_append]; simp
      have HTK := Lib.hid htk
      have HOK := Lib.hid hok
      have HLEN := Lib.hid hlen
      generalize W.getD (f + j) 0 = x at *
      have hsz := HB.out.size
      clear htk hok hlen
      by_cases o1 : own.getD ((t + j) / size) 0 = 0
      · have hc1 : chE own ((t + j) / size) = 17 := if_pos o1
        rw [hc1] at HA1
        generalize chE own ((f + j) / size) = y2 at HA2
        have hbad : Hid (¬ (okW own size t n = true ∧ okW own size f n = true)) := Lib.hid (fun e => okW_iff.1 e.1 j hlt o1)
        clear o1 hc1
        go_wp2_with (go_at_call 34; first | (refine HA1.out.mono ?_; rintro e w1 ⟨rfl, rfl⟩; clear HA1) | (refine HA2.out.mono ?_; rintro e w1 ⟨rfl, rfl⟩; clear HA2))
        go_ret
        exact .inr ⟨hbad.out, rfl, HB.out⟩
      · have hc1 : chE own ((t + j) / size) = 0 := if_neg o1
        rw [hc1] at HA1
        by_cases o2 : own.getD ((f + j) / size) 0 = 0
        · have hc2 : chE own ((f + j) / size) = 17 := if_pos o2
          rw [hc2] at HA2
          have hbad : Hid (¬ (okW own size t n = true ∧ okW own size f n = true)) := Lib.hid (fun e => okW_iff.1 e.2 j hlt o2)
          clear o1 o2 hc1 hc2
          go_wp2_with (go_at_call 34; first | (refine HA1.out.mono ?_; rintro e w1 ⟨rfl, rfl⟩; clear HA1) | (refine HA2.out.mono ?_; rintro e w1 ⟨rfl, rfl⟩; clear HA2))
          go_ret
          exact .inr ⟨hbad.out, rfl, HB.out⟩
        · have hc2 : chE own ((f + j) / size) = 0 := if_neg o2
          rw [hc2] at HA2
          have HOn : Hid (okW own size t (j + 1) = true ∧ okW own size f (j + 1) = true) := Lib.hid (by rw [HOK.out, HOK.out, HO.out.1, HO.out.2]; simp [o1, o2, - List.getD_eq_getElem?_getD])
          clear o1 o2 hc1 hc2
          go_wp2_with (first | (go_at_call 34; first | (refine HA1.out.mono ?_; rintro e w1 ⟨rfl, rfl⟩; clear HA1) | (refine HA2.out.mono ?_; rintro e w1 ⟨rfl, rfl⟩; clear HA2)) | (at_builtin; refine wpList_append_own _ rfl _ _ 41 rfl w.heap.size 33 i0 (.int .u64 0) 1 8 Tryz.underlying41 HI.out HZ0.out HZ1.out HZ2.out rfl (by decide) _ _ _ rfl (own_on HR.out (below1 _ _)) ⟨_, 0, none⟩ 1 1 [.int .u64 x] rfl rfl (World.news_of_block (heap_alloc_new _ (.cells #[.int .u64 x] 33))) (by simp [Value.oneCell']) (by rw [HLEN.out]; unfold maxLen; omega) (by rw [HLEN.out]; omega) (by simp; omega) ?_; intro v' w5 hown' hgrow _))
          go_roundw
          case rel =>
            have hrow : ∀ z, Value.ownBlock u11 = some z → w.heap.size ≤ z := fun z e => (HR.out.lt z e).1
            have hba := HB.out.on (below1 wr (.cells #[.int .u64 x] 33))
            refine ⟨j + 1, by omega, by go_num, Lib.hid ?_, Lib.hid (hba.grown hgrow hba.size (fun z e => hrow z e)), HOn⟩
            rw [HTK.out]
            simpa [encW] using hown'
          case measure => simp [intOf]; omega
    · obtain rfl : j = n := by omega
      have hlen : ((W.drop f).take j).length = j := by simp; omega
      have hlt9 := HR.out.lt
      obtain ⟨A4, c4, rfl, hc4, hS4⟩ := own_slice encW 0 (fun _ => rfl) HR.out
      have HAB : Hid (∀ b o, A4 = some ⟨b, o, none⟩ → w.heap.size ≤ b) := Lib.hid (fun b o e => (hlt9 b (by rw [e]; rfl)).1)
      have HS4 := Lib.hid hS4
      have HFIN : Hid (RefSt wr G Wg Og (copyW W t f 0) size own ∧ Mod (Two3 Wg Og) w wr) := Lib.hid (by rw [copyW_zero]; exact ⟨H.out.on HB.out, .of_below HB.out⟩)
      have hlW := block_lt H.out.body
      rw [hlen] at hc4 ⊢
      clear hS4 HR hlt9 hlen
      go_wp2
      go_loopw [15] (fun v15 wx => ∃ m : Nat, m ≤ j ∧ v15 = .int .i64 m ∧ Hid (RefSt wx G Wg Og (copyW W t f m) size own ∧ Mod (Two3 Wg Og) w wx) ∧ Hid (SliceOf wx A4 1 encW 0 ((W.drop f).take j))) (fun v15 _ => j - (intOf v15).toNat)
      case atStart => exact ⟨0, by omega, rfl, HFIN, HS4⟩
      case round =>
        obtain ⟨m, hm, rfl, HX1, HS5⟩ := hrel
        clear HFIN HS4
        by_cases hlt2 : m < j
        · have hcl : (copyW W t f m).length = W.length := length_splice _ _ _ (by simp; omega)
          have k0 := HX1.out.1.c0
          rw [hcl] at k0
          have HST := Lib.hid (copyW_step (W := W) (t := t) (f := f) (m := m) (by omega) (by omega))
          obtain ⟨z, hz⟩ : ∃ z, z = t + m := ⟨_, rfl⟩
          have e3 : IntKind.i64.wrap ((t : Int) + (m : Int)) = (z : Int) := by rw [IntKind.wrap_i64]; omega
          have hzl : z < W.length := by omega
          rw [← hz] at HST
          clear hz
          have hcell := HX1.out.1.word_cell z (by omega)
          have hth := blk_thaw HX1.out.1.body z
          generalize (copyW W t f m).getD z 0 = u0 at hcell
          obtain ⟨b4, o4, rfl, hx0⟩ := HS5.out m (by simp; omega)
          have hx := hx0 0 _ rfl
          have hval : ((W.drop f).take j).getD m 0 = W.getD (f + m) 0 := by simp [List.getD, hlt2]
          rw [hval, Nat.add_zero, Nat.mul_one] at hx
          have hb4 := HAB.out b4 o4 rfl
          generalize W.getD (f + m) 0 = x at hx HST
          clear hx0 hcl hval
          go_wp2_with fail
          obtain ⟨w3, hw3⟩ : ∃ w3, w3 = wr.drew := ⟨_, rfl⟩
          refine still_tail_at 12 (by kernel_rfl) (by kernel_rfl) hw3 ?_
          have H3 : Hid (RefSt w3 G Wg Og (copyW W t f m) size own ∧ Mod (Two3 Wg Og) w w3) := Lib.hid (by rw [hw3]; exact ⟨HX1.out.1.on (Below.drew (Below.refl _ _)), HX1.out.2.drew⟩)
          have HS6 : Hid (SliceOf w3 (some ⟨b4, o4, none⟩) 1 encW 0 ((W.drop f).take j)) := Lib.hid (by rw [hw3]; exact HS5.out.on (Below.drew (Below.refl _ _)))
          replace k0 : w3.cell? ⟨G, 0, none⟩ = some (.slice (some ⟨Wg, 0, none⟩) W.length W.length) := by rw [hw3]; exact k0
          replace hcell : w3.cell? ⟨Wg, z, none⟩ = some (.int .u64 u0) := by rw [hw3]; exact hcell
          replace hx : w3.cell? ⟨b4, o4 + m, none⟩ = some (.int .u64 x) := by rw [hw3]; exact hx
          replace hth : w3.frozen? ⟨Wg, z, none⟩ = false := by rw [hw3]; exact hth
          clear hw3 HX1 HS5
          simp only [List.take_succ_cons, List.take_zero, List.drop_succ_cons, List.drop_zero]
          iterate 12
            with_reducible refine wpStill_step ?_
            intro K hK
            go_simp
            with_reducible refine hK _ ?_
            clear hK K
          refine wpStill_nil ?_
          go_wp2
          go_roundw
          case rel =>
            have hst := H3.out.1.setW z x
            refine ⟨m + 1, by omega, by go_num, Lib.hid ⟨?_, H3.out.2.trans (hst.2.mono fun i _ e => .inl e)⟩, Lib.hid (slice_mod HS6.out hst.2 (fun b o e _ => by cases e; show ¬ b4 = Wg; omega))⟩
            have h9 := hst.1
            rw [HST.out] at h9
            exact h9
          case measure => simp [intOf]; omega
        · obtain rfl : m = j := by omega
          go_wp2
          go_ret
          exact .inl ⟨HO.out.1, HO.out.2, rfl, HX1.out.1, HX1.out.2⟩
end Go.Proofs.YtfflacggaebonaaGreatDoor
end
section
namespace Go.Proofs.YtfflacggaebonaaGreatDoor
open Go.RowKit
set_option linter.unusedVariables false
set_option linter.unusedSimpArgs false
variable {w w' : World} {G Wg Og size : Nat} {W W' own own' : List Int}
theorem three_blocks (w : World) (o1 o2 o3 : Obj) : (((w.alloc o1).alloc o2).alloc o3).drew.heap[w.heap.size]? = some o1 ∧ (((w.alloc o1).alloc o2).alloc o3).drew.heap[w.heap.size + 1]? = some o2 ∧ (((w.alloc o1).alloc o2).alloc o3).drew.heap[w.heap.size + 1 + 1]? = some o3 ∧ Below w.heap.size w (((w.alloc o1).alloc o2).alloc o3).drew := by
  have b2 := below1 (w.alloc o1) o2
  have b3 := below1 ((w.alloc o1).alloc o2) o3
  have h1 := World.alloc_heap_new w o1
  have h2 := World.alloc_heap_new (w.alloc o1) o2
  have h3 := World.alloc_heap_new ((w.alloc o1).alloc o2) o3
  rw [World.size_alloc] at h2
  rw [World.size_alloc, World.size_alloc] at h3
  exact ⟨(b3.block _ (by rw [World.size_alloc, World.size_alloc]; omega)).trans ((b2.block _ (by rw [World.size_alloc]; omega)).trans h1), (b3.block _ (by rw [World.size_alloc, World.size_alloc]; omega)).trans h2, h3, Below.drew (((below1 w o1).on b2).on b3)⟩
set_option maxRecDepth 100000 in
set_option maxHeartbeats 1000000 in
theorem rnew_any (c n : Nat) (w : World) (hc1 : 1 ≤ c) (hc2 : c ≤ 1024) (hn1 : 1 ≤ n) (hn2 : n ≤ 1024) : Calls Tryz.prog 20 #[.int .i64 c, .int .i64 n] w fun e w' => ∃ G Wg Og, e = .returned (.pointer (some ⟨G, 0, none⟩)) ∧ RefSt w' G Wg Og (List.replicate (c * n) 0) n (List.replicate c 0) ∧ Below w.heap.size w w' ∧ w.heap.size ≤ G ∧ w.heap.size ≤ Wg ∧ w.heap.size ≤ Og := by
  obtain ⟨i0, hi, hz0, hz1, hz2⟩ := info_parts info64
  obtain ⟨j0, hj, jz0, jz1, jz2⟩ := info_parts infoI
  have hm : c * n ≤ 1048576 := Nat.le_trans (Nat.mul_le_mul hc2 hn2) (by decide)
  have hcn : (c : Int) * (n : Int) = ((c * n : Nat) : Int) := by simp
  obtain ⟨m, hmm⟩ : ∃ m, m = c * n := ⟨_, rfl⟩
  have hM := Lib.hid hmm
  rw [← hmm] at hm hcn ⊢
  have hwr : IntKind.i64.wrap ((c : Int) * (n : Int)) = (m : Int) := by rw [hcn, IntKind.wrap_i64]; omega
  have mk1 : ∀ W : World, (Instr.makeSlice 41 (.int .i64 (m : Nat)) (.int .i64 (m : Nat))).run Tryz.prog W = .ok (.slice (some ⟨W.heap.size, 0, none⟩) m m) (W.alloc (.cells (List.replicate m (Value.int .u64 0)).toArray 33)) := fun W => by
    rw [run_make W 41 33 i0 (.int .u64 0) Tryz.underlying41 hi hz0 .i64 .i64 _ _ (by omega) (by omega) (by rw [hz2]; omega) (by omega), hz1, made_one _ rfl, Nat.mul_one]
    rw [Int.toNat_natCast]
  have mk2 : ∀ W : World, (Instr.makeSlice 42 (.int .i64 (c : Nat)) (.int .i64 (c : Nat))).run Tryz.prog W = .ok (.slice (some ⟨W.heap.size, 0, none⟩) c c) (W.alloc (.cells (List.replicate c (Value.int .i64 0)).toArray 3)) := fun W => by
    rw [run_make W 42 3 j0 (.int .i64 0) Tryz.underlying42 hj jz0 .i64 .i64 _ _ (by omega) (by omega) (by rw [jz2]; omega) (by omega), jz1, made_one _ rfl, Nat.mul_one]
    rw [Int.toNat_natCast]
  have HFIN : Hid (∀ (X : World) (Wg Og G : Nat), X.heap[Wg]? = some (.cells (Array.replicate m (Value.int .u64 0)) 33 (0, 0)) → X.heap[Og]? = some (.cells (Array.replicate c (Value.int .i64 0)) 3 (0, 0)) → X.heap[G]? = some (.cells #[.slice (some ⟨Wg, 0, none⟩) m m, .int .i64 n, .slice (some ⟨Og, 0, none⟩) c c] 44 (0, 0)) → G ≠ Wg → G ≠ Og → Wg ≠ Og → RefSt X G Wg Og (List.replicate m 0) n (List.replicate c 0)) := Lib.hid (fun X Wg Og G h1 h2 h3 n1 n2 n3 => by
    refine ⟨?_, ?_, ?_, by rw [hmm]; simp, hn1, hn2, by simpa using hc1, by simpa using hc2, n1, n2, n3⟩
    · rw [List.length_replicate, List.length_replicate]; exact h3
    · rw [h1, List.map_replicate]; simp [wordV]
    · rw [h2, List.map_replicate]; simp [ownV])
  clear hi hz0 hz1 hz2 hj jz0 jz1 jz2 hcn hmm hc1 hc2 hn1 hn2
  go_enter Tryz.func20, Tryz.ntmps20
  go_wp2_with fail
  first
    | go_region
    | fail
  all_goals
    go_wp2
    go_ret
  · obtain ⟨g1, g2, g3, g4⟩ := three_blocks w (.cells (Array.replicate m (Value.int .u64 0)) 33) (.cells (Array.replicate c (Value.int .i64 0)) 3) (.cells #[.slice (some ⟨w.heap.size, 0, none⟩) m m, .int .i64 n, .slice (some ⟨w.heap.size + 1, 0, none⟩) c c] 44)
    exact ⟨w.heap.size + 1 + 1, w.heap.size, w.heap.size + 1, rfl, HFIN.out _ _ _ _ g1 g2 g3 (by omega) (by omega) (by omega), g4, by omega, by omega, by omega⟩
  · obtain ⟨g1, g2, g3, g4⟩ := three_blocks w (.cells (Array.replicate c (Value.int .i64 0)) 3) (.cells (Array.replicate m (Value.int .u64 0)) 33) (.cells #[.slice (some ⟨w.heap.size + 1, 0, none⟩) m m, .int .i64 n, .slice (some ⟨w.heap.size, 0, none⟩) c c] 44)
    exact ⟨w.heap.size + 1 + 1, w.heap.size + 1, w.heap.size, rfl, HFIN.out _ _ _ _ g2 g1 g3 (by omega) (by omega) (by omega), g4, by omega, by omega, by omega⟩
end Go.Proofs.YtfflacggaebonaaGreatDoor
end
section
namespace Go.Proofs.YtfflacggaebonaaGreatDoor
open Go.RowKit
set_option linter.unusedVariables false
set_option linter.unusedSimpArgs false
variable {w w' : World} {B Wb Ob p q G Wg Og size : Nat} {W W' own own' : List Int}
/-- A store and the document's, of the same words and owners. -/
structure Pair (w : World) (B Wb Ob p q G Wg Og size : Nat) (W own : List Int) : Prop where
  st : StoreAt w B Wb Ob p q W size own
  rf : RefSt w G Wg Og W size own
  far : ∀ k, Five B Wb Ob p q k → k ≠ G ∧ k ≠ Wg ∧ k ≠ Og
def Eight (B Wb Ob p q G Wg Og k : Nat) : Prop := Five B Wb Ob p q k ∨ k = G ∨ k = Wg ∨ k = Og
/-- What the calls turn. -/
def Six (Wb Ob p q Wg Og k : Nat) : Prop := Four3 Wb Ob p q k ∨ Two3 Wg Og k
theorem Pair.mod {P : Nat → Prop} (h : Pair w B Wb Ob p q G Wg Og size W own) (hm : Mod P w w') (hn : ∀ k, Eight B Wb Ob p q G Wg Og k → ¬ P k) : Pair w' B Wb Ob p q G Wg Og size W own :=
  ⟨h.st.mod hm (fun k hk => hn k (.inl hk)), h.rf.mod hm (hn _ (.inr (.inl rfl))) (hn _ (.inr (.inr (.inl rfl)))) (hn _ (.inr (.inr (.inr rfl)))), h.far⟩
theorem Pair.on (h : Pair w B Wb Ob p q G Wg Og size W own) (hb : Below w.heap.size w w') : Pair w' B Wb Ob p q G Wg Og size W own := h.mod (P := fun _ => False) (.of_below hb) (fun _ _ x => x)
theorem Pair.lt (h : Pair w B Wb Ob p q G Wg Og size W own) : ∀ k, Eight B Wb Ob p q G Wg Og k → k < w.heap.size := fun k e => by
  obtain ⟨u, hu⟩ := h.st.map
  rcases e with (e | e | e | e | e) | e | e | e
  · rw [e]; exact block_lt h.st.head
  · rw [e]; exact block_lt h.st.body
  · rw [e]; exact block_lt h.st.owners
  · rw [e]; exact block_lt hu.head
  · rw [e]; exact block_lt hu.body
  · rw [e]; exact block_lt h.rf.head
  · rw [e]; exact block_lt h.rf.body
  · rw [e]; exact block_lt h.rf.owners
theorem Six.eight {k : Nat} (h : Six Wb Ob p q Wg Og k) : Eight B Wb Ob p q G Wg Og k := by
  rcases h with h | h | h
  · exact .inl (.inr h)
  · exact .inr (.inr (.inl h))
  · exact .inr (.inr (.inr h))
/-- The store's call behind, the document's ahead. -/
theorem Pair.half (h : Pair w B Wb Ob p q G Wg Og size W own) (hm : Mod (Four3 Wb Ob p q) w w') : RefSt w' G Wg Og W size own :=
  h.rf.mod hm (fun e => (h.far _ (.inr e)).1 rfl) (fun e => (h.far _ (.inr e)).2.1 rfl) (fun e => (h.far _ (.inr e)).2.2 rfl)
theorem Pair.done {w2 : World} (h : Pair w B Wb Ob p q G Wg Og size W own) (hs : StoreAt w' B Wb Ob p q W' size own') (hm : Mod (Four3 Wb Ob p q) w w') (hr : RefSt w2 G Wg Og W' size own') (hm2 : Mod (Two3 Wg Og) w' w2) : Pair w2 B Wb Ob p q G Wg Og size W' own' ∧ Mod (Six Wb Ob p q Wg Og) w w2 :=
  ⟨⟨hs.mod hm2 (fun k hk e => by rcases e with e | e; exact (h.far k hk).2.1 e; exact (h.far k hk).2.2 e), hr, h.far⟩, (hm.mono fun _ _ e => .inl e).trans (hm2.mono fun _ _ e => .inr e)⟩
/-- TakeRun. -/
def TakeTw (W own : List Int) (size : Nat) (o n x y : Int) (W' own' : List Int) : Prop :=
  (∀ (Y : World) (B Wb Ob p q : Nat), StoreAt Y B Wb Ob p q W size own → Tab Y → Calls Tryz.prog 52 #[.pointer (some ⟨B, 0, none⟩), .int .i64 o, .int .i64 n] Y fun e Y' => e = .returned (.tuple #[.int .i64 x, .int .i64 y]) ∧ StoreAt Y' B Wb Ob p q W' size own' ∧ Mod (Four3 Wb Ob p q) Y Y') ∧
  (∀ (Y : World) (G Wg Og : Nat), RefSt Y G Wg Og W size own → Calls Tryz.prog 22 #[.pointer (some ⟨G, 0, none⟩), .int .i64 o, .int .i64 n] Y fun e Y' => e = .returned (.tuple #[.int .i64 x, .int .i64 y]) ∧ RefSt Y' G Wg Og W' size own' ∧ Mod (Two3 Wg Og) Y Y')
/-- Owners behind a call: those that were, or one of these. -/
def Grew (own own' : List Int) (a b : Int) : Prop := ∀ x ∈ own', x ∈ own ∨ x = a ∨ x = b ∨ x = 0
theorem Grew.refl (own : List Int) (a b : Int) : Grew own own a b := fun x hx => .inl hx
theorem grew_fill (own : List Int) (i : Nat) (o b : Int) : ∀ n, Grew own (fillO own i o n) o b
  | 0 => Grew.refl _ _ _
  | n + 1 => fun x hx => by
    rcases List.mem_or_eq_of_mem_set hx with g | g
    · exact grew_fill own i o b n x g
    · exact .inr (.inl g)
theorem grew_set (own : List Int) (i : Nat) (o : Int) {a b : Int} (h : o = a ∨ o = b ∨ o = 0) : Grew own (own.set i o) a b := fun x hx => by
  rcases List.mem_or_eq_of_mem_set hx with g | g
  · exact .inl g
  · rw [g]; exact .inr h
theorem take_tw (W own : List Int) (size : Nat) (o n : Int) (hn : n < 9223372036854775808) : ∃ x y W' own', TakeTw W own size o n x y W' own' ∧ ∀ b, Grew own own' o b := by
  by_cases h1 : o < 1 ∨ n < 1
  · exact ⟨0, 2, W, own, ⟨fun Y B Wb Ob p q hs hT => (take_few B o n Y h1).mono fun e Y' ⟨he, hw⟩ => ⟨he, hw ▸ hs, hw ▸ Mod.refl _ _⟩, fun Y G Wg Og hr => (rtake_few G o n Y h1).mono fun e Y' ⟨he, hw⟩ => ⟨he, hw ▸ hr, hw ▸ Mod.refl _ _⟩⟩, fun b => Grew.refl _ _ _⟩
  · obtain ⟨m, rfl⟩ : ∃ m : Nat, n = m := ⟨n.toNat, by omega⟩
    rcases hr : runAtO own m with ⟨a, b⟩
    rcases run_at hr with ⟨rfl, h2, h3⟩ | ⟨rfl, rfl⟩
    · exact ⟨a, 0, _, _, ⟨fun Y B Wb Ob p q hs hT => (take_in hs hT o m a (by omega) (by omega) hr).mono fun e Y' h => h, fun Y G Wg Og hf => (rtake_in hf o m a (by omega) (by omega) (by omega) hr).mono fun e Y' h => h⟩, fun b => grew_fill _ _ _ _ _⟩
    · exact ⟨0, 11, W, own, ⟨fun Y B Wb Ob p q hs hT => (take_full hs hT o m (by omega) (by omega) hr).mono fun e Y' ⟨he, hw⟩ => ⟨he, hw ▸ hs, hw ▸ Mod.refl _ _⟩, fun Y G Wg Og hf => (rtake_full hf o m (by omega) (by omega) (by omega) hr).mono fun e Y' ⟨he, hw⟩ => ⟨he, hw ▸ hf, hw ▸ Mod.refl _ _⟩⟩, fun b => Grew.refl _ _ _⟩
theorem TakeTw.one {o x y : Int} (h : TakeTw W own size o 1 x y W' own') (hs : StoreAt w B Wb Ob p q W size own) (hT : Tab w) : Calls Tryz.prog 21 #[.pointer (some ⟨B, 0, none⟩), .int .i64 o] w fun e Y' => e = .returned (.tuple #[.int .i64 x, .int .i64 y]) ∧ StoreAt Y' B Wb Ob p q W' size own' ∧ Mod (Four3 Wb Ob p q) w Y' :=
  take_any o _ (h.1 w B Wb Ob p q hs hT) (fun e w' h => ⟨_, _, h.1⟩)
/-- Copy. -/
def CopyTw (W own : List Int) (size : Nat) (t f n y : Int) (W' : List Int) : Prop :=
  (∀ (Y : World) (B Wb Ob p q : Nat), StoreAt Y B Wb Ob p q W size own → Calls Tryz.prog 47 #[.pointer (some ⟨B, 0, none⟩), .int .i64 t, .int .i64 f, .int .i64 n] Y fun e Y' => e = .returned (.int .i64 y) ∧ StoreAt Y' B Wb Ob p q W' size own ∧ Mod (Four3 Wb Ob p q) Y Y') ∧
  (∀ (Y : World) (G Wg Og : Nat), RefSt Y G Wg Og W size own → Calls Tryz.prog 63 #[.pointer (some ⟨G, 0, none⟩), .int .i64 t, .int .i64 f, .int .i64 n] Y fun e Y' => e = .returned (.int .i64 y) ∧ RefSt Y' G Wg Og W' size own ∧ Mod (Two3 Wg Og) Y Y')
theorem copy_tw (W own : List Int) (size : Nat) (t f n : Int) : ∃ y W', CopyTw W own size t f n y W' := by
  by_cases h1 : inW W.length t n ∧ inW W.length f n
  · obtain ⟨⟨g1, g2, g3, g4⟩, g5, g6, g7, g8⟩ := id h1
    obtain ⟨t, rfl⟩ : ∃ m : Nat, t = m := ⟨t.toNat, by omega⟩
    obtain ⟨f, rfl⟩ : ∃ m : Nat, f = m := ⟨f.toNat, by omega⟩
    obtain ⟨n, rfl⟩ : ∃ m : Nat, n = m := ⟨n.toNat, by omega⟩
    by_cases h2 : okW own size t n = true ∧ okW own size f n = true
    · refine ⟨0, copyW W t f n, fun Y B Wb Ob p q hs => copy_in hs t f n (by omega) (by omega) h2.1 h2.2, fun Y G Wg Og hr => (rcopy_in hr t f n (by omega) (by omega)).mono fun e Y' h => ?_⟩
      rcases h with ⟨_, _, h3, h4, h5⟩ | ⟨h3, _⟩
      · exact ⟨h3, h4, h5⟩
      · exact absurd h2 h3
    · refine ⟨17, W, fun Y B Wb Ob p q hs => (copy_bad hs t f n (fun e => h2 ⟨by simpa using e.2.2.1, by simpa using e.2.2.2⟩)).mono fun e Y' ⟨⟨x, he, hc, hx⟩, hw⟩ => ⟨?_, hw ▸ hs, hw ▸ Mod.refl _ _⟩, fun Y G Wg Og hr => (rcopy_in hr t f n (by omega) (by omega)).mono fun e Y' h => ?_⟩
      · rcases hc with ⟨h3, h4⟩ | ⟨h3, _⟩ | ⟨h3, _⟩
        · exact absurd h1 (fun e => h4.elim (fun g => g e.1) (fun g => g e.2))
        · rw [he, h3]
        · exact absurd h3 hx
      · rcases h with ⟨h3, h4, _⟩ | ⟨_, h3, h4⟩
        · exact absurd ⟨h3, h4⟩ h2
        · exact ⟨h3, hr.on h4, .of_below h4⟩
  · refine ⟨3, W, fun Y B Wb Ob p q hs => (copy_bad hs t f n (fun e => h1 ⟨e.1, e.2.1⟩)).mono fun e Y' ⟨⟨x, he, hc, hx⟩, hw⟩ => ⟨?_, hw ▸ hs, hw ▸ Mod.refl _ _⟩, fun Y G Wg Og hr => (rcopy_bad hr t f n h1).mono fun e Y' ⟨he, hw⟩ => ⟨he, hw ▸ hr, hw ▸ Mod.refl _ _⟩⟩
    rcases hc with ⟨h3, h4⟩ | ⟨h3, h4, h5, _⟩ | ⟨h3, _⟩
    · rw [he, h3]
    · exact absurd ⟨h4, h5⟩ h1
    · exact absurd h3 hx
end Go.Proofs.YtfflacggaebonaaGreatDoor
end
