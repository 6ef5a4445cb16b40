/- Contracts of the package bitmap: walks. -/
import Derived.Test.YtkaflgbipjppmaaDoorProg
import Derived.Test.YtkaflgbipjppmaaDoorBm
import Derived.Below
import Derived.WalkKit
import Derived.KernelRfl
import Derived.RowKit3
import Derived.OwnWalk
import Derived.Tactics
import Derived.Outline
import Derived.Laws.Slices
import Derived.Deep.QuietTactic
import Derived.BigQuiet
import Derived.WalkSmall
import Derived.Lib.Hide
import Derived.Deep.RegionHeld3
import Derived.Deep.DeepCutAuto
import Derived.WalkLawsBesides
import Derived.StillTailTactics
import Derived.Laws.MakeOwn
import Derived.Laws.OwnMore
namespace Go.Proofs.YtkaflgbipjppmaaDoor
open Go.RowKit
set_option linter.unusedVariables false
variable {w : World} {p q : Nat} {bits : List Bool} {ws : List Nat} {T T' : TypeId}
theorem len_any (h : MapAt w p q bits ws T T') : Calls Tryd.prog 86 #[.pointer (some ⟨p, 0, none⟩)] w fun e w' => e = .returned (.int .i64 bits.length) ∧ w = w' := by
  have h0 := h.n
  go_enter Tryd.func86, Tryd.ntmps86
  go_wp2
  go_ret
  exact ⟨rfl, rfl⟩
theorem len_nil (w : World) : Calls Tryd.prog 86 #[.pointer none] w fun e w' => e = .returned (.int .i64 0) ∧ w = w' := by
  go_enter Tryd.func86, Tryd.ntmps86
  go_wp2
  go_ret
  exact ⟨rfl, rfl⟩
theorem count_any (h : MapAt w p q bits ws T T') : Calls Tryd.prog 54 #[.pointer (some ⟨p, 0, none⟩)] w fun e w' => e = .returned (.int .i64 (many bits)) ∧ w = w' := by
  have h0 := h.m
  go_enter Tryd.func54, Tryd.ntmps54
  go_wp2
  go_ret
  exact ⟨rfl, rfl⟩
theorem ret_bool {a b : Bool} (h : a = b) : Ending.returned (.bool a) = .returned (.bool b) := by rw [h]
theorem has_in (h : MapAt w p q bits ws T T') (i : Nat) (hi : i < bits.length) : Calls Tryd.prog 88 #[.pointer (some ⟨p, 0, none⟩), .int .i64 i] w fun e w' => e = .returned (.bool (bits.getD i false)) ∧ w = w' := by
  have h1 := h.w_
  have hj := h.wlen hi
  have h2 := h.word (i / 64) hj
  have hle := h.le
  have HA := Lib.hid (h.words.ask i)
  generalize ws.getD (i / 64) 0 = x at h2 HA
  go_enter Tryd.func88, Tryd.ntmps88
  go_wp2_with (go_at_call 86; refine (len_any h).mono ?_; rintro e w' ⟨rfl, rfl⟩)
  go_ret
  exact ⟨ret_bool HA.out, rfl⟩
theorem has_out (h : MapAt w p q bits ws T T') (i : Int) (hi : i < 0 ∨ bits.length ≤ i) : Calls Tryd.prog 88 #[.pointer (some ⟨p, 0, none⟩), .int .i64 i] w fun e w' => e = .returned (.bool false) ∧ w = w' := by
  rcases hi with hi | hi
  · have hn : ¬ 0 ≤ i := by omega
    go_enter Tryd.func88, Tryd.ntmps88
    go_wp2
    go_ret
    exact ⟨rfl, rfl⟩
  · have hn : 0 ≤ i := by omega
    have hm : ¬ i < bits.length := by omega
    go_enter Tryd.func88, Tryd.ntmps88
    go_wp2_with (go_at_call 86; refine (len_any h).mono ?_; rintro e w' ⟨rfl, rfl⟩)
    go_ret
    exact ⟨rfl, rfl⟩
theorem has_nil (i : Int) (w : World) : Calls Tryd.prog 88 #[.pointer none, .int .i64 i] w fun e w' => e = .returned (.bool false) ∧ w = w' := by
  by_cases hn : 0 ≤ i
  · have hm : ¬ i < 0 := by omega
    go_enter Tryd.func88, Tryd.ntmps88
    go_wp2_with (go_at_call 86; refine (len_nil _).mono ?_; rintro e w' ⟨rfl, rfl⟩)
    go_ret
    exact ⟨rfl, rfl⟩
  · go_enter Tryd.func88, Tryd.ntmps88
    go_wp2
    go_ret
    exact ⟨rfl, rfl⟩
theorem turn_same (h : MapAt w p q bits ws T T') (i : Nat) (hi : i < bits.length) (on : Bool) (hs : bits.getD i false = on) : Calls Tryd.prog 79 #[.pointer (some ⟨p, 0, none⟩), .int .i64 i, .bool on] w fun e w' => e = .returned (.tuple #[]) ∧ w = w' := by
  have HS := Lib.hid hs
  clear hs
  go_enter Tryd.func79, Tryd.ntmps79
  go_wp2_with (go_at_call 88; refine (has_in h i hi).mono ?_; rintro e w' ⟨rfl, rfl⟩; rw [HS.out])
  refine bodyPost_ret (results_none rfl _ _ _) rfl ?_
  exact ⟨rfl, rfl⟩
set_option maxRecDepth 100000 in
theorem turn_other (h : MapAt w p q bits ws T T') (i : Nat) (hi : i < bits.length) (on : Bool) (hs : bits.getD i false = !on) : Calls Tryd.prog 79 #[.pointer (some ⟨p, 0, none⟩), .int .i64 i, .bool on] w fun e w' => e = .returned (.tuple #[]) ∧ Turned w p q (bits.set i on) T T' w' := by
  have HS := Lib.hid hs
  have h1 := h.w_
  have hj := h.wlen hi
  have h2 := h.word (i / 64) hj
  have h3 := h.m
  have hle := h.le
  have hml := many_le bits
  have f1 := blk_thaw h.head 2
  have f2 := blk_thaw h.body (i / 64)
  have hne := h.ne
  have HT := Lib.hid (fun w' m => h.turned (w' := w') i hi on hs (m := m))
  clear hs
  go_enter Tryd.func79, Tryd.ntmps79
  go_wp2_with (go_at_call 88; refine (has_in h i hi).mono ?_; rintro e w' ⟨rfl, rfl⟩; rw [HS.out])
  generalize hx : ws.getD (i / 64) 0 = x at h2
  have HX := Lib.hid hx
  clear hx
  have hc : (w.setCell ⟨q, i / 64, none⟩ (.int .u64 (Go.bits .xor .u64 x (2 ^ (i % 64))))).cell? ⟨p, 2, none⟩ = some (.int .i64 (many bits)) := (World.cell?_of_block (w := w) (Below.heap_setCell _ _ _ _ hne)).trans h3
  go_region
  cases on
  · go_wp2
    go_end0
    refine ⟨rfl, HT.out _ ((many bits : Int) - 1) (by simp) ?_ ?_ ?_⟩
    · exact (blk_set (blk_far h.head ⟨q, i / 64, none⟩ _ hne) 2 _).trans rfl
    · rw [HX.out]; exact blk_far (blk_set h.body (i / 64) _) ⟨p, 2, none⟩ _ hne.symm
    · exact ((Mod.setCell (Two p q) w ⟨q, i / 64, none⟩ _ (.inr rfl)).trans (Mod.setCell (Two p q) _ ⟨p, 2, none⟩ _ (.inl rfl))).drew
  · go_wp2
    go_end0
    refine ⟨rfl, HT.out _ ((many bits : Int) - 1 + 2) (by simp; omega) ?_ ?_ ?_⟩
    · exact (blk_set (blk_set (blk_far h.head ⟨q, i / 64, none⟩ _ hne) 2 _) 2 _).trans rfl
    · rw [HX.out]; exact blk_far (blk_far (blk_set h.body (i / 64) _) ⟨p, 2, none⟩ _ hne.symm) ⟨p, 2, none⟩ _ hne.symm
    · exact (((Mod.setCell (Two p q) w ⟨q, i / 64, none⟩ _ (.inr rfl)).trans (Mod.setCell (Two p q) _ ⟨p, 2, none⟩ _ (.inl rfl))).trans (Mod.setCell (Two p q) _ ⟨p, 2, none⟩ _ (.inl rfl))).drew
theorem set_same {i : Nat} {on : Bool} (hi : i < bits.length) (hs : bits.getD i false = on) : bits.set i on = bits := by
  have : bits[i] = on := by simpa [List.getD, hi] using hs
  rw [← this]; simp
theorem turn_any (h : MapAt w p q bits ws T T') (i : Nat) (hi : i < bits.length) (on : Bool) : Calls Tryd.prog 79 #[.pointer (some ⟨p, 0, none⟩), .int .i64 i, .bool on] w fun e w' => e = .returned (.tuple #[]) ∧ Turned w p q (bits.set i on) T T' w' := by
  by_cases hs : bits.getD i false = on
  · rw [set_same hi hs]
    exact (turn_same h i hi on hs).mono fun e w' ⟨he, hw⟩ => ⟨he, ws, hw ▸ h, hw ▸ Mod.refl _ _⟩
  · exact turn_other h i hi on (by cases hb : bits.getD i false <;> cases on <;> simp_all)
/-- Some places turned. -/
def fillL (bits : List Bool) (a : Nat) (on : Bool) : Nat → List Bool
  | 0 => bits
  | n + 1 => (fillL bits a on n).set (a + n) on
theorem fillL_length (bits : List Bool) (a : Nat) (on : Bool) : ∀ n, (fillL bits a on n).length = bits.length
  | 0 => rfl
  | n + 1 => by simp [fillL, fillL_length bits a on n]
theorem fill_nil (a n : Int) (on : Bool) (w : World) : Calls Tryd.prog 59 #[.pointer none, .int .i64 a, .int .i64 n, .bool on] w fun e w' => e = .returned (.int .i64 1) ∧ w = w' := by
  go_enter Tryd.func59, Tryd.ntmps59
  go_wp2
  go_ret
  exact ⟨rfl, rfl⟩
theorem fill_out (h : MapAt w p q bits ws T T') (a n : Int) (on : Bool) (ha : ¬ (0 ≤ n ∧ 0 ≤ a ∧ a ≤ bits.length ∧ n ≤ bits.length - a)) : Calls Tryd.prog 59 #[.pointer (some ⟨p, 0, none⟩), .int .i64 a, .int .i64 n, .bool on] w fun e w' => e = .returned (.int .i64 3) ∧ w = w' := by
  have h0 := h.n
  have hle := h.le
  by_cases c1 : n < 0
  · go_enter Tryd.func59, Tryd.ntmps59
    go_wp2
    go_ret
    exact ⟨rfl, rfl⟩
  · by_cases c2 : a < 0
    · go_enter Tryd.func59, Tryd.ntmps59
      go_wp2
      go_ret
      exact ⟨rfl, rfl⟩
    · by_cases c3 : (bits.length : Int) < a
      · go_enter Tryd.func59, Tryd.ntmps59
        go_wp2
        go_ret
        exact ⟨rfl, rfl⟩
      · have c4 : (bits.length : Int) - a < n := by omega
        clear ha
        go_enter Tryd.func59, Tryd.ntmps59
        go_wp2
        go_ret
        exact ⟨rfl, rfl⟩
theorem fill_in (h : MapAt w p q bits ws T T') (a n : Nat) (on : Bool) (ha : a + n ≤ bits.length) : Calls Tryd.prog 59 #[.pointer (some ⟨p, 0, none⟩), .int .i64 a, .int .i64 n, .bool on] w fun e w' => e = .returned (.int .i64 0) ∧ Turned w p q (fillL bits a on n) T T' w' := by
  have h0 := h.n
  have hle := h.le
  have H := Lib.hid h
  have c1 : ¬ ((n : Int) < 0) := by omega
  have c2 : ¬ ((a : Int) < 0) := by omega
  have c3 : ¬ ((bits.length : Int) < a) := by omega
  have c4 : ¬ ((bits.length : Int) - a < n) := by omega
  clear h
  go_enter Tryd.func59, Tryd.ntmps59
  go_wp2
  go_loopw [9] (fun v9 wr => ∃ k : Nat, k ≤ n ∧ v9 = .int .i64 (a + k : Nat) ∧ Hid (Turned w p q (fillL bits a on k) T T' wr)) (fun v9 _ => a + n - (intOf v9).toNat)
  case atStart => exact ⟨0, by omega, rfl, Lib.hid ⟨ws, H.out, Mod.refl _ _⟩⟩
  case round =>
    obtain ⟨k, hk, rfl, HT⟩ := hrel
    by_cases hlt : k < n
    · obtain ⟨ws', hM, hmod⟩ := HT.out
      have c5 : ((a + k : Nat) : Int) < (a : Int) + n := by omega
      have HM := Lib.hid hM
      have HMOD := Lib.hid hmod
      clear hM hmod
      go_wp2_with (go_at_call 79; refine (turn_any HM.out (a + k) (by rw [fillL_length]; omega) on).mono ?_; rintro e w1 ⟨rfl, ht⟩; have HT2 := Lib.hid ht; clear ht)
      go_roundw
      case rel =>
        refine ⟨k + 1, by omega, by go_num, ?_⟩
        obtain ⟨ws2, hM2, hmod2⟩ := HT2.out
        exact Lib.hid ⟨ws2, hM2, HMOD.out.trans hmod2⟩
      case measure => simp [intOf]; omega
    · obtain rfl : k = n := by omega
      have c5 : ¬ ((a + k : Nat) : Int) < (a : Int) + k := by omega
      go_wp2
      go_ret
      exact ⟨rfl, HT.out⟩
theorem set_nil (i : Int) (on : Bool) (w : World) : Calls Tryd.prog 57 #[.pointer none, .int .i64 i, .bool on] w fun e w' => e = .returned (.int .i64 1) ∧ w = w' := by
  go_enter Tryd.func57, Tryd.ntmps57
  go_wp2_with (go_at_call 59; refine (fill_nil _ _ _ _).mono ?_; rintro e w' ⟨rfl, rfl⟩)
  go_ret
  exact ⟨rfl, rfl⟩
theorem set_out (h : MapAt w p q bits ws T T') (i : Int) (on : Bool) (hi : ¬ (0 ≤ i ∧ i < bits.length)) : Calls Tryd.prog 57 #[.pointer (some ⟨p, 0, none⟩), .int .i64 i, .bool on] w fun e w' => e = .returned (.int .i64 3) ∧ w = w' := by
  have HC := Lib.hid (fill_out h i 1 on (by omega))
  go_enter Tryd.func57, Tryd.ntmps57
  go_wp2_with (go_at_call 59; refine HC.out.mono ?_; rintro e w' ⟨rfl, rfl⟩)
  go_ret
  exact ⟨rfl, rfl⟩
theorem set_in (h : MapAt w p q bits ws T T') (i : Nat) (on : Bool) (hi : i < bits.length) : Calls Tryd.prog 57 #[.pointer (some ⟨p, 0, none⟩), .int .i64 i, .bool on] w fun e w' => e = .returned (.int .i64 0) ∧ Turned w p q (bits.set i on) T T' w' := by
  have HC := Lib.hid (show Calls Tryd.prog 59 #[.pointer (some ⟨p, 0, none⟩), .int .i64 i, .int .i64 1, .bool on] w fun e w' => e = .returned (.int .i64 0) ∧ Turned w p q (bits.set i on) T T' w' from fill_in h i 1 on (by omega))
  go_enter Tryd.func57, Tryd.ntmps57
  go_wp2_with (go_at_call 59; refine HC.out.mono ?_; rintro e w' ⟨rfl, ht⟩; have HT := Lib.hid ht; clear ht)
  go_ret
  exact ⟨rfl, HT.out⟩
theorem new_out (n : Int) (w : World) (hn : n < 1 ∨ 1048576 < n) : Calls Tryd.prog 69 #[.int .i64 n] w fun e w' => e = .returned (.tuple #[.pointer none, .int .i64 3]) ∧ w = w' := by
  rcases hn with hn | hn
  · go_enter Tryd.func69, Tryd.ntmps69
    go_wp2
    go_ret2
    exact ⟨rfl, rfl⟩
  · have hm : ¬ n < 1 := by omega
    go_enter Tryd.func69, Tryd.ntmps69
    go_wp2
    go_ret2
    exact ⟨rfl, rfl⟩
theorem info64 : (Tryd.prog.info? 46).map (fun i => (i.zero, i.size, i.bytes)) = some (some (.int .u64 0), 1, 8) := by kernel_rfl
theorem made_one (z : Value) (hz : z.cells = #[z]) (n : Nat) : madeCells z.cells n = (List.replicate n z).toArray := by
  rw [hz, ← toList_madeCells_one z n]
theorem words_new (n : Nat) (h1 : 1 ≤ n) : Words (List.replicate n false) (List.replicate ((n + 63) / 64) 0) := by
  refine ⟨by simp, fun i => ?_, fun x hx => ?_⟩
  · have e1 : (List.replicate ((n + 63) / 64) 0).getD (i / 64) 0 = 0 := by simp [List.getD, List.getElem?_replicate]; split <;> rfl
    have e2 : (List.replicate n false).getD i false = false := by simp [List.getD, List.getElem?_replicate]; split <;> rfl
    rw [e1, e2]; simp
  · rw [(List.mem_replicate.1 hx).2]; decide
def NewPost (n : Nat) (w : World) (e : Ending) (w' : World) : Prop := e = .returned (.tuple #[.pointer (some ⟨w.heap.size + 1, 0, none⟩), .int .i64 0]) ∧ MapAt w' (w.heap.size + 1) w.heap.size (List.replicate n false) (List.replicate ((n + 63) / 64) 0) 122 46 ∧ Below w.heap.size w w'
theorem many_replicate (n : Nat) : many (List.replicate n false) = 0 := by unfold many; simp [List.count_replicate]
set_option maxRecDepth 100000 in
theorem new_in (n : Nat) (w : World) (h1 : 1 ≤ n) (h2 : n ≤ 1048576) : Calls Tryd.prog 69 #[.int .i64 n] w (NewPost n w) := by
  obtain ⟨i0, hi, hz0, hz1, hz2⟩ := info_parts info64
  have hk : ((n : Int) + 63) / 64 = (((n + 63) / 64 : Nat) : Int) := by omega
  have hmk : (Instr.makeSlice 42 (.int .i64 (((n : Int) + 63) / 64)) (.int .i64 (((n : Int) + 63) / 64))).run Tryd.prog w = .ok (.slice (some ⟨w.heap.size, 0, none⟩) ((n + 63) / 64) ((n + 63) / 64)) (w.alloc (.cells (List.replicate ((n + 63) / 64) (Value.int .u64 0)).toArray 46)) := by
    rw [run_make w 42 46 i0 (.int .u64 0) Tryd.underlying42 hi hz0 .i64 .i64 _ _ (by omega) (by omega) (by rw [hz2]; omega) (by omega), hz1, made_one _ rfl, Nat.mul_one]
    rw [hk, Int.toNat_natCast]
  generalize hkk : (n + 63) / 64 = k at hmk
  have HK := Lib.hid hkk
  have c1 : ¬ ((n : Int) < 1) := by omega
  have c2 : ¬ ((1048576 : Int) < n) := by omega
  have H1 := Lib.hid h1
  have H2 := Lib.hid h2
  clear hi hz0 hz1 hz2 hk hkk h1 h2
  go_enter Tryd.func69, Tryd.ntmps69
  go_wp2
  go_ret2
  have hkk := HK.out
  subst hkk
  have h1 := H1.out
  have h2 := H2.out
  have hw := words_new n h1
  have hm0 := many_replicate n
  have hl0 : (List.replicate n false).length = n := List.length_replicate
  have hl1 : (List.replicate ((n + 63) / 64) 0).length = (n + 63) / 64 := List.length_replicate
  have hmap : ((List.replicate ((n + 63) / 64) 0).map fun x => Value.int .u64 (x : Nat)) = List.replicate ((n + 63) / 64) (Value.int .u64 0) := by rw [List.map_replicate]; rfl
  refine ⟨rfl, ⟨Nat.succ_ne_self _, by rw [hl0]; exact h1, by rw [hl0]; exact h2, hw, ?_, ?_⟩, (below1 w _).on (below1 _ _)⟩
  · rw [hm0, hl0, hl1]
    have := heap_alloc_new (w.alloc (.cells (List.replicate ((n + 63) / 64) (Value.int .u64 0)).toArray 46)) (.cells #[.int .i64 n, .slice (some ⟨w.heap.size, 0, none⟩) ((n + 63) / 64) ((n + 63) / 64), .int .i64 0] 122)
    rw [World.size_alloc] at this
    exact this
  · rw [hmap]
    refine (Below.heap_alloc _ _ _ ?_).trans (heap_alloc_new w _)
    rw [World.size_alloc]; exact Nat.lt_succ_self _
end Go.Proofs.YtkaflgbipjppmaaDoor
