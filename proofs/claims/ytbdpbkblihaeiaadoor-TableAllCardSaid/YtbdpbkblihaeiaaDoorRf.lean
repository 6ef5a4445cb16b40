/- The document's map (turnrowref02): walks. -/
import Derived.Test.YtbdpbkblihaeiaaDoorRun
import Derived.Test.YtbdpbkblihaeiaaDoorOnes
import Derived.Maps.AppendAt
import Derived.Deep.AppendLies
import Derived.Laws.AppendOwn
import Derived.RangeFuncBox
namespace Go.Proofs.YtbdpbkblihaeiaaDoor
open Go.RowKit
set_option linter.unusedVariables false
set_option linter.unusedSimpArgs false
variable {w w' : World} {g : Nat} {bits : List Bool} {T : TypeId}
structure RefAt (w : World) (g : Nat) (bits : List Bool) (T : TypeId) : Prop where
  le : bits.length ≤ 1048576
  body : w.heap[g]? = some (.cells (bits.map Value.bool).toArray T (0, 0))
theorem infoInt : (Tryd.prog.info? 3).map (fun i => (i.zero, i.size, i.bytes)) = some (some (.int .i64 0), 1, 8) := by kernel_rfl
def intV (x : Nat) : Value := .int .i64 x
def refV (g n : Nat) : Value := .slice (some ⟨g, 0, none⟩) n n
theorem RefAt.lt (h : RefAt w g bits T) : g < w.heap.size := block_lt h.body
theorem RefAt.place (h : RefAt w g bits T) (i : Nat) (hi : i < bits.length) : w.cell? ⟨g, i, none⟩ = some (.bool (bits.getD i false)) := by
  rw [blk_cells h.body i]; simp [List.getD, hi]
theorem RefAt.mod (h : RefAt w g bits T) {S : Nat → Prop} (hm : Mod S w w') (hg : ¬ S g) : RefAt w' g bits T := ⟨h.le, hm.keeps h.body hg⟩
theorem RefAt.on (h : RefAt w g bits T) (hb : Below w.heap.size w w') : RefAt w' g bits T := h.mod (S := fun _ => False) (.of_below hb) (fun x => x)
theorem RefAt.set (h : RefAt w g bits T) (i : Nat) (on : Bool) : RefAt (w.setCell ⟨g, i, none⟩ (.bool on)) g (bits.set i on) T := by
  refine ⟨by simpa using h.le, ?_⟩
  rw [blk_set h.body i]
  simp [List.map_set]
theorem infoBool : (Tryd.prog.info? 4).map (fun i => (i.zero, i.size, i.bytes)) = some (some (.bool false), 1, 1) := by kernel_rfl
def RefNewPost (n : Nat) (w : World) (e : Ending) (w' : World) : Prop := e = .returned (refV w.heap.size n) ∧ RefAt w' w.heap.size (List.replicate n false) 4 ∧ Below w.heap.size w w'
theorem ref_new (n : Nat) (w : World) (h2 : n ≤ 1048576) : Calls Tryd.prog 50 #[.int .i64 n] w (RefNewPost n w) := by
  obtain ⟨i0, hi, hz0, hz1, hz2⟩ := info_parts infoBool
  have hmk : (Instr.makeSlice 37 (.int .i64 n) (.int .i64 n)).run Tryd.prog w = .ok (.slice (some ⟨w.heap.size, 0, none⟩) n n) (w.alloc (.cells (List.replicate n (Value.bool false)).toArray 4)) := by
    rw [run_make w 37 4 i0 (.bool false) Tryd.underlying37 hi hz0 .i64 .i64 _ _ (by omega) (by omega) (by rw [hz2]; omega) (by omega), hz1, made_one _ rfl, Nat.mul_one]
    rw [Int.toNat_natCast]
  have H2 := Lib.hid h2
  clear hi hz0 hz1 hz2 h2
  go_enter Tryd.func50, Tryd.ntmps50
  go_wp2
  go_ret
  refine ⟨rfl, ⟨by simpa using H2.out, ?_⟩, below1 w _⟩
  rw [List.map_replicate]
  exact heap_alloc_new w _
theorem ref_in (g len : Nat) (a n : Int) (w : World) (hl : len ≤ 1048576) : Calls Tryd.prog 51 #[refV g len, .int .i64 a, .int .i64 n] w fun e w' => e = .returned (.bool (decide (0 ≤ n ∧ 0 ≤ a ∧ a ≤ len ∧ n ≤ len - a))) ∧ w = w' := by
  unfold refV
  by_cases c1 : 0 ≤ n
  · by_cases c2 : 0 ≤ a
    · by_cases c3 : a ≤ len
      · by_cases c4 : n ≤ len - a
        · go_enter Tryd.func51, Tryd.ntmps51
          go_wp2
          go_ret
          exact ⟨ret_bool (by first | (simp [c1, c2, c3, c4]; done) | (simp; omega)), rfl⟩
        · go_enter Tryd.func51, Tryd.ntmps51
          go_wp2
          go_ret
          exact ⟨ret_bool (by first | (simp [c1, c2, c3, c4]; done) | (simp; omega)), rfl⟩
      · go_enter Tryd.func51, Tryd.ntmps51
        go_wp2
        go_ret
        exact ⟨ret_bool (by first | (simp [c1, c2, c3]; done) | (simp; omega)), rfl⟩
    · go_enter Tryd.func51, Tryd.ntmps51
      go_wp2
      go_ret
      exact ⟨ret_bool (by first | (simp [c1, c2]; done) | (simp; omega)), rfl⟩
  · go_enter Tryd.func51, Tryd.ntmps51
    go_wp2
    go_ret
    exact ⟨ret_bool (by first | (simp [c1]; done) | (simp; omega)), rfl⟩
def RefTurned (w : World) (g : Nat) (bits : List Bool) (T : TypeId) (w' : World) : Prop := RefAt w' g bits T ∧ Mod (fun k => k = g) w w'
theorem ref_fill (h : RefAt w g bits T) (a n : Nat) (on : Bool) (ha : a + n ≤ bits.length) : Calls Tryd.prog 52 #[refV g bits.length, .int .i64 a, .int .i64 n, .bool on] w fun e w' => e = .returned (.tuple #[]) ∧ RefTurned w g (fillL bits a on n) T w' := by
  unfold refV
  have hle := h.le
  have H := Lib.hid h
  clear h
  go_enter Tryd.func52, Tryd.ntmps52
  go_wp2
  go_loopw [8] (fun v8 wr => ∃ k : Nat, k ≤ n ∧ v8 = .int .i64 k ∧ Hid (RefTurned w g (fillL bits a on k) T wr)) (fun v8 _ => n - (intOf v8).toNat)
  case atStart => exact ⟨0, by omega, rfl, Lib.hid ⟨H.out, Mod.refl _ _⟩⟩
  case round =>
    obtain ⟨k, hk, rfl, HT⟩ := hrel
    by_cases hlt : k < n
    · have hp := HT.out.1.place (a + k) (by rw [fillL_length]; omega)
      have hf := blk_thaw HT.out.1.body (a + k)
      go_wp2
      go_roundw
      case rel =>
        refine ⟨k + 1, by omega, by go_num, Lib.hid ⟨HT.out.1.set (a + k) on, HT.out.2.trans (Mod.setCell _ _ _ _ rfl)⟩⟩
      case measure => simp [intOf]; omega
    · obtain rfl : k = n := by omega
      go_wp2
      go_end0
      exact ⟨rfl, HT.out⟩
theorem ref_first (h : RefAt w g bits T) (a : Int) : Calls Tryd.prog 26 #[refV g bits.length, .int .i64 a] w (FirstPost bits a.toNat w) := by
  unfold refV
  have hle := h.le
  have H := Lib.hid h
  clear h
  go_enter Tryd.func26, Tryd.ntmps26
  go_wp2
  go_loopw [6] (fun v6 wr => ∃ k : Nat, k ≤ bits.length ∧ v6 = .int .i64 k ∧ wr = w ∧ Hid (seek false bits a.toNat = seek false bits (max a.toNat k))) (fun v6 _ => bits.length - (intOf v6).toNat)
  case atStart => exact ⟨0, by omega, rfl, rfl, Lib.hid (by simp)⟩
  case round =>
    obtain ⟨k, hk, rfl, rfl, HT⟩ := hrel
    by_cases hlt : k < bits.length
    · have hp := H.out.place k hlt
      by_cases hka : a ≤ k
      · cases hb : bits.getD k false with
        | false =>
          rw [hb] at hp
          have HR : Hid (seek false bits a.toNat = k) := Lib.hid (HT.out.trans (by rw [show max a.toNat k = k by omega]; exact seek_hit hlt hb))
          clear hb
          go_wp2
          go_ret2
          exact firstPost HR.out hlt
        | true =>
          rw [hb] at hp
          have HR := Lib.hid (HT.out.trans (show seek false bits (max a.toNat k) = seek false bits (max a.toNat (k + 1)) by rw [show max a.toNat k = k by omega, show max a.toNat (k + 1) = k + 1 by omega]; exact seek_step (by rw [hb]; decide)))
          clear hb
          go_wp2
          go_roundw
          case rel => exact ⟨k + 1, by omega, by go_num, trivial, HR⟩
          case measure => simp [intOf]; omega
      · have HR := Lib.hid (HT.out.trans (show seek false bits (max a.toNat k) = seek false bits (max a.toNat (k + 1)) by rw [show max a.toNat k = max a.toNat (k + 1) by omega]))
        go_wp2
        go_roundw
        case rel => exact ⟨k + 1, by omega, by go_num, trivial, HR⟩
        case measure => simp [intOf]; omega
    · obtain rfl : k = bits.length := by omega
      have HR : Hid (seek false bits a.toNat = bits.length) := Lib.hid (HT.out.trans (seek_end (by omega)))
      go_wp2
      go_ret2
      exact firstPost0 HR.out
/-- How many places off end just ahead of i. -/
def RowAt (bits : List Bool) (n i row : Nat) : Prop := row ≤ i ∧ row < n ∧ (∀ j, i - row ≤ j → j < i → bits.getD j false = false) ∧ runL n bits 0 = runL n bits (i - row)
theorem rowAt_off {n i row : Nat} (h : RowAt bits n i row) (hi : i < bits.length) (hb : bits.getD i false = false) : (∀ j, i - row ≤ j → j < i + 1 → bits.getD j false = false) := fun j h1 h2 => by
  rcases Nat.lt_or_ge j i with g | g
  · exact h.2.2.1 j h1 g
  · rw [show j = i by omega]; exact hb
theorem rowAt_hit {n i row : Nat} (h : RowAt bits n i row) (hi : i < bits.length) (hb : bits.getD i false = false) (hr : row + 1 = n) : runL n bits 0 = (i - row, true) := by
  have h1 := h.1
  refine h.2.2.2.trans (run_hit ⟨by omega, fun j g1 g2 => rowAt_off h hi hb j g1 (by omega)⟩)
theorem rowAt_go {n i row : Nat} (h : RowAt bits n i row) (hi : i < bits.length) (hb : bits.getD i false = false) (hr : row + 1 ≠ n) : RowAt bits n (i + 1) (row + 1) := by
  have h1 := h.1; have h2 := h.2.1
  refine ⟨by omega, by omega, fun j g1 g2 => rowAt_off h hi hb j (by omega) g2, ?_⟩
  rw [show i + 1 - (row + 1) = i - row by omega]; exact h.2.2.2
theorem rowAt_on {n i row : Nat} (h : RowAt bits n i row) (hi : i < bits.length) (hb : bits.getD i false = true) : RowAt bits n (i + 1) 0 := by
  have h1 := h.1; have h2 := h.2.1
  refine ⟨by omega, by omega, fun j g1 g2 => by omega, ?_⟩
  refine h.2.2.2.trans (run_to (by omega) fun j g1 g2 g => ?_)
  have := g.2 i (by omega) (by omega)
  rw [hb] at this; cases this
theorem rowAt_end {n row : Nat} (h : RowAt bits n bits.length row) : runL n bits 0 = (0, false) := by
  have h1 := h.1; have h2 := h.2.1
  exact h.2.2.2.trans (run_none (by omega))
theorem ref_few (m : Value) (n : Int) (hn : n < 1) (w : World) : Calls Tryd.prog 27 #[m, .int .i64 n] w fun e w' => e = .returned (.tuple #[.int .i64 0, .bool false]) ∧ w = w' := by
  go_enter Tryd.func27, Tryd.ntmps27
  go_wp2
  go_ret2
  exact ⟨rfl, rfl⟩
theorem ref_run (h : RefAt w g bits T) (n : Nat) (hn : 1 ≤ n) : Calls Tryd.prog 27 #[refV g bits.length, .int .i64 n] w (RunPost bits n w) := by
  unfold refV
  have hle := h.le
  have H := Lib.hid h
  have c1 : ¬ ((n : Int) < 1) := by omega
  have HN := Lib.hid hn
  clear h hn
  go_enter Tryd.func27, Tryd.ntmps27
  go_wp2
  go_loopw [6, 7] (fun v6 v7 wr => ∃ row k : Nat, k ≤ bits.length ∧ row ≤ 1048576 ∧ v6 = .int .i64 row ∧ v7 = .int .i64 k ∧ wr = w ∧ Hid (RowAt bits n k row)) (fun _ v7 _ => bits.length - (intOf v7).toNat)
  case atStart => exact ⟨0, 0, by omega, by omega, rfl, rfl, rfl, Lib.hid ⟨by omega, HN.out, fun j g1 g2 => by omega, rfl⟩⟩
  case round =>
    obtain ⟨row, k, hk, hrow, rfl, rfl, rfl, HT⟩ := hrel
    by_cases hlt : k < bits.length
    · have hp := H.out.place k hlt
      have hrk := HT.out.1
      cases hb : bits.getD k false with
      | false =>
        rw [hb] at hp
        by_cases hr : row + 1 = n
        · have HR := Lib.hid (rowAt_hit HT.out hlt hb hr)
          have c2 : ((row : Int) + 1 == (n : Int)) = true := by rw [← hr]; simp
          have hn2 : n ≤ 1048577 := by omega
          have HR2 := Lib.hid hr
          clear hb hr
          go_wp2
          go_ret2
          have hr := HR2.out
          have HP := runPost (w := wr) HR.out
          rw [show ((k - row : Nat) : Int) = (k : Int) - n + 1 by omega] at HP
          exact HP
        · have HR := Lib.hid (rowAt_go HT.out hlt hb hr)
          have c2 : ((row : Int) + 1 == (n : Int)) = false := by simp; omega
          clear hb hr
          go_wp2
          go_roundw
          case rel => exact ⟨row + 1, k + 1, by omega, by omega, by go_num, by go_num, trivial, HR⟩
          case measure => simp [intOf]; omega
      | true =>
        rw [hb] at hp
        have HR := Lib.hid (rowAt_on HT.out hlt hb)
        have c2 : ((0 : Int) == (n : Int)) = false := by have := HN.out; simp; omega
        clear hb
        go_wp2
        go_roundw
        case rel => exact ⟨0, k + 1, by omega, by omega, by go_num, by go_num, trivial, HR⟩
        case measure => simp [intOf]; omega
    · obtain rfl : k = bits.length := by omega
      have HR := Lib.hid (rowAt_end HT.out)
      go_wp2
      go_ret2
      exact runPost HR.out
theorem onesTo_off {k : Nat} (h : bits.getD k false = false) : onesTo bits (k + 1) = onesTo bits k := by rw [onesTo_succ, h]; rfl
/-- What All leaves: a slice of its own. -/
def AllPost (l : List Nat) (w : World) (e : Ending) (W' : World) : Prop := ∃ v, e = .returned v ∧ W'.ownsRow w.heap.size 3 1 v l.length (l.map intV) ∧ (v = .slice none 0 0 ↔ l = []) ∧ Below w.heap.size w W'
set_option maxRecDepth 100000 in
theorem ref_all (h : RefAt w g bits T) : Calls Tryd.prog 28 #[refV g bits.length] w (AllPost (ones bits) w) := by
  obtain ⟨i0, hi, hz0, hz1, hz2⟩ := info_parts infoInt
  unfold refV
  have hle := h.le
  have H := Lib.hid h
  have hlt0 := h.lt
  clear h
  go_enter Tryd.func28, Tryd.ntmps28
  go_wp2
  go_loopw [3, 4] (fun v3 v4 wr => ∃ k : Nat, k ≤ bits.length ∧ v4 = .int .i64 k ∧ Below w.heap.size w wr ∧ wr.ownsRow w.heap.size 3 1 v3 (onesTo bits k).length ((onesTo bits k).map intV) ∧ (v3 = .slice none 0 0 ↔ onesTo bits k = [])) (fun _ v4 _ => bits.length - (intOf v4).toNat)
  case atStart => exact ⟨0, by omega, rfl, Below.refl _ _, World.ownsRow_nil _ _ _ _, by simp [onesTo]⟩
  case round =>
    obtain ⟨k, hk, rfl, hB, hrow, hnil⟩ := hrel
    have hbs := hB.size
    by_cases hlt : k < bits.length
    · have hp := (H.out.on hB).place k hlt
      cases hb : bits.getD k false with
      | false =>
        rw [hb] at hp
        have HR := Lib.hid (onesTo_off hb)
        clear hb
        go_wp2
        go_roundw
        case rel => exact ⟨k + 1, by omega, by go_num, hB, by rw [HR.out]; exact hrow, by rw [HR.out]; exact hnil⟩
        case measure => simp [intOf]; omega
      | true =>
        rw [hb] at hp
        have HR := Lib.hid (onesTo_on hb)
        have hol := onesTo_le (bits := bits) k
        have hml : (onesTo bits k).length + 1 ≤ maxLen := by unfold maxLen; omega
        clear hb
        go_wp2_with (at_builtin; go_loud (refine wpList_append_own _ rfl _ _ 31 rfl w.heap.size 3 i0 (.int .i64 0) 1 8 Tryd.underlying31 hi hz0 hz1 hz2 rfl (by decide) _ _ _ rfl (hrow.alloc _) ⟨wr.heap.size, 0, none⟩ 1 1 [.int .i64 (k : Nat)] rfl rfl (World.news_of_block (cs := #[.int .i64 (k : Nat)]) (t := 3) (fr := (0, 0)) (heap_alloc_new wr _)) (by simp [Value.oneCell']) (by omega) (by omega) (by simp; omega) ?_); intro v' w5 hown' hgrow _)
        have B5 : Below w.heap.size w w5 := (hB.alloc hB.size _).grown hgrow (by simp; omega) (fun k e => (hrow.lt k e).1)
        have HO2 := Lib.hid (show w5.ownsRow w.heap.size 3 1 v' (onesTo bits (k + 1)).length ((onesTo bits (k + 1)).map intV) by rw [HR.out]; simpa [intV] using hown')
        have HNE := Lib.hid (show v' = .slice none 0 0 ↔ onesTo bits (k + 1) = [] by
          obtain ⟨g', cap', rfl⟩ := ownsRow_succ hown'
          rw [HR.out]; simp)
        clear hown' hgrow
        go_roundw
        case rel => exact ⟨k + 1, by omega, by go_num, B5, HO2.out, HNE.out⟩
        case measure => simp [intOf]; omega
    · obtain rfl : k = bits.length := by omega
      go_wp2
      go_ret
      exact ⟨_, rfl, hrow, hnil, hB⟩
end Go.Proofs.YtbdpbkblihaeiaaDoor
