/- The document's store: contracts, walks. -/
import Derived.Test.YtkaflgbipjppmaaDoorCo
namespace Go.Proofs.YtkaflgbipjppmaaDoor
open Go.RowKit
set_option linter.unusedVariables false
set_option linter.unusedSimpArgs false
variable {w w' : World} {G Wg Og size : Nat} {W W' own own' : List Int}
structure RefSt (w : World) (G Wg Og : Nat) (W : List Int) (size : Nat) (own : List Int) : Prop where
  head : w.heap[G]? = some (.cells #[.slice (some ⟨Wg, 0, none⟩) W.length W.length, .int .i64 size, .slice (some ⟨Og, 0, none⟩) own.length own.length] 44 (0, 0))
  body : w.heap[Wg]? = some (.cells (W.map wordV).toArray 46 (0, 0))
  owners : w.heap[Og]? = some (.cells (own.map ownV).toArray 3 (0, 0))
  hW : W.length = own.length * size
  s1 : 1 ≤ size
  s2 : size ≤ 1024
  o1 : 1 ≤ own.length
  o2 : own.length ≤ 1024
  n1 : G ≠ Wg
  n2 : G ≠ Og
  n3 : Wg ≠ Og
def Two3 (Wg Og : Nat) (k : Nat) : Prop := k = Wg ∨ k = Og
theorem RefSt.wlen (h : RefSt w G Wg Og W size own) : W.length ≤ 1048576 := by
  rw [h.hW]
  exact Nat.le_trans (Nat.mul_le_mul h.o2 h.s2) (by decide)
theorem RefSt.mod {P : Nat → Prop} (h : RefSt w G Wg Og W size own) (hm : Mod P w w') (h1 : ¬ P G) (h2 : ¬ P Wg) (h3 : ¬ P Og) : RefSt w' G Wg Og W size own :=
  { h with head := hm.keeps h.head h1, body := hm.keeps h.body h2, owners := hm.keeps h.owners h3 }
theorem RefSt.on (h : RefSt w G Wg Og W size own) (hb : Below w.heap.size w w') : RefSt w' G Wg Og W size own := h.mod (P := fun _ => False) (.of_below hb) (fun x => x) (fun x => x) (fun x => x)
theorem RefSt.c0 (h : RefSt w G Wg Og W size own) : w.cell? ⟨G, 0, none⟩ = some (.slice (some ⟨Wg, 0, none⟩) W.length W.length) := (blk_cells h.head 0).trans rfl
theorem RefSt.c1 (h : RefSt w G Wg Og W size own) : w.cell? ⟨G, 1, none⟩ = some (.int .i64 size) := (blk_cells h.head 1).trans rfl
theorem RefSt.c2 (h : RefSt w G Wg Og W size own) : w.cell? ⟨G, 2, none⟩ = some (.slice (some ⟨Og, 0, none⟩) own.length own.length) := (blk_cells h.head 2).trans rfl
theorem RefSt.own_cell (h : RefSt w G Wg Og W size own) (i : Nat) (hi : i < own.length) : w.cell? ⟨Og, i, none⟩ = some (.int .i64 (own.getD i 0)) := by
  rw [row_cell h.owners i]
  simp [List.getD, hi, ownV]
theorem RefSt.word_cell (h : RefSt w G Wg Og W size own) (i : Nat) (hi : i < W.length) : w.cell? ⟨Wg, i, none⟩ = some (.int .u64 (W.getD i 0)) := by
  rw [row_cell h.body i]
  simp [List.getD, hi, wordV]
theorem RefSt.setO (h : RefSt w G Wg Og W size own) (c : Nat) (o : Int) : RefSt (w.setCell ⟨Og, c, none⟩ (.int .i64 o)) G Wg Og W size (own.set c o) ∧ Mod (fun k => k = Og) w (w.setCell ⟨Og, c, none⟩ (.int .i64 o)) := by
  have hm : Mod (fun k => k = Og) w (w.setCell ⟨Og, c, none⟩ (.int .i64 o)) := Mod.setCell _ _ _ _ rfl
  refine ⟨{ h with head := ?_, body := hm.keeps h.body h.n3, owners := ?_, hW := (by rw [List.length_set]; exact h.hW), o1 := (by rw [List.length_set]; exact h.o1), o2 := (by rw [List.length_set]; exact h.o2) }, hm⟩
  · rw [List.length_set]; exact hm.keeps h.head h.n2
  · rw [blk_set h.owners c (.int .i64 o)]; simp [ownV]
theorem RefSt.setW (h : RefSt w G Wg Og W size own) (a : Nat) (x : Int) : RefSt (w.setCell ⟨Wg, a, none⟩ (.int .u64 x)) G Wg Og (W.set a x) size own ∧ Mod (fun k => k = Wg) w (w.setCell ⟨Wg, a, none⟩ (.int .u64 x)) := by
  have hm : Mod (fun k => k = Wg) w (w.setCell ⟨Wg, a, none⟩ (.int .u64 x)) := Mod.setCell _ _ _ _ rfl
  refine ⟨{ h with head := ?_, body := ?_, owners := hm.keeps h.owners (fun e => h.n3 e.symm), hW := (by rw [List.length_set]; exact h.hW) }, hm⟩
  · rw [List.length_set]; exact hm.keeps h.head h.n1
  · rw [blk_set h.body a (.int .u64 x)]; simp [wordV]
theorem rin_yes (h : RefSt w G Wg Og W size own) (a n : Int) (hi : inW W.length a n) : Calls Tryd.prog 83 #[.pointer (some ⟨G, 0, none⟩), .int .i64 a, .int .i64 n] w fun e w' => e = .returned (.bool true) ∧ w = w' := by
  obtain ⟨h1, h2, h3, h4⟩ := hi
  have h0 := h.c0
  have hl := h.wlen
  clear h
  go_enter Tryd.func83, Tryd.ntmps83
  go_wp2
  go_ret
  exact ⟨rfl, rfl⟩
theorem rin_no (h : RefSt w G Wg Og W size own) (a n : Int) (hi : ¬ inW W.length a n) : Calls Tryd.prog 83 #[.pointer (some ⟨G, 0, none⟩), .int .i64 a, .int .i64 n] w fun e w' => e = .returned (.bool false) ∧ w = w' := by
  unfold inW at hi
  have h0 := h.c0
  have hl := h.wlen
  clear h
  by_cases c1 : 0 ≤ n
  · by_cases c2 : 0 ≤ a
    · by_cases c3 : a ≤ (W.length : Int)
      · have c4 : ¬ n ≤ (W.length : Int) - a := by omega
        clear hi
        go_enter Tryd.func83, Tryd.ntmps83
        go_wp2
        go_ret
        exact ⟨rfl, rfl⟩
      · clear hi
        go_enter Tryd.func83, Tryd.ntmps83
        go_wp2
        go_ret
        exact ⟨rfl, rfl⟩
    · clear hi
      go_enter Tryd.func83, Tryd.ntmps83
      go_wp2
      go_ret
      exact ⟨rfl, rfl⟩
  · clear hi
    go_enter Tryd.func83, Tryd.ntmps83
    go_wp2
    go_ret
    exact ⟨rfl, rfl⟩
theorem rchunk_out (h : RefSt w G Wg Og W size own) (c : Int) (hc : c < 0 ∨ own.length ≤ c) : Calls Tryd.prog 82 #[.pointer (some ⟨G, 0, none⟩), .int .i64 c] w fun e w' => e = .returned (.int .i64 3) ∧ w = w' := by
  have h2 := h.c2
  have hol := h.o2
  clear h
  by_cases c1 : c < 0
  · go_enter Tryd.func82, Tryd.ntmps82
    go_wp2
    go_ret
    exact ⟨rfl, rfl⟩
  · have c2 : (own.length : Int) ≤ c := by omega
    clear hc
    go_enter Tryd.func82, Tryd.ntmps82
    go_wp2
    go_ret
    exact ⟨rfl, rfl⟩
set_option maxRecDepth 100000 in
theorem rchunk_in (h : RefSt w G Wg Og W size own) (c : Nat) (hc : c < own.length) : Calls Tryd.prog 82 #[.pointer (some ⟨G, 0, none⟩), .int .i64 c] w fun e w' => e = .returned (.int .i64 (chE own c)) ∧ w = w' := by
  have h2 := h.c2
  have hcell := h.own_cell c hc
  have hol := h.o2
  have c1 : ¬ (c : Int) < 0 := by omega
  have c2 : ¬ (own.length : Int) ≤ (c : Int) := by omega
  unfold chE
  generalize own.getD c 0 = y at hcell ⊢
  clear h
  by_cases hy : y = 0
  · rw [if_pos hy]
    subst hy
    go_enter Tryd.func82, Tryd.ntmps82
    go_wp2
    go_ret
    exact ⟨rfl, rfl⟩
  · rw [if_neg hy]
    have hzb : (y == 0) = false := by simpa using hy
    clear hy
    go_enter Tryd.func82, Tryd.ntmps82
    go_wp2
    go_ret
    exact ⟨rfl, rfl⟩
theorem rat_out (h : RefSt w G Wg Og W size own) (a : Int) (ha : a < 0 ∨ W.length ≤ a) : Calls Tryd.prog 66 #[.pointer (some ⟨G, 0, none⟩), .int .i64 a] w fun e w' => e = .returned (.int .i64 3) ∧ w = w' := by
  have HC := Lib.hid (rin_no h a 1 (by unfold inW; omega))
  clear h
  go_enter Tryd.func66, Tryd.ntmps66
  go_wp2_with (go_at_call 83; refine HC.out.mono ?_; rintro e w1 ⟨rfl, rfl⟩)
  go_ret
  exact ⟨rfl, rfl⟩
set_option maxRecDepth 100000 in
set_option maxHeartbeats 400000 in
theorem rat_in (h : RefSt w G Wg Og W size own) (a : Nat) (ha : a < W.length) : Calls Tryd.prog 66 #[.pointer (some ⟨G, 0, none⟩), .int .i64 a] w fun e w' => e = .returned (.int .i64 (chE own (a / size))) ∧ w = w' := by
  have HC := Lib.hid (rin_yes h (a : Int) 1 (by unfold inW; omega))
  have hs1 := h.s1
  have hc : a / size < own.length := by
    rw [Nat.div_lt_iff_lt_mul (by omega)]
    have := h.hW
    omega
  have HCH := Lib.hid (rchunk_in h (a / size) hc)
  have h1 := h.c1
  have hl := h.wlen
  have c6 : ¬ (size : Int) = 0 := by omega
  obtain ⟨q1, hq1⟩ : ∃ q1, q1 = a / size := ⟨_, rfl⟩
  have e1 : (a : Int).tdiv (size : Int) = (q1 : Int) := by rw [Int.tdiv_eq_ediv_of_nonneg (by omega), hq1]; simp
  have e2 : (a : Int) / (size : Int) = (q1 : Int) := by rw [hq1]; simp
  have hol := h.o2
  rw [← hq1] at HCH hc ⊢
  have hqb : q1 ≤ 1024 := by omega
  clear h hq1 hc
  go_enter Tryd.func66, Tryd.ntmps66
  go_wp2_with fail
  refine HC.out.mono ?_
  rintro e w1 ⟨rfl, rfl⟩
  clear HC
  go_wp2_with fail
  refine HCH.out.mono ?_
  rintro e w1 ⟨rfl, rfl⟩
  go_wp2
  go_ret
  exact ⟨rfl, rfl⟩
theorem rrelease_out (h : RefSt w G Wg Og W size own) (c : Int) (hc : c < 0 ∨ own.length ≤ c) : Calls Tryd.prog 64 #[.pointer (some ⟨G, 0, none⟩), .int .i64 c] w fun e w' => e = .returned (.int .i64 3) ∧ w = w' := by
  have HC := Lib.hid (rchunk_out h c hc)
  clear h
  go_enter Tryd.func64, Tryd.ntmps64
  go_wp2_with (go_at_call 82; refine HC.out.mono ?_; rintro e w1 ⟨rfl, rfl⟩)
  go_ret
  exact ⟨rfl, rfl⟩
theorem rrelease_free (h : RefSt w G Wg Og W size own) (c : Nat) (hc : c < own.length) (h0 : own.getD c 0 = 0) : Calls Tryd.prog 64 #[.pointer (some ⟨G, 0, none⟩), .int .i64 c] w fun e w' => e = .returned (.int .i64 17) ∧ w = w' := by
  have HC0 := rchunk_in h c hc
  unfold chE at HC0
  rw [if_pos h0] at HC0
  have HC := Lib.hid HC0
  clear h HC0 h0
  go_enter Tryd.func64, Tryd.ntmps64
  go_wp2_with (go_at_call 82; refine HC.out.mono ?_; rintro e w1 ⟨rfl, rfl⟩)
  go_ret
  exact ⟨rfl, rfl⟩
set_option maxRecDepth 100000 in
theorem rrelease_in (h : RefSt w G Wg Og W size own) (c : Nat) (hc : c < own.length) (h0 : own.getD c 0 ≠ 0) : Calls Tryd.prog 64 #[.pointer (some ⟨G, 0, none⟩), .int .i64 c] w fun e w' => e = .returned (.int .i64 0) ∧ RefSt w' G Wg Og W size (own.set c 0) ∧ Mod (Two3 Wg Og) w w' := by
  have HC0 := rchunk_in h c hc
  unfold chE at HC0
  rw [if_neg h0] at HC0
  have HC := Lib.hid HC0
  have H := Lib.hid h
  have k2 := h.c2
  have hcell := h.own_cell c hc
  have hth := blk_thaw h.owners c
  have hol := h.o2
  generalize own.getD c 0 = y at hcell h0
  clear h HC0 h0
  go_enter Tryd.func64, Tryd.ntmps64
  go_wp2_with (go_at_call 82; refine HC.out.mono ?_; rintro e w1 ⟨rfl, rfl⟩)
  go_ret
  exact ⟨rfl, (H.out.setO c 0).1, (H.out.setO c 0).2.mono fun k _ e => .inr e⟩
theorem rgive_few (G : Nat) (c o : Int) (w : World) (ho : o < 1) : Calls Tryd.prog 65 #[.pointer (some ⟨G, 0, none⟩), .int .i64 c, .int .i64 o] w fun e w' => e = .returned (.int .i64 2) ∧ w = w' := by
  go_enter Tryd.func65, Tryd.ntmps65
  go_wp2
  go_ret
  exact ⟨rfl, rfl⟩
theorem rgive_out (h : RefSt w G Wg Og W size own) (c o : Int) (ho : 1 ≤ o) (hc : c < 0 ∨ own.length ≤ c) : Calls Tryd.prog 65 #[.pointer (some ⟨G, 0, none⟩), .int .i64 c, .int .i64 o] w fun e w' => e = .returned (.int .i64 3) ∧ w = w' := by
  have HC := Lib.hid (rchunk_out h c hc)
  have c1 : ¬ o < 1 := by omega
  clear h
  go_enter Tryd.func65, Tryd.ntmps65
  go_wp2_with (go_at_call 82; refine HC.out.mono ?_; rintro e w1 ⟨rfl, rfl⟩)
  go_ret
  exact ⟨rfl, rfl⟩
theorem rgive_free (h : RefSt w G Wg Og W size own) (c : Nat) (o : Int) (ho : 1 ≤ o) (hc : c < own.length) (h0 : own.getD c 0 = 0) : Calls Tryd.prog 65 #[.pointer (some ⟨G, 0, none⟩), .int .i64 c, .int .i64 o] w fun e w' => e = .returned (.int .i64 17) ∧ w = w' := by
  have HC0 := rchunk_in h c hc
  unfold chE at HC0
  rw [if_pos h0] at HC0
  have HC := Lib.hid HC0
  have c1 : ¬ o < 1 := by omega
  clear h HC0 h0
  go_enter Tryd.func65, Tryd.ntmps65
  go_wp2_with (go_at_call 82; refine HC.out.mono ?_; rintro e w1 ⟨rfl, rfl⟩)
  go_ret
  exact ⟨rfl, rfl⟩
set_option maxRecDepth 100000 in
theorem rgive_in (h : RefSt w G Wg Og W size own) (c : Nat) (o : Int) (ho : 1 ≤ o) (hc : c < own.length) (h0 : own.getD c 0 ≠ 0) : Calls Tryd.prog 65 #[.pointer (some ⟨G, 0, none⟩), .int .i64 c, .int .i64 o] w fun e w' => e = .returned (.int .i64 0) ∧ RefSt w' G Wg Og W size (own.set c o) ∧ Mod (Two3 Wg Og) w w' := by
  have HC0 := rchunk_in h c hc
  unfold chE at HC0
  rw [if_neg h0] at HC0
  have HC := Lib.hid HC0
  have H := Lib.hid h
  have k2 := h.c2
  have hcell := h.own_cell c hc
  have hth := blk_thaw h.owners c
  have hol := h.o2
  have c1 : ¬ o < 1 := by omega
  generalize own.getD c 0 = y at hcell h0
  clear h HC0 h0
  go_enter Tryd.func65, Tryd.ntmps65
  go_wp2_with (go_at_call 82; refine HC.out.mono ?_; rintro e w1 ⟨rfl, rfl⟩)
  go_ret
  exact ⟨rfl, (H.out.setO c o).1, (H.out.setO c o).2.mono fun k _ e => .inr e⟩
end Go.Proofs.YtkaflgbipjppmaaDoor
