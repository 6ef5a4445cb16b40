/- Two spaces on a store: walks. -/
import Derived.Test.YtkaflgbipjppmaaDoorCh
namespace Go.Proofs.YtkaflgbipjppmaaDoor
open Go.RowKit
set_option linter.unusedVariables false
set_option linter.unusedSimpArgs false
variable {w w' : World} {B Wb Ob p q size Pb bd at_ end_ : Nat} {W W' own own' : List Int} {v : Value} {parts : List (Nat × Nat)} {ow : Int}
theorem results_tmp_cell {fn : Func} {p u : Tmp} {ty : TypeId} (h : fn.results = #[.tmp u, .cell p ty]) (tmps : Array Value) (P : Program) (w : World) :
    (results fn tmps).run P w = ((asAddr (tmps.getD p undef)).run P w).andThen fun a w₁ => ((loadVar ty a).run P w₁).andThen fun v w₂ => .ok (.tuple #[tmps.getD u undef, v]) w₂ := by
  simp only [results, h]
  simp [Sem.run_bind, Result.andThen]
/-- A store and two spaces on it. -/
structure TwoAt (w : World) (B Wb Ob p q : Nat) (W : List Int) (size : Nat) (own : List Int) (bd P0 P1 : Nat) (v0 v1 : Value) (l0 l1 : List (Nat × Nat)) (a0 e0 a1 e1 : Nat) : Prop where
  st : StoreAt w B Wb Ob p q W size own
  s0 : SpaceAt w P0 B bd 1 v0 l0 a0 e0
  s1 : SpaceAt w P1 B bd 2 v1 l1 a1 e1
  ne : P0 ≠ P1
  far : ∀ k, v0.ownBlock = some k → v1.ownBlock ≠ some k
def MadePost (c n bd : Nat) (w : World) (e : Ending) (w' : World) : Prop := ∃ B Wb Ob p q P0 P1, e = .returned (.tuple #[.pointer (some ⟨B, 0, none⟩), .agg #[.pointer (some ⟨P0, 0, none⟩), .pointer (some ⟨P1, 0, none⟩)]]) ∧
  TwoAt w' B Wb Ob p q (List.replicate (c * n) 0) n (List.replicate c 0) bd P0 P1 (.slice none 0 0) (.slice none 0 0) [] [] 0 0 0 0 ∧ Below w.heap.size w w' ∧ Fresh3 w.heap.size B Wb Ob p q ∧ w.heap.size ≤ P0 ∧ w.heap.size ≤ P1
set_option maxRecDepth 100000 in
set_option maxHeartbeats 1000000 in
theorem made9 (c n bd : Nat) (w : World) (hc1 : 1 ≤ c) (hc2 : c ≤ 1024) (hn1 : 1 ≤ n) (hn2 : n ≤ 1024) : Calls Tryd.prog 16 #[.int .i64 c, .int .i64 n] w (MadePost c n bd w) := by
  have hb0 := below1 w (.cells #[.pointer none, .pointer none] 25)
  have hbk := heap_alloc_new w (.cells #[.pointer none, .pointer none] 25)
  have hz0 : (w.alloc (.cells #[.pointer none, .pointer none] 25)).heap.size = w.heap.size + 1 := World.size_alloc _ _
  have HN := Lib.hid (new_in3 c n (w.alloc (.cells #[.pointer none, .pointer none] 25)) hc1 hc2 hn1 hn2)
  go_enter Tryd.func16, Tryd.ntmps16
  go_wp2_with fail
  refine HN.out.mono ?_
  rintro e w1 ⟨B, Wb, Ob, p, q, rfl, hS, hb1, hF⟩
  have HS1 := Lib.hid hS
  have HB1 := Lib.hid hb1
  have HF := Lib.hid hF
  have z1 := hb1.size
  clear hS hb1 hF HN
  go_wp2_with fail
  refine (space_new B bd 1 w1 (by decide)).mono ?_
  rintro e w2 ⟨rfl, hP, hb2⟩
  have HP := Lib.hid hP
  have HB2 := Lib.hid hb2
  have z2 := hb2.size
  have z22 := block_lt hP.head
  clear hP hb2
  go_wp2_with fail
  refine (space_new B bd 2 w2 (by decide)).mono ?_
  rintro e w3 ⟨rfl, hQ, hb3⟩
  have hblk := (hb3.block _ (by omega)).trans ((HB2.out.block _ (by omega)).trans ((HB1.out.block _ (by omega)).trans hbk))
  have q0 := (blk_cells hblk 0).trans rfl
  have q1 := (blk_cells hblk 1).trans rfl
  have t0 := blk_thaw hblk 0
  have t1 := blk_thaw hblk 1
  have HBL := Lib.hid hblk
  have HQ := Lib.hid hQ
  have HB3 := Lib.hid hb3
  clear hblk hQ hb3 hbk
  go_wp2
  have hX0 := blk_set (blk_set HBL.out 0 (.pointer (some ⟨w1.heap.size, 0, none⟩))) 1 (.pointer (some ⟨w2.heap.size, 0, none⟩))
  have x0 := (blk_cells hX0 0).trans rfl
  have x1 := (blk_cells hX0 1).trans rfl
  have hm : Mod (fun k => k = w.heap.size) w3 ((w3.setCell ⟨w.heap.size, 0, none⟩ (.pointer (some ⟨w1.heap.size, 0, none⟩))).setCell ⟨w.heap.size, 1, none⟩ (.pointer (some ⟨w2.heap.size, 0, none⟩))) := (Mod.setCell (fun k => k = w.heap.size) w3 ⟨w.heap.size, 0, none⟩ _ rfl).trans (Mod.setCell (fun k => k = w.heap.size) _ ⟨w.heap.size, 1, none⟩ _ rfl)
  have hb3 : Below w.heap.size w w3 := ((hb0.on HB1.out).on HB2.out).on HB3.out
  refine bodyPost_ret (v := .tuple #[.pointer (some ⟨B, 0, none⟩), .agg #[.pointer (some ⟨w1.heap.size, 0, none⟩), .pointer (some ⟨w2.heap.size, 0, none⟩)]]) ?_ rfl ⟨B, Wb, Ob, p, q, w1.heap.size, w2.heap.size, rfl, ⟨((HS1.out.on HB2.out).on HB3.out).mod hm (fun k hk e => by have := HF.out k hk; omega), (HP.out.on HB3.out).mod hm (fun e => by omega) (fun k e => by cases e), HQ.out.mod hm (fun e => by omega) (fun k e => by cases e), by omega, fun k e => by cases e⟩, (hb3.setCell (p := ⟨w.heap.size, 0, none⟩) (Nat.le_refl _) _).setCell (p := ⟨w.heap.size, 1, none⟩) (Nat.le_refl _) _, fun k hk => by have := HF.out k hk; omega, by omega, by omega⟩
  rw [results_tmp_cell rfl]
  go_simp
  try rfl
end Go.Proofs.YtkaflgbipjppmaaDoor
