/- The document's example of a space: a walk. -/
import Derived.Test.YtkaflgbipjppmaaDoorTw3
namespace Go.Proofs.YtkaflgbipjppmaaDoor
open Go.RowKit
set_option linter.unusedVariables false
set_option linter.unusedSimpArgs false
variable {base w w' : World} {B Wb Ob p q size P0 P1 : Nat} {W own : List Int} {v v0 v1 : Value}
def own9 : Nat → List Int
  | 0 => [0, 0, 0, 0, 0, 0, 0, 0, 0, 0]
  | 1 => [1, 0, 0, 0, 0, 0, 0, 0, 0, 0]
  | 2 => [1, 1, 0, 0, 0, 0, 0, 0, 0, 0]
  | 3 => [1, 1, 0, 0, 0, 0, 0, 0, 0, 0]
  | _ => [1, 1, 1, 1, 1, 0, 0, 0, 0, 0]
def parts9 : Nat → List (Nat × Nat)
  | 0 => []
  | 1 => [(0, 1)]
  | 2 => [(0, 1), (1, 1)]
  | 3 => [(0, 1), (1, 1)]
  | _ => [(0, 1), (1, 1), (2, 3)]
def at9 : Nat → Nat
  | 0 => 0
  | 1 => 3
  | 2 => 14
  | _ => 16
def end9 : Nat → Nat
  | 0 => 0
  | 1 => 8
  | _ => 16
def ask9 : List (Nat × Nat) := [(3, 0), (6, 8), (2, 14), (20, 16)]
/-- The state behind i pieces. -/
def A9 (base : World) (B Wb Ob p q P0 P1 : Nat) (i : Nat) (w : World) : Prop := ∃ W v0, TW base w B Wb Ob p q W 8 (own9 i) P0 P1 v0 (.slice none 0 0) (parts9 i) [] (at9 i) (end9 i) 0 0
/-- A box of the array of two spaces. -/
def Arr (w : World) (b P0 P1 : Nat) : Prop := w.heap[b]? = some (.cells #[.pointer (some ⟨P0, 0, none⟩), .pointer (some ⟨P1, 0, none⟩)] 25 (0, 0))
theorem obtain_on {i : Nat} (h : A9 base B Wb Ob p q P0 P1 i w) (o : Obj) : A9 base B Wb Ob p q P0 P1 i (w.alloc o) := by
  obtain ⟨W, v0, h⟩ := h
  exact ⟨W, v0, h.put o⟩
theorem A9.step {i : Nat} (h : A9 base B Wb Ob p q P0 P1 i w) (hT : Tab base) (h0 : 0 < base.heap.size) (hi : i < 4) :
    Calls Tryd.prog 18 #[.pointer (some ⟨P0, 0, none⟩), .int .i64 ((ask9.getD i (0, 0)).1 : Nat)] w fun e w' => e = .returned (.tuple #[.int .i64 ((ask9.getD i (0, 0)).2 : Nat), .int .i64 0]) ∧ A9 base B Wb Ob p q P0 P1 (i + 1) w' ∧ Keeps w w' := by
  obtain ⟨W, v0, h⟩ := h
  have hk : ∀ w', Mod (AllocS Wb Ob p q P0 v0) w w' → Keeps w w' := fun w' hm => AllocS_calm h.two.s0 h.two.st hm
  match i, hi with
  | 0, _ =>
    refine (h.run0 hT h0 3 0 (by decide) (by decide) (by decide) (runAtO_first (by decide) (by decide) (by decide) (fun j hj => by omega)) (by decide)).mono ?_
    rintro e w' ⟨rfl, ⟨v', h2⟩, hm⟩
    exact ⟨rfl, ⟨_, v', h2⟩, hk w' hm⟩
  | 1, _ =>
    refine (h.run0 hT h0 6 1 (by decide) (by decide) (by decide) (runAtO_first (by decide) (by decide) (by decide) (by decide)) (by decide)).mono ?_
    rintro e w' ⟨rfl, ⟨v', h2⟩, hm⟩
    exact ⟨rfl, ⟨_, v', h2⟩, hk w' hm⟩
  | 2, _ =>
    refine (h.room0 2 (by decide) (by decide)).mono ?_
    rintro e w' ⟨rfl, h2, hm⟩
    exact ⟨rfl, ⟨_, _, h2⟩, hk w' hm⟩
  | 3, _ =>
    refine (h.run0 hT h0 20 2 (by decide) (by decide) (by decide) (runAtO_first (by decide) (by decide) (by decide) (by decide)) (by decide)).mono ?_
    rintro e w' ⟨rfl, ⟨v', h2⟩, hm⟩
    exact ⟨rfl, ⟨_, v', h2⟩, hk w' hm⟩
set_option maxRecDepth 100000 in
set_option maxHeartbeats 2000000 in
theorem alive9_any (hT : Tab w) : Calls Tryd.prog 17 #[] w fun e w' => e = .returned (.bool true) ∧ Below w.heap.size w w' := by
  have HT := Lib.hid hT
  have h0 : 0 < w.heap.size := lt_of_cell (hT 0 (by decide))
  clear hT
  go_enter Tryd.func17, Tryd.ntmps17
  go_wp2_with fail
  refine (made9 10 8 w.heap.size w (by decide) (by decide) (by decide) (by decide)).mono ?_
  rintro e w1 ⟨B, Wb, Ob, p, q, P0, P1, rfl, h2, hb, hF, hp0, hp1⟩
  have HA : Hid (A9 w B Wb Ob p q P0 P1 0 w1) := Lib.hid ⟨_, _, h2, hb, fun k e => by rcases e with e | e | e; exact hF k e; omega; omega⟩
  have ha := heap_alloc_new w1 (.cells #[.pointer (some ⟨P0, 0, none⟩), .pointer (some ⟨P1, 0, none⟩)] 25)
  have k0 := (blk_cells ha 0).trans rfl
  have hb1 := hb.size
  clear h2 hb hF hp0 hp1
  go_wp2_with fail
  have hl := heap_alloc_new (w1.alloc (.cells #[.pointer (some ⟨P0, 0, none⟩), .pointer (some ⟨P1, 0, none⟩)] 25)) (.cells #[.int .i64 3, .int .i64 0, .int .i64 6, .int .i64 8, .int .i64 2, .int .i64 14, .int .i64 20, .int .i64 16] 57)
  have hza : (w1.alloc (.cells #[.pointer (some ⟨P0, 0, none⟩), .pointer (some ⟨P1, 0, none⟩)] 25)).heap.size = w1.heap.size + 1 := World.size_alloc _ _
  rw [hza] at hl
  have hbb := (below1 w1 (.cells #[.pointer (some ⟨P0, 0, none⟩), .pointer (some ⟨P1, 0, none⟩)] 25)).on (below1 _ (.cells #[.int .i64 3, .int .i64 0, .int .i64 6, .int .i64 8, .int .i64 2, .int .i64 14, .int .i64 20, .int .i64 16] 57))
  have HAS : Hid (A9 w B Wb Ob p q P0 P1 0 _ ∧ Arr _ w1.heap.size P0 P1) := Lib.hid ⟨(by obtain ⟨W, v0, h⟩ := HA.out; exact ⟨W, v0, h.on hbb⟩), (Below.heap_alloc _ (.cells #[.int .i64 3, .int .i64 0, .int .i64 6, .int .i64 8, .int .i64 2, .int .i64 14, .int .i64 20, .int .i64 16] 57) _ (by omega)).trans ha⟩
  have HL := Lib.hid hl
  clear ha k0 hl hbb HA
  go_loopw [20] (fun v20 wr => ∃ i : Nat, i ≤ 4 ∧ v20 = .int .i64 i ∧ Hid (A9 w B Wb Ob p q P0 P1 i wr ∧ Arr wr w1.heap.size P0 P1) ∧ Hid (wr.heap[w1.heap.size + 1]? = some (.cells #[.int .i64 3, .int .i64 0, .int .i64 6, .int .i64 8, .int .i64 2, .int .i64 14, .int .i64 20, .int .i64 16] 57 (0, 0)))) (fun v20 _ => 4 - (intOf v20).toNat)
  case atStart => exact ⟨0, by omega, rfl, HAS, HL⟩
  case round =>
    obtain ⟨i, hi, rfl, HAr, HLr⟩ := hrel
    have ka := (blk_cells HAr.out.2 0).trans rfl
    clear HAS HL
    by_cases hlt : i < 4
    · have hst := A9.step (obtain_on HAr.out.1 (.cells #[.int .i64 (ask9.getD i (0, 0)).1, .int .i64 (ask9.getD i (0, 0)).2] 57)) HT.out h0 hlt
      have HST := Lib.hid hst
      have l0 : wr.cell? ⟨w1.heap.size + 1, i * 2, none⟩ = some (.int .i64 ((ask9.getD i (0, 0)).1 : Nat)) := by
        rw [blk_cells HLr.out]
        match i, hlt with
        | 0, _ => rfl
        | 1, _ => rfl
        | 2, _ => rfl
        | 3, _ => rfl
      have l1 : wr.cell? ⟨w1.heap.size + 1, i * 2 + 1, none⟩ = some (.int .i64 ((ask9.getD i (0, 0)).2 : Nat)) := by
        rw [blk_cells HLr.out]
        match i, hlt with
        | 0, _ => rfl
        | 1, _ => rfl
        | 2, _ => rfl
        | 3, _ => rfl
      have hka : ∀ x y : Int, (wr.alloc (.cells #[.int .i64 x, .int .i64 y] 57)).heap[w1.heap.size]? = some (.cells #[.pointer (some ⟨P0, 0, none⟩), .pointer (some ⟨P1, 0, none⟩)] 25 (0, 0)) := fun x y => (Below.heap_alloc _ _ _ (block_lt HAr.out.2)).trans HAr.out.2
      have hbx := fun x y : Int => heap_alloc_new wr (.cells #[.int .i64 x, .int .i64 y] 57)
      have hLb : ∀ x y : Int, (wr.alloc (.cells #[.int .i64 x, .int .i64 y] 57)).heap[w1.heap.size + 1]? = some (.cells #[.int .i64 3, .int .i64 0, .int .i64 6, .int .i64 8, .int .i64 2, .int .i64 14, .int .i64 20, .int .i64 16] 57 (0, 0)) := fun x y => (Below.heap_alloc _ _ _ (block_lt HLr.out)).trans HLr.out
      generalize hx1 : (ask9.getD i (0, 0)).1 = x1 at *
      generalize hx2 : (ask9.getD i (0, 0)).2 = x2 at *
      have ka2 := (blk_cells (hka x1 x2) 0).trans rfl
      have b0 := (blk_cells (hbx x1 x2) 0).trans rfl
      have HKA := Lib.hid (hka x1 x2)
      have HBX := Lib.hid (hbx x1 x2)
      have HLB := Lib.hid (hLb x1 x2)
      clear hst hka hbx hLb ka hx1 hx2
      go_wp2_with fail
      refine HST.out.mono ?_
      rintro e w2 ⟨rfl, hA2, hK2⟩
      have k1 := (blk_cells (hK2.1 _ _ _ rfl HBX.out) 1).trans rfl
      have HA2 : Hid (A9 w B Wb Ob p q P0 P1 (i + 1) w2 ∧ Arr w2 w1.heap.size P0 P1) := Lib.hid ⟨hA2, hK2.1 _ _ _ rfl HKA.out⟩
      have HL2 := Lib.hid (hK2.1 _ _ _ rfl HLB.out)
      clear hA2 hK2 ka2 b0 l0 l1
      go_wp2
      go_roundw
      case rel => exact ⟨i + 1, by omega, by go_num, HA2, HL2⟩
      case measure => simp [intOf]; omega
    · obtain rfl : i = 4 := by omega
      obtain ⟨W, v0, hTW⟩ := HAr.out.1
      have HR := Lib.hid (room_any hTW.two.s0)
      have HTW := Lib.hid hTW
      clear hTW
      go_wp2_with fail
      refine HR.out.mono ?_
      rintro e w2 ⟨rfl, hb2⟩
      have H2 := Lib.hid (HTW.out.on hb2)
      have HA2 : Hid (Arr w2 w1.heap.size P0 P1) := Lib.hid ((hb2.block _ (block_lt HAr.out.2)).trans HAr.out.2)
      have ka2 := (blk_cells HA2.out 0).trans rfl
      have HBg := Lib.hid (big_any H2.out.two.s0 (by decide) 3)
      clear hb2 ka
      go_wp2_with fail
      refine HBg.out.mono ?_
      rintro e w3 ⟨rfl, hb3⟩
      rw [show bigL (parts9 4) 3 = true from rfl]
      have H3 := Lib.hid (H2.out.on hb3)
      have ka3 := (blk_cells ((hb3.block _ (block_lt HA2.out)).trans HA2.out) 0).trans rfl
      have HBg2 := Lib.hid (big_any H3.out.two.s0 (by decide) 1)
      clear hb3 ka2
      go_wp2_with fail
      refine HBg2.out.mono ?_
      rintro e w4 ⟨rfl, hb4⟩
      rw [show bigL (parts9 4) 1 = false from rfl]
      go_wp2
      go_ret
      exact ⟨rfl, (H3.out.on hb4).below⟩
end Go.Proofs.YtkaflgbipjppmaaDoor
