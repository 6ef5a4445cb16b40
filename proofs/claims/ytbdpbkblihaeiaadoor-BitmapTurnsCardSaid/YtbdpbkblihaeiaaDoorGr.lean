/- grown: a map behind acts, and the document's: a walk. -/
import Derived.Test.YtbdpbkblihaeiaaDoorAv
namespace Go.Proofs.YtbdpbkblihaeiaaDoor
open Go.RowKit
set_option linter.unusedVariables false
set_option linter.unusedSimpArgs false
variable {w w' : World} {p q : Nat} {bits : List Bool} {ws : List Nat} {T T' : TypeId}
/-- An act: Kind, A, N, On. -/
structure Act where
  kind : Int
  a : Int
  n : Int
  on : Bool
def actEnc (x : Act) : List Value := [.int .i64 x.kind, .int .i64 x.a, .int .i64 x.n, .bool x.on]
def act0 : Act := ⟨0, 0, 0, false⟩
/-- Two maps of the same places, made by the call. -/
structure Grown (base : World) (w : World) (p q g : Nat) (bits : List Bool) : Prop where
  map : ∃ ws, MapAt w p q bits ws 88 85
  ref : RefAt w g bits 4
  below : Below base.heap.size base w
  hp : base.heap.size ≤ p
  hq : base.heap.size ≤ q
  hg : base.heap.size ≤ g
  gp : g ≠ p
  gq : g ≠ q
  len : bits.length ≤ 300
theorem Grown.on {base : World} {p q g : Nat} (h : Grown base w p q g bits) (hb : Below w.heap.size w w') : Grown base w' p q g bits := by
  obtain ⟨ws, hm⟩ := h.map
  exact ⟨⟨ws, hm.on hb⟩, h.ref.on hb, h.below.on hb, h.hp, h.hq, h.hg, h.gp, h.gq, h.len⟩
theorem list_ext {l1 l2 : List Bool} (h : l1.length = l2.length) (he : ∀ i, i < l1.length → l1.getD i false = l2.getD i false) : l1 = l2 :=
  List.ext_getElem h fun i g1 g2 => by have := he i g1; simpa [List.getD, g1, g2] using this
theorem fillL_get (bits : List Bool) (a : Nat) (on : Bool) : ∀ (n i : Nat), a + n ≤ bits.length → (fillL bits a on n).getD i false = if a ≤ i ∧ i < a + n then on else bits.getD i false
  | 0, i, _ => by rw [if_neg (by omega)]; rfl
  | n + 1, i, h => by
    have ih := fillL_get bits a on n i (by omega)
    have hl := fillL_length bits a on n
    have e : (fillL bits a on (n + 1)).getD i false = if i = a + n then on else (fillL bits a on n).getD i false := by
      show ((fillL bits a on n).set (a + n) on).getD i false = _
      simp only [List.getD, List.getElem?_set, hl]
      by_cases g : a + n = i
      · rw [if_pos g, if_pos (by omega), if_pos g.symm]; simp
      · rw [if_neg g, if_neg (Ne.symm g)]
    rw [e, ih]
    by_cases g : i = a + n
    · rw [if_pos g, if_pos (by omega)]
    · rw [if_neg g]
      by_cases g2 : a ≤ i ∧ i < a + n
      · rw [if_pos g2, if_pos (by omega)]
      · rw [if_neg g2, if_neg (by omega)]
theorem fillL_twice {bits : List Bool} {a n : Nat} (on : Bool) (h : a + n ≤ bits.length) : fillL (fillL bits a on n) a on n = fillL bits a on n := by
  refine list_ext (by simp [fillL_length]) fun i _ => ?_
  rw [fillL_get _ _ _ _ _ (by rw [fillL_length]; exact h), fillL_get _ _ _ _ _ h]
  split <;> rfl
/-- In the midst of a round: the act lies in block B; the map has b's places, the document's has bits'. -/
structure MidAt (base w : World) (p q g B : Nat) (k a n : Int) (on : Bool) (bits b : List Bool) : Prop where
  map : ∃ ws, MapAt w p q b ws 88 85
  ref : RefAt w g bits 4
  below : Below base.heap.size base w
  act : w.heap[B]? = some (.cells #[.int .i64 k, .int .i64 a, .int .i64 n, .bool on] 97 (0, 0))
  hp : base.heap.size ≤ p
  hq : base.heap.size ≤ q
  hg : base.heap.size ≤ g
  hB : base.heap.size ≤ B
  gp : g ≠ p
  gq : g ≠ q
  Bp : B ≠ p
  Bq : B ≠ q
  Bg : B ≠ g
  len : bits.length ≤ 300
  same : b.length = bits.length
theorem MidAt.on {base : World} {p q g B : Nat} {k a n : Int} {on : Bool} {b : List Bool} (h : MidAt base w p q g B k a n on bits b) (hb : Below w.heap.size w w') : MidAt base w' p q g B k a n on bits b := by
  obtain ⟨ws, hm⟩ := h.map
  exact { h with map := ⟨ws, hm.on hb⟩, ref := h.ref.on hb, below := h.below.on hb, act := (hb.block B (block_lt h.act)).trans h.act }
theorem MidAt.c0 {base : World} {p q g B : Nat} {k a n : Int} {on : Bool} {b : List Bool} (h : MidAt base w p q g B k a n on bits b) : w.cell? ⟨B, 0, none⟩ = some (.int .i64 k) := (blk_cells h.act 0).trans rfl
theorem MidAt.c1 {base : World} {p q g B : Nat} {k a n : Int} {on : Bool} {b : List Bool} (h : MidAt base w p q g B k a n on bits b) : w.cell? ⟨B, 1, none⟩ = some (.int .i64 a) := (blk_cells h.act 1).trans rfl
theorem MidAt.c2 {base : World} {p q g B : Nat} {k a n : Int} {on : Bool} {b : List Bool} (h : MidAt base w p q g B k a n on bits b) : w.cell? ⟨B, 2, none⟩ = some (.int .i64 n) := (blk_cells h.act 2).trans rfl
theorem MidAt.c3 {base : World} {p q g B : Nat} {k a n : Int} {on : Bool} {b : List Bool} (h : MidAt base w p q g B k a n on bits b) : w.cell? ⟨B, 3, none⟩ = some (.bool on) := (blk_cells h.act 3).trans rfl
theorem MidAt.turned {base : World} {p q g B : Nat} {k a n : Int} {on : Bool} {b b' : List Bool} (h : MidAt base w p q g B k a n on bits b) (ht : Turned w p q b' 88 85 w') (hl : b'.length = b.length) : MidAt base w' p q g B k a n on bits b' := by
  have hb := ht.below h.below h.hp h.hq h.below.size
  obtain ⟨ws, hm, hmod⟩ := ht
  exact { h with map := ⟨ws, hm⟩, ref := h.ref.mod hmod (fun e => by rcases e with e | e; exact h.gp e; exact h.gq e), below := hb, act := hmod.keeps h.act (fun e => by rcases e with e | e; exact h.Bp e; exact h.Bq e), same := hl.trans h.same }
theorem MidAt.setN {base : World} {p q g B : Nat} {k a n : Int} {on : Bool} {b : List Bool} (h : MidAt base w p q g B k a n on bits b) (m : Int) : MidAt base (w.setCell ⟨B, 2, none⟩ (.int .i64 m)) p q g B k a m on bits b := by
  have hmod : Mod (fun j => j = B) w (w.setCell ⟨B, 2, none⟩ (.int .i64 m)) := Mod.setCell _ _ _ _ rfl
  obtain ⟨ws, hm⟩ := h.map
  exact { h with map := ⟨ws, hm.mod hmod (Ne.symm h.Bp) (Ne.symm h.Bq)⟩, ref := h.ref.mod hmod (Ne.symm h.Bg), below := Mod.below h.below hmod (fun j e => by rw [e]; exact h.hB) h.below.size, act := blk_set h.act 2 _ }
theorem MidAt.grown {base : World} {p q g B : Nat} {k a n : Int} {on : Bool} {b : List Bool} (h : MidAt base w p q g B k a n on bits b) (he : b = bits) : Grown base w p q g bits := by
  subst he
  exact ⟨h.map, h.ref, h.below, h.hp, h.hq, h.hg, h.gp, h.gq, h.len⟩
theorem MidAt.done {base : World} {p q g B : Nat} {k a n : Int} {on : Bool} {b : List Bool} (h : MidAt base w p q g B k a n on bits b) (ht : RefTurned w g b 4 w') : Grown base w' p q g b := by
  obtain ⟨ws, hm⟩ := h.map
  exact ⟨⟨ws, hm.mod ht.2 (Ne.symm h.gp) (Ne.symm h.gq)⟩, ht.1, Mod.below h.below ht.2 (fun j e => by rw [e]; exact h.hg) h.below.size, h.hp, h.hq, h.hg, h.gp, h.gq, by rw [h.same]; exact h.len⟩
theorem Grown.mid {base : World} {p q g : Nat} (h : Grown base w p q g bits) (k a n : Int) (on : Bool) : MidAt base (w.alloc (.cells #[.int .i64 k, .int .i64 a, .int .i64 n, .bool on] 97)) p q g w.heap.size k a n on bits bits := by
  obtain ⟨ws, hm⟩ := h.map
  have h1 := hm.plt
  have h2 := hm.qlt
  have h3 := h.ref.lt
  have hb := below1 w (.cells #[.int .i64 k, .int .i64 a, .int .i64 n, .bool on] 97)
  exact ⟨⟨ws, hm.on hb⟩, h.ref.on hb, h.below.on hb, heap_alloc_new w _, h.hp, h.hq, h.hg, h.below.size, h.gp, h.gq, by omega, by omega, by omega, h.len, rfl⟩
/-- What an act does to the places, and its code. -/
def Does (bits : List Bool) (a n : Int) (on : Bool) (b : List Bool) (c : Int) (ok : Bool) : Prop :=
  (ok = true ∧ 0 ≤ a ∧ 0 ≤ n ∧ a + n ≤ bits.length ∧ b = fillL bits a.toNat on n.toNat ∧ c = 0) ∨ (ok = false ∧ ¬ (0 ≤ n ∧ 0 ≤ a ∧ a ≤ bits.length ∧ n ≤ bits.length - a) ∧ b = bits ∧ c = 3)
def MidS (base : World) (p q g B : Nat) (k a n : Int) (on : Bool) (bits b : List Bool) (w : World) : Prop := ∃ b0, (b0 = bits ∨ b0 = b) ∧ MidAt base w p q g B k a n on bits b0
theorem mid_fill {base : World} {p q g B : Nat} {k a n m : Int} {on : Bool} {b : List Bool} {c : Int} {ok : Bool} (h : MidS base p q g B k a m on bits b w) (hd : Does bits a n on b c ok) :
    Calls Tryd.prog 21 #[.pointer (some ⟨p, 0, none⟩), .int .i64 a, .int .i64 n, .bool on] w fun e w' => e = .returned (.int .i64 c) ∧ MidAt base w' p q g B k a m on bits b := by
  obtain ⟨b0, hb0, hM⟩ := h
  obtain ⟨ws, hm⟩ := hM.map
  rcases hd with ⟨_, ha, hn, hl, rfl, rfl⟩ | ⟨_, hno, rfl, rfl⟩
  · obtain ⟨a, rfl⟩ : ∃ x : Nat, a = x := ⟨a.toNat, by omega⟩
    obtain ⟨n, rfl⟩ : ∃ x : Nat, n = x := ⟨n.toNat, by omega⟩
    simp only [Int.toNat_natCast] at *
    have hlen : a + n ≤ bits.length := by omega
    refine (fill_in hm a n on (by rw [hM.same]; exact hlen)).mono fun e w' ⟨he, ht⟩ => ⟨he, ?_⟩
    have e : fillL b0 a on n = fillL bits a on n := by
      rcases hb0 with rfl | rfl
      · rfl
      · exact fillL_twice on hlen
    rw [← e]
    exact hM.turned ht (fillL_length _ _ _ _)
  · obtain rfl : b0 = b := by rcases hb0 with h | h <;> exact h
    exact (fill_out hm a n on hno).mono fun e w' ⟨he, hw⟩ => ⟨he, hw ▸ hM⟩
theorem mid_set {base : World} {p q g B : Nat} {k a m : Int} {on : Bool} {b : List Bool} {c : Int} {ok : Bool} (h : MidS base p q g B k a m on bits b w) (hd : Does bits a 1 on b c ok) :
    Calls Tryd.prog 20 #[.pointer (some ⟨p, 0, none⟩), .int .i64 a, .bool on] w fun e w' => e = .returned (.int .i64 c) ∧ MidAt base w' p q g B k a m on bits b := by
  have HC := Lib.hid (mid_fill h hd)
  clear h hd
  go_enter Tryd.func20, Tryd.ntmps20
  go_wp2_with (go_at_call 21; refine HC.out.mono ?_; rintro e w' ⟨rfl, ht⟩; have HT := Lib.hid ht; clear ht)
  go_ret
  exact ⟨rfl, HT.out⟩
theorem does_some (bits : List Bool) (a n : Int) (on : Bool) : ∃ b c ok, Does bits a n on b c ok ∧ decide (0 ≤ n ∧ 0 ≤ a ∧ a ≤ bits.length ∧ n ≤ bits.length - a) = ok := by
  by_cases h : 0 ≤ n ∧ 0 ≤ a ∧ a ≤ bits.length ∧ n ≤ bits.length - a
  · exact ⟨_, _, _, .inl ⟨rfl, h.2.1, h.1, by omega, rfl, rfl⟩, decide_eq_true h⟩
  · exact ⟨_, _, _, .inr ⟨rfl, h, rfl, rfl⟩, decide_eq_false h⟩
end Go.Proofs.YtbdpbkblihaeiaaDoor
