/- TableAll: a walk. -/
import Derived.Test.YtbdpbkblihaeiaaDoorMk
import Derived.Test.YtbdpbkblihaeiaaDoorRz
import Derived.Stop.RegionWithIn
namespace Go.Proofs.YtbdpbkblihaeiaaDoor
open Go.RowKit Go.Shelf
set_option linter.unusedVariables false
set_option linter.unusedSimpArgs false
attribute [local go_sem] Oper.semAt_some
variable {w w' X X' base : World} {B S p q bd : Nat} {l : List Slot} {v : Value} {told : List (Int × Int)}
theorem lookup_tok {F : Fence} {nF : Nat} {w : World} {ops : Array Oper} {rest : List Oper} {o : Oper} {a : Act} {Q : Exit → Act → World → Prop}
    (hg : o.guard = none) (m x : Operand) (hop : o.op = Op.lookup 73 m x false) (b n : Nat) (xs : List (Int × Int)) (hxs : ∀ x ∈ xs, TokIn x)
    (hm : a.eval m = .map (some b)) (hown : w.ownsMap Tryd.prog 57 (plainElem (H := Unit) Tryd.prog 3) b n (DK xs)) (y : Int × Int) (hy : TokIn y) (hx : a.eval x = tokV y.1 y.2)
    (d : Int) (hd : (if y ∈ xs then 1 else 0) = d)
    (hK : wpListIn F nF Tryd.prog ops Q rest (a.put o.dst (.int .i64 d)) w) : wpListIn F nF Tryd.prog ops Q (o :: rest) a w :=
  wpListIn_lookup_own_int w hg m x 73 hop 57 3 .i64 mk_key Tryd.underlying73 Tryd.underlying3 (by kernel_rfl) b n (DK xs) hm hown (tokV y.1 y.2) (tokKey y) hx (key_tok hy)
    (fun c hat _ => by
      rw [DK_at hy xs hxs, hd] at hat
      injection hat with h1
      injection h1 with h2 h3
      rw [← h3]
      exact hK)
/-- What TableAll's loop may turn. -/
def Ms (c : Nat) (k : Nat) : Prop := k = c ∨ k = c + 1 ∨ c + 4 ≤ k
theorem slice_mod {P : Nat → Prop} {α : Type} {A : Option Addr} {size : Nat} {enc : α → List Value} {d : α} {l : List α} (h : SliceOf w A size enc d l) (hm : Mod P w w') (hn : ∀ b o, A = some ⟨b, o, none⟩ → l ≠ [] → ¬ P b) : SliceOf w' A size enc d l := fun i hi => by
  obtain ⟨b, o, e, h1⟩ := h i hi
  exact ⟨b, o, e, fun j v hj => hm.cell (h1 j v hj) (hn b o e (fun e => by rw [e] at hi; exact absurd hi (Nat.not_lt_zero _)))⟩
theorem mod_of_grown {P : Nat → Prop} {b : Nat} (h : w.grownBy w' (some b)) (hb : P b) : Mod P w w' :=
  ⟨h.os, h.tape, h.output, h.size, fun k hk hn => h.block k hk (fun e => hn (by cases e; exact hb))⟩
/-- A table, the tokens that were told, and TableAll's own boxes. -/
structure AL (w X : World) (B S p q : Nat) (l : List Slot) (A2 : Option Addr) (told : List (Int × Int)) (k5 c : Nat) : Prop where
  tab : TableAt X B S p q l 107 104 88 85
  T : Tab X
  below : Below w.heap.size w X
  b4 : Boxed X w.heap.size 4 (.bool false)
  b5 : Boxed X k5 52 (.pointer (some ⟨B, 0, none⟩))
  b8 : Boxed X (c + 2) 73 (.map (some (c + 1)))
  sl : SliceOf X A2 2 tokEnc (0, 0) told
  lB : B < c
  lS : S < c
  lp : p < c
  lq : q < c
  l5 : k5 < c
  lw : w.heap.size < c
  lT : 0 < c
  lA : ∀ b o, A2 = some ⟨b, o, none⟩ → told ≠ [] → b < c
section
variable {A2 : Option Addr} {k5 c : Nat}
theorem AL.mod (h : AL w X B S p q l A2 told k5 c) (hm : Mod (Ms c) X X') : AL w X' B S p q l A2 told k5 c := by
  have hn : ∀ k, k < c → ¬ Ms c k := fun k hk e => by rcases e with e | e | e <;> omega
  have h2 : ¬ Ms c (c + 2) := fun e => by rcases e with e | e | e <;> omega
  exact { h with tab := h.tab.mod hm (hn _ h.lB) (hn _ h.lS) (hn _ h.lp) (hn _ h.lq), T := h.T.mod hm (hn _ h.lT), below := Mod.below h.below hm (fun k e => by have := h.lw; rcases e with e | e | e <;> omega) h.below.size, b4 := hm.keeps h.b4 (hn _ h.lw), b5 := hm.keeps h.b5 (hn _ h.l5), b8 := hm.keeps h.b8 h2, sl := slice_mod h.sl hm (fun b o e h1 => hn _ (h.lA b o e h1)) }
theorem AL.on (h : AL w X B S p q l A2 told k5 c) (hb : Below X.heap.size X X') : AL w X' B S p q l A2 told k5 c := h.mod (.of_below hb)
end
set_option maxRecDepth 100000 in
set_option maxHeartbeats 4000000 in
theorem tall_walk (n : Int) (A : Option Addr) (al : List Act7) (c : Nat) (hc : al.length ≤ c) (hm : al.length ≤ maxLen) (hS : SliceOf w A 9 act7Enc act70 al) (hT : Tab w) :
    Calls Tryd.prog 12 #[.int .i64 n, .slice A al.length c] w fun e w' => e = .returned (.bool true) ∧ Below w.heap.size w w' := by
  refine (callsIn_wide (n := 12)).1 ?_
  obtain ⟨N, hN⟩ := grown7_n n 8 (by decide)
  have hN8 : N ≤ 8 := by omega
  have hB0 := below1 w (.cells #[.bool false] 4)
  have bO0 := Boxed.new w 4 (.bool false)
  have h0 : 0 < w.heap.size := lt_of_cell (hT 0 (by decide))
  have HT := Lib.hid hT
  have HG := Lib.hid (grown7_in n A al c hc hm (hS.on hB0) (hT.on hB0) N hN)
  have HAL : Hid (∀ w1, Below w.heap.size w w1 → Calls Tryd.prog 31 #[] w1 fun e w' => e = .returned (.bool true) ∧ Below w1.heap.size w1 w') := Lib.hid (fun w1 hb => alive7_any (hT.below hb h0))
  have HM := Lib.hid hm
  have hmm := @run_makeMap Tryd.prog
  clear hS hT hN hm
  refine callsIn_of_wp_marks Tryd.func12 rfl trivial ?_ rfl
  simp only [Tryd.ntmps12, List.size_toArray, List.length_cons, List.length_nil, Nat.reduceAdd, Nat.reduceSub, Array.replicate_succ, Array.replicate_zero, List.push_toArray, List.append_toArray, List.nil_append, List.cons_append]
  gi_wp2_with fail
  refine ⟨trivial, (callsIn_wide.2 HG.out).mono ?_⟩
  rintro e w1 (⟨hm1, B, S, p, q, bd, sl, v, told, rfl, hS, hlen, htl, hti⟩ | ⟨hm1, rfl, hb⟩)
  case inr =>
    have bO1 : Boxed w1 w.heap.size 4 (.bool false) := (hb.block _ bO0.lt).trans bO0
    have hB1 := (hB0.on hb).on (below1 w1 (.cells #[.pointer none] 52))
    have bT := Boxed.new w1 52 (.pointer none)
    have bO2 := bO1.alloc (.cells #[.pointer none] 52)
    have hlong : decide (100 < (al.length : Int)) = true := decide_eq_true (by omega)
    clear HG hb
    gi_wp2_with (refine ⟨trivial, ?_⟩; gi_at_call 31; refine (callsIn_wide.2 (HAL.out _ hB1)).mono ?_; rintro e w2 ⟨rfl, hb2⟩; have bT2 : Boxed w2 w1.heap.size 52 (.pointer none) := (hb2.block _ bT.lt).trans bT; have cT := bT2.cell)
    have bO3 : Boxed w2 w.heap.size 4 (.bool false) := (hb2.block _ bO2.lt).trans bO2
    have hB2 := hB1.on hb2
    clear hb2 bT bO1 bO2 hB1
    gi_wp2_with (refine ⟨trivial, ?_⟩; gi_at_call 31; refine (callsIn_wide.2 (HAL.out _ hB2)).mono ?_; rintro e w3 ⟨rfl, hb3⟩; have bO4 : Boxed w3 w.heap.size 4 (.bool false) := (hb3.block _ bO3.lt).trans bO3; have c4 := bO4.cell; have f4 := bO4.frozen)
    have hB3 := hB2.on hb3
    clear hb3 hB2 bO3
    have h9 := (bO4.set (.bool true)).cell
    have hlt9 := bO4.lt
    refine ⟨.bool true, ?_, rfl, hB3.setCell (p := ⟨w.heap.size, 0, none⟩) (Nat.le_refl _) _⟩
    rw [results_cell1 rfl]
    go_simp
  case inl =>
    have HS1 := Lib.hid hS
    have HL := Lib.hid hlen
    have HTI := Lib.hid hti
    have HB1 := Lib.hid (hB0.on hS.below)
    obtain ⟨A2, c2, rfl, hc2, hS2⟩ := own_any hS.row
    have HS2 := Lib.hid hS2
    have bO1 : Boxed w1 w.heap.size 4 (.bool false) := (hS.below.block _ bO0.lt).trans bO0
    have bT := Boxed.new w1 52 (.pointer (some ⟨B, 0, none⟩))
    have hbt := below1 w1 (.cells #[.pointer (some ⟨B, 0, none⟩)] 52)
    have bO2 := bO1.alloc (.cells #[.pointer (some ⟨B, 0, none⟩)] 52)
    have hBt := HB1.out.on hbt
    clear hS hlen hti hS2 HG
    gi_wp2_with (refine ⟨trivial, ?_⟩; gi_at_call 31; refine (callsIn_wide.2 (HAL.out _ hBt)).mono ?_; rintro e w2 ⟨rfl, hb2⟩; have bT2 : Boxed w2 w1.heap.size 52 (.pointer (some ⟨B, 0, none⟩)) := (hb2.block _ bT.lt).trans bT; have cT := bT2.cell; have bT4 := ((bT2.alloc (.cells #[.int .i64 0] 3)).alloc (.map #[] 0)).alloc (.cells #[.map (some (w2.heap.size + 1))] 73); have cT4 := bT4.cell)
    have bO3 : Boxed w2 w.heap.size 4 (.bool false) := (hb2.block _ bO2.lt).trans bO2
    have hb12 := hbt.on hb2
    have hz2 := bT.lt
    have hz3 := hb2.size
    have hz4 := bO1.lt
    have hz5 : (w1.alloc (.cells #[.pointer (some ⟨B, 0, none⟩)] 52)).heap.size = w1.heap.size + 1 := World.size_alloc _ _
    clear hb2 bT bO1 bO2 hBt hbt cT cT4
    refine ⟨trivial, (tall_in _ _ _).mono ?_⟩
    rintro e w' ⟨rfl, rfl⟩
    have hb3 := ((below1 w2 (.cells #[.int .i64 0] 3)).on (below1 _ (.map #[] 0))).on (below1 _ (.cells #[.map (some (w2.heap.size + 1))] 73))
    have b7 := ((Boxed.new w2 3 (.int .i64 0)).alloc (.map #[] 0)).alloc (.cells #[.map (some (w2.heap.size + 1))] 73)
    have m0 := (World.ownsMap_made (H := Unit) (w2.alloc (.cells #[.int .i64 0] 3)) Tryd.prog 57 (plainElem Tryd.prog 3)).alloc (.cells #[.map (some (w2.heap.size + 1))] 73)
    rw [World.size_alloc] at m0
    have b8 := Boxed.new ((w2.alloc (.cells #[.int .i64 0] 3)).alloc (.map #[] 0)) 73 (.map (some (w2.heap.size + 1)))
    rw [World.size_alloc, World.size_alloc] at b8
    have bO4 := ((bO3.alloc (.cells #[.int .i64 0] 3)).alloc (.map #[] 0)).alloc (.cells #[.map (some (w2.heap.size + 1))] 73)
    have hw3 : (((w2.alloc (.cells #[.int .i64 0] 3)).alloc (.map #[] 0)).alloc (.cells #[.map (some (w2.heap.size + 1))] 73)).heap.size = w2.heap.size + 3 := by rw [World.size_alloc, World.size_alloc, World.size_alloc]
    have HA3 : Hid (AL w _ B S p q sl A2 told w1.heap.size w2.heap.size) := Lib.hid (by
      have h13 := hb12.on hb3
      have hS3 := HS1.out.on h13
      have hB3 := HB1.out.on h13
      have e1 := HS1.out.lB
      have e2 := HS1.out.lS
      have e3 := HS1.out.lp
      have e4 := HS1.out.lq
      have e5 := HS1.out.le
      refine ⟨hS3.tab, HT.out.below hB3 h0, hB3, bO4, bT4, b8, HS2.out.on h13, by omega, by omega, by omega, by omega, by omega, by omega, by omega, fun b o e h9 => ?_⟩
      obtain ⟨b', o', e', h8⟩ := HS2.out 0 (List.length_pos_iff.2 h9)
      rw [e] at e'
      cases e'
      have := lt_of_cell (h8 0 _ rfl)
      have : b < w1.heap.size := this
      omega)
    generalize ((w2.alloc (.cells #[.int .i64 0] 3)).alloc (.map #[] 0)).alloc (.cells #[.map (some (w2.heap.size + 1))] 73) = W3 at *
    clear hz2 hz3 hz4 hz5 hb12 bT2 bT4 bO3 b8 bO4 hb3 HS1 HB1 HS2 bO0
    have bN := Boxed.new W3 52 (.pointer (some ⟨B, 0, none⟩))
    have HA4 := Lib.hid (HA3.out.on (below1 W3 (.cells #[.pointer (some ⟨B, 0, none⟩)] 52)))
    replace b7 := b7.alloc (.cells #[.pointer (some ⟨B, 0, none⟩)] 52)
    replace m0 := m0.alloc (.cells #[.pointer (some ⟨B, 0, none⟩)] 52)
    have hw4 : (W3.alloc (.cells #[.pointer (some ⟨B, 0, none⟩)] 52)).heap.size = w2.heap.size + 4 := by rw [World.size_alloc, hw3]
    rw [hw3] at bN ⊢
    generalize W3.alloc (.cells #[.pointer (some ⟨B, 0, none⟩)] 52) = W4 at *
    generalize w2.heap.size = c0 at *
    clear HA3 hw3
    have HK8 := Lib.hid (keysT_in (l := sl) (by rw [HL.out]; exact hN8) HA4.out.tab.gen)
    have HLEN := Lib.hid (keysT_len (l := sl))
    have HND := Lib.hid (keysT_nodup (l := sl))
    have n1 := HA4.out.lB
    have n2 := HA4.out.lS
    have n3 := HA4.out.lp
    have n4 := HA4.out.lq
    have n5 := HA4.out.lT
    have n6 := HA4.out.l5
    have n7 := HA4.out.lw
    gi_wp2_with fail
    refine range_all2 rfl (by omega) (gf := 54) (lb := #[.pointer (some ⟨c0 + 3, 0, none⟩)]) rfl trivial (enters_of Tryd.func54 (by kernel_rfl) rfl)
      (fun k => k = c0 ∨ k = c0 + 1) (fun k e => by rcases e with e | e <;> omega)
      (tall_gives _ (by omega) (c0 + 3) _ _ bN HA4.out.tab HA4.out.T (fun k e => by rcases e with (e | e) | e <;> omega)
        (fun e => by rcases e with (e | e) | e <;> omega) (fun e => by rcases e with (e | e) | e <;> omega) (fun e => by rcases e with (e | e) | e <;> omega) (fun e => by rcases e with (e | e) | e <;> omega) (fun e => by rcases e with (e | e) | e <;> omega) (fun e => by rcases e with (e | e) | e <;> omega))
      (fun _ => rfl)
      (fun pre X => AL w X B S p q sl A2 told w1.heap.size c0 ∧ Boxed X c0 3 (.int .i64 pre.length) ∧ X.ownsMap Tryd.prog 57 (plainElem (H := Unit) Tryd.prog 3) (c0 + 1) pre.length (DK (keysT pre)))
      (fun s A C ⟨h1, h2, h3⟩ hm => ⟨h1.mod (hm.mono (fun k _ e => by have e' : W4.heap.size ≤ k := e; exact .inr (.inr (by omega)))), hm.keeps h2 (by show ¬ W4.heap.size ≤ _; omega), map_mod h3 hm (by show ¬ W4.heap.size ≤ _; omega)⟩)
      ⟨HA4.out, b7, m0⟩
      (β := Nat)
      (fun pre x b X => (AL w X B S p q sl A2 told w1.heap.size c0 ∧ Boxed X c0 3 (.int .i64 pre.length) ∧ X.ownsMap Tryd.prog 57 (plainElem (H := Unit) Tryd.prog 3) (c0 + 1) pre.length (DK (keysT pre))) ∧ W4.heap.size + 2 ≤ b ∧ X.heap[b]? = some (.cells #[.int .i64 x.1, .int .i64 x.2.1] 57 (0, 0)) ∧ X.heap[b + 1]? = some (.cells #[.int .i64 x.2.2.addr, .int .i64 x.2.2.region, .bool x.2.2.held, .bool x.2.2.pinned] 51 (0, 0)))
      (fun s x b A C ⟨⟨h1, h2, h3⟩, h4, h5, h6⟩ hm => ⟨⟨h1.mod (hm.mono (fun k _ e => by have e' : k = W4.heap.size + 1 := e; exact .inr (.inr (by omega)))), hm.keeps h2 (by show ¬ _ = W4.heap.size + 1; omega), map_mod h3 hm (by show ¬ _ = W4.heap.size + 1; omega)⟩, h4, hm.keeps h5 (by show ¬ b = W4.heap.size + 1; omega), hm.keeps h6 (by show ¬ b + 1 = W4.heap.size + 1; omega)⟩)
      ?a1 ?assign ?body ?done
    case assign =>
      intro lp pre x X K hX hi hpre hK
      unfold tokEntE tokV entV
      gi_wp2
      have e1 := (below1 X (.cells #[.int .i64 x.1, .int .i64 x.2.1] 57)).on (below1 _ (.cells #[.int .i64 x.2.2.addr, .int .i64 x.2.2.region, .bool x.2.2.held, .bool x.2.2.pinned] 51))
      have a1 := hi.1.on e1
      have a2 : Boxed _ c0 3 (.int .i64 pre.length) := (e1.block _ hi.2.1.lt).trans hi.2.1
      have a3 := (hi.2.2.alloc (.cells #[.int .i64 x.1, .int .i64 x.2.1] 57)).alloc (.cells #[.int .i64 x.2.2.addr, .int .i64 x.2.2.region, .bool x.2.2.held, .bool x.2.2.pinned] 51)
      have a5 := (Below.heap_alloc (X.alloc (.cells #[.int .i64 x.1, .int .i64 x.2.1] 57)) (.cells #[.int .i64 x.2.2.addr, .int .i64 x.2.2.region, .bool x.2.2.held, .bool x.2.2.pinned] 51) X.heap.size (by simp)).trans (heap_alloc_new X (.cells #[.int .i64 x.1, .int .i64 x.2.1] 57))
      have a6 := heap_alloc_new (X.alloc (.cells #[.int .i64 x.1, .int .i64 x.2.1] 57)) (.cells #[.int .i64 x.2.2.addr, .int .i64 x.2.2.region, .bool x.2.2.held, .bool x.2.2.pinned] 51)
      rw [World.size_alloc] at a6
      obtain ⟨b, hb⟩ : ∃ b, b = X.heap.size := ⟨_, rfl⟩
      rw [← hb] at a5 a6 ⊢
      exact hK b _ (.of_below e1) ⟨⟨a1, a2, a3⟩, by omega, a5, a6⟩
    case body =>
      rintro lp pre x b X hsz3 ⟨⟨hX, hn, hmp⟩, hb, ht, he⟩ hpre
      obtain ⟨hlast, hmem⟩ := lastI_lt hpre
      have hplen : pre.length + 1 ≤ 8 := by
        have h9 := hpre.length_le
        have h8 := HLEN.out
        unfold keysT at h8
        rw [List.length_map] at h8
        have h7 : usedN sl ≤ sl.length := List.length_filter_le _ _
        rw [HL.out] at h7
        simp at h9
        omega
      have hkx := HK8.out (x.1, x.2.1) (List.mem_map.2 ⟨x, hmem, rfl⟩)
      have hks := keysT_snoc pre x
      obtain ⟨k, hk, hu, rfl⟩ := mem_toks hmem
      have hfr : freshT sl (k : Nat) ((sl.getD k slot0).gen : Nat) = true := fresh_in hk hu rfl
      have HAT := Lib.hid (at_yes hX.tab k hk hu)
      have HGT : Hid (∀ Y, Below X.heap.size X Y → Calls Tryd.prog 32 #[.pointer (some ⟨B, 0, none⟩), tokV (k : Nat) ((sl.getD k slot0).gen : Nat)] Y fun e w' => e = .returned (.tuple #[entV (sl.getD k slot0).e, .int .i64 0]) ∧ Below Y.heap.size Y w') := Lib.hid (fun Y hY => by
        have := get_yes (hX.on hY).tab (k : Nat) ((sl.getD k slot0).gen : Nat) hfr
        rwa [Int.toNat_natCast] at this)
      generalize hgen : (sl.getD k slot0).gen = gj at *
      generalize (sl.getD k slot0).e = ej at *
      obtain ⟨ea, er, eh, ep⟩ := ej
      have hcell : ∀ Y, Below X.heap.size X Y → Y.cell? ⟨w1.heap.size, 0, none⟩ = some (.pointer (some ⟨B, 0, none⟩)) ∧ Y.cell? ⟨c0 + 2, 0, none⟩ = some (.map (some (c0 + 1))) ∧ Y.cell? ⟨b, 0, none⟩ = some (.int .i64 (k : Nat)) ∧ Y.cell? ⟨b, 1, none⟩ = some (.int .i64 (gj : Nat)) ∧ Y.cell? ⟨b + 1, 0, none⟩ = some (.int .i64 ea) ∧ Y.cell? ⟨b + 1, 1, none⟩ = some (.int .i64 er) ∧ Y.cell? ⟨b + 1, 2, none⟩ = some (.bool eh) ∧ Y.cell? ⟨b + 1, 3, none⟩ = some (.bool ep) := fun Y hY => by
        have h1 := (hX.on hY).b5.cell
        have h2 := (hX.on hY).b8.cell
        have h3 := (hY.block b (block_lt ht)).trans ht
        have h4 := (hY.block (b + 1) (block_lt he)).trans he
        exact ⟨h1, h2, (blk_cells h3 0).trans rfl, (blk_cells h3 1).trans rfl, (blk_cells h4 0).trans rfl, (blk_cells h4 1).trans rfl, (blk_cells h4 2).trans rfl, (blk_cells h4 3).trans rfl⟩
      have HC := Lib.hid hcell
      have HXX := Lib.hid hX
      have HMP := Lib.hid hmp
      have HKX := Lib.hid hkx
      have HKS := Lib.hid hks
      have HN := Lib.hid hn
      obtain ⟨q1, _, q3, _⟩ := HC.out X (Below.refl _ _)
      clear hX hmp hkx hks hn hcell ht he hlast hmem hfr hgen b7 m0 bN
      gi_wp2_with fail
      refine ⟨trivial, ((callsIn_wide.2 HAT.out).inRound lp).mono ?_⟩
      rintro e X1 ⟨rfl, hb1⟩
      have hbT := hb1.on (below1 X1 (.cells #[.int .i64 (k : Nat), .int .i64 (gj : Nat)] 57))
      obtain ⟨r1, _, r3, r4, _⟩ := HC.out _ hbT
      have HG2 := Lib.hid (HGT.out _ hbT)
      have tk := heap_alloc_new X1 (.cells #[.int .i64 (k : Nat), .int .i64 (gj : Nat)] 57)
      clear q1 q3 HAT HGT
      unfold tokV at HG2 ⊢
      gi_wp2_with fail
      refine ⟨trivial, ((callsIn_wide.2 HG2.out).inRound lp).mono ?_⟩
      rintro e X3 ⟨rfl, hb3⟩
      unfold entV
      have hb34 := hb3.on (below1 X3 (.cells #[.int .i64 ea, .int .i64 er, .bool eh, .bool ep] 51))
      have hb04 := hbT.on hb34
      obtain ⟨_, s2, s3, s4, s5, s6, s7, s8⟩ := HC.out _ hb04
      have tk4 := (hb34.block _ (block_lt tk)).trans tk
      have tk5 := heap_alloc_new X3 (.cells #[.int .i64 ea, .int .i64 er, .bool eh, .bool ep] 51)
      have u0 := (blk_cells tk4 0).trans rfl
      have u1 := (blk_cells tk4 1).trans rfl
      have v0 := (blk_cells tk5 0).trans rfl
      have v1 := (blk_cells tk5 1).trans rfl
      have v2 := (blk_cells tk5 2).trans rfl
      have v3 := (blk_cells tk5 3).trans rfl
      have M4 : (X3.alloc (.cells #[.int .i64 ea, .int .i64 er, .bool eh, .bool ep] 51)).ownsMap Tryd.prog 57 (plainElem (H := Unit) Tryd.prog 3) (c0 + 1) pre.length (DK (keysT pre)) := map_mod (S := fun _ => False) HMP.out (.of_below hb04) (fun e => e)
      have B4 : Boxed (X3.alloc (.cells #[.int .i64 ea, .int .i64 er, .bool eh, .bool ep] 51)) c0 3 (.int .i64 pre.length) := (hb04.block _ HN.out.lt).trans HN.out
      have hkey := key_tok HKX.out
      unfold tokV at hkey
      clear r1 r3 r4 HG2 tk tk4 tk5 hb34 hb3 hb1 hbT HC
      simp only [List.getElem?_toArray, List.getElem?_cons_zero, List.getElem?_cons_succ] at u0 u1 v0 v1 v2 v3
      gi_wp2_with (gi_at_mapUpdate; refine wpListIn_mapUpdate_own _ rfl _ _ _ 73 rfl 57 3 mk_key Tryd.underlying73 _ (c0 + 1) pre.length _ rfl M4 (by unfold maxLen; omega) _ _ _ rfl rfl hkey oneD [] (plainElem_int Tryd.underlying3 (by decide)) ?_; intro X5 hown5 hgrow5; have b5x : Boxed X5 c0 3 (.int .i64 pre.length) := B4.kept hgrow5 (by intro e; injection e with e; omega); have c5x := b5x.cell; have f5x := b5x.frozen)
      have hm45 : Mod (fun k => k = c0 ∨ k = c0 + 1) X (X5.setCell ⟨c0, 0, none⟩ (.int .i64 ((pre.length + 1 : Nat) : Int))) :=
        ((Mod.of_below hb04).trans (mod_of_grown hgrow5 (.inr rfl))).trans (Mod.setCell _ _ _ _ (.inl rfl))
      have hAL := HXX.out.mod (hm45.mono (fun k _ e => by rcases e with e | e; exact .inl e; exact .inr (.inl e)))
      have hbx : Boxed _ c0 3 _ := b5x.set (.int .i64 ((pre.length + 1 : Nat) : Int))
      have hmx := hown5.setCell (a := ⟨c0, 0, none⟩) (by show c0 + 1 ≠ c0; omega) (.int .i64 ((pre.length + 1 : Nat) : Int))
      rw [← DK_snoc, ← HKS.out] at hmx
      rw [show ((pre.length : Nat) : Int) + 1 = ((pre.length + 1 : Nat) : Int) by omega]
      have hln : (pre ++ [(((k : Nat) : Int), ((gj : Nat) : Int), (⟨ea, er, eh, ep⟩ : Entry))]).length = pre.length + 1 := by simp
      refine ⟨hm45, ?_⟩
      rw [hln]
      exact ⟨hAL, hbx, hmx⟩
    case done =>
      rintro X ⟨hX, hn, hmp⟩ hK hsz3
      rw [hw4] at hK hsz3 ⊢
      clear hw4
      have hlen : (toks sl).length = usedN sl := by have h8 := HLEN.out; unfold keysT at h8; rwa [List.length_map] at h8
      have hus : usedN sl ≤ 8 := by
        have h7 : usedN sl ≤ sl.length := List.length_filter_le _ _
        rw [HL.out] at h7
        omega
      rw [hlen] at hn hmp
      have hsize := DK_size (keysT (toks sl)) HND.out HK8.out
      rw [HLEN.out] at hsize
      have HSZ := Lib.hid hsize
      have HGT : Hid (∀ (y : Int × Int) Y, AL w Y B S p q sl A2 told w1.heap.size c0 → Calls Tryd.prog 32 #[.pointer (some ⟨B, 0, none⟩), tokV y.1 y.2] Y fun e w' => e = .returned (.tuple #[entV (getE sl y.1 y.2), .int .i64 (errI sl y.1 y.2)]) ∧ Below Y.heap.size Y w') := Lib.hid (fun y Y hY => by
        unfold getE errI
        cases hf : freshT sl y.1 y.2 with
        | true => exact get_yes hY.tab y.1 y.2 hf
        | false => exact get_no hY.tab y.1 y.2 hf)
      have HFR := Lib.hid (fun y => keysT_fresh (l := sl) y)
      have HU : Hid (∀ Y, AL w Y B S p q sl A2 told w1.heap.size c0 → Calls Tryd.prog 39 #[.pointer (some ⟨B, 0, none⟩)] Y fun e w' => e = .returned (.int .i64 (usedN sl : Nat)) ∧ Below Y.heap.size Y w') := Lib.hid (fun Y hY => used_any hY.tab)
      generalize usedN sl = un at *
      have HX := Lib.hid hX
      have HMP := Lib.hid hmp
      have HN := Lib.hid hn
      have HKD := Lib.hid hK
      have hTL : told.length ≤ 100 := by omega
      clear hX hmp hn hK hsize hlen b7 m0 bN HLEN HND
      gi_wp2_with fail
      gi_loopw [77] (fun v77 wr => ∃ j : Nat, j ≤ told.length ∧ v77 = .int .i64 j ∧ Hid (Below X.heap.size X wr)) (fun v77 _ => told.length - (intOf v77).toNat)
      case atStart => exact ⟨0, by omega, rfl, Lib.hid (Below.refl _ _)⟩
      case round =>
        obtain ⟨j, hj, rfl, HB⟩ := hrel
        by_cases hlt : j < told.length
        · have HXr := Lib.hid (HX.out.on HB.out)
          obtain ⟨b2, o2, rfl, e0, e1⟩ := tok_at HXr.out.sl j hlt
          have hmem : told.getD j (0, 0) ∈ told := by
            have : told.getD j (0, 0) = told[j] := by simp [List.getD, hlt]
            rw [this]; exact List.getElem_mem hlt
          have hty := HTI.out _ hmem
          generalize told.getD j (0, 0) = y at e0 e1 hty
          obtain ⟨yi, yg⟩ := y
          have bk := below1 wr (.cells #[.int .i64 yi, .int .i64 yg] 57)
          have tk := heap_alloc_new wr (.cells #[.int .i64 yi, .int .i64 yg] 57)
          have HXb := Lib.hid (HXr.out.on bk)
          have c5 := HXb.out.b5.cell
          have k0 := (blk_cells tk 0).trans rfl
          have k1 := (blk_cells tk 1).trans rfl
          have hX2 := HB.out.on bk
          obtain ⟨ee, er, d, hcall, her, hd⟩ : ∃ ee er d, Hid (Calls Tryd.prog 32 #[.pointer (some ⟨B, 0, none⟩), tokV yi yg] (wr.alloc (.cells #[.int .i64 yi, .int .i64 yg] 57)) fun e w' => e = .returned (.tuple #[entV ee, .int .i64 er]) ∧ Below (wr.alloc (.cells #[.int .i64 yi, .int .i64 yg] 57)).heap.size (wr.alloc (.cells #[.int .i64 yi, .int .i64 yg] 57)) w') ∧ (er = 0 ∧ d = 1 ∨ er = 8 ∧ d = 0) ∧ (if (yi, yg) ∈ keysT (toks sl) then 1 else 0) = (d : Int) := by
            have hG := HGT.out (yi, yg) _ HXb.out
            cases hf : freshT sl yi yg with
            | true => exact ⟨_, 0, 1, Lib.hid (by unfold errI at hG; rw [if_pos hf] at hG; exact hG), .inl ⟨rfl, rfl⟩, if_pos ((HFR.out _).2 hf)⟩
            | false => exact ⟨_, 8, 0, Lib.hid (by unfold errI at hG; rw [if_neg (by rw [hf]; decide)] at hG; exact hG), .inr ⟨rfl, rfl⟩, if_neg (fun h => by have := (HFR.out _).1 h; rw [hf] at this; cases this)⟩
          obtain ⟨ea, er', eh, ep⟩ := ee
          have HD := Lib.hid hd
          unfold tokV entV at hcall
          clear bk hd hmem
          gi_wp2_with fail
          refine ⟨trivial, (callsIn_wide.2 hcall.out).mono ?_⟩
          rintro e X1 ⟨rfl, hb1⟩
          have hb2 := hb1.on (below1 X1 (.cells #[.int .i64 ea, .int .i64 er', .bool eh, .bool ep] 51))
          have HBn := Lib.hid (hX2.on hb2)
          have c8 := (HXb.out.on hb2).b8.cell
          have tk2 := (hb2.block _ (block_lt tk)).trans tk
          have l0 := (blk_cells tk2 0).trans rfl
          have l1 := (blk_cells tk2 1).trans rfl
          have M2 : (X1.alloc (.cells #[.int .i64 ea, .int .i64 er', .bool eh, .bool ep] 51)).ownsMap Tryd.prog 57 (plainElem (H := Unit) Tryd.prog 3) (c0 + 1) un (DK (keysT (toks sl))) := map_mod (S := fun _ => False) HMP.out (.of_below HBn.out) (fun e => e)
          clear c5 k0 k1 tk tk2 hb1 hb2 hcall hX2 HXb HXr e0 e1
          simp only [List.getElem?_toArray, List.getElem?_cons_zero, List.getElem?_cons_succ] at l0 l1
          rcases her with ⟨rfl, rfl⟩ | ⟨rfl, rfl⟩
          all_goals
            gi_wp2_with (gi_at_lookup; refine lookup_tok rfl _ _ rfl (c0 + 1) un (keysT (toks sl)) HK8.out rfl M2 (yi, yg) hty rfl _ HD.out ?_)
            go_roundw
            case rel => exact ⟨j + 1, by omega, by go_num, HBn⟩
            case measure => simp [intOf]; omega
        · obtain rfl : j = told.length := by omega
          have hall : ∀ Y, Below wr.heap.size wr Y → Y.cell? ⟨c0, 0, none⟩ = some (.int .i64 (un : Nat)) ∧ Y.cell? ⟨w1.heap.size, 0, none⟩ = some (.pointer (some ⟨B, 0, none⟩)) ∧ Y.cell? ⟨c0 + 2, 0, none⟩ = some (.map (some (c0 + 1))) ∧ Y.cell? ⟨w.heap.size, 0, none⟩ = some (.bool false) ∧ Y.frozen? ⟨w.heap.size, 0, none⟩ = false ∧ (∀ ty, (Builtin.len_ #[73] ty #[.map (some (c0 + 1))]).run Tryd.prog Y = .ok (.int .i64 (un : Nat)) Y) := fun Y hY => by
            have hXY := HB.out.on hY
            have h1 := HX.out.on hXY
            have h2 : Boxed Y c0 3 (.int .i64 (un : Nat)) := (hXY.block _ HN.out.lt).trans HN.out
            have M2 : Y.ownsMap Tryd.prog 57 (plainElem (H := Unit) Tryd.prog 3) (c0 + 1) un (DK (keysT (toks sl))) := map_mod (S := fun _ => False) HMP.out (.of_below hXY) (fun e => e)
            refine ⟨h2.cell, h1.b5.cell, h1.b8.cell, h1.b4.cell, h1.b4.frozen, fun ty => ?_⟩
            rw [M2.len Tryd.underlying73 ty, HSZ.out]
          have HALL := Lib.hid hall
          have hD := HKD.out
          have HUw := Lib.hid (HU.out wr.drew (HX.out.on (Below.drew HB.out)))
          obtain ⟨c7, c5, _⟩ := HALL.out wr.drew (Below.drew (Below.refl _ _))
          clear hall
          gi_wp2_with fail
          refine wpIn_wide.2 ?_
          first
            | go_region_with (go_at_call 39; refine HUw.out.mono ?_; rintro e w6 ⟨rfl, hb6⟩; obtain ⟨d7, d5, d8, d4, d4f, dl⟩ := HALL.out w6 (Below.on (Below.drew (Below.refl _ _)) hb6))
            | fail
          all_goals
            have hBf := ((Below.on HX.out.below HB.out).on (Below.on (Below.drew (Below.refl _ _)) hb6))
            have hXY := Below.on HB.out (Below.on (Below.drew (Below.refl _ _)) hb6)
            have bO6 := (HX.out.on hXY).b4
            have hK6 := (hXY.block _ (block_lt hD)).trans hD
            clear d7 d5 d8 d4 d4f dl
            gi_wp2
            have hout := box_out (v := .bool true) bO6 hK6
            refine ⟨by simp, .inl ⟨_, _, rfl, run_takeDeferred hout.1, ?_⟩⟩
            refine ⟨.bool true, ?_, rfl, below_out hBf (Nat.le_refl _) (by omega)⟩
            rw [results_cell1 rfl]
            have h9 := hout.2
            go_simp
end Go.Proofs.YtbdpbkblihaeiaaDoor
