/- same: does a table tell what the document's has: a walk. -/
import Derived.Test.YtbdpbkblihaeiaaDoorRy
import Derived.Test.YtbdpbkblihaeiaaDoorRq
import Derived.Test.YtbdpbkblihaeiaaDoorS6
import Derived.Shelf.RegionOpen
namespace Go.Proofs.YtbdpbkblihaeiaaDoor
open Go.RowKit Go.Shelf
set_option linter.unusedVariables false
set_option linter.unusedSimpArgs false
attribute [local go_sem] Oper.semAt_some
variable {w w' X X' base : World} {B S p q bd G : Nat} {l r : List Slot} {v : Value} {tB tS T T' : TypeId}
/-- What same keeps: both tables, its boxes. -/
structure SM (w X : World) (B S p q G : Nat) (l : List Slot) (tB tS T T' : TypeId) : Prop where
  tab : TableAt X B S p q l tB tS T T'
  ref : RefT X G (l.map refOf)
  T : Tab X
  below : Below w.heap.size w X
  b3 : Boxed X w.heap.size 80 (.slice (some ⟨G, 0, none⟩) l.length l.length)
  b4 : Boxed X (w.heap.size + 1) 4 (.bool false)
  lB : B < w.heap.size
  lS : S < w.heap.size
  lp : p < w.heap.size
  lq : q < w.heap.size
  lG : G < w.heap.size
  lT : 0 < w.heap.size
theorem SM.on (h : SM w X B S p q G l tB tS T T') (hb : Below X.heap.size X X') : SM w X' B S p q G l tB tS T T' :=
  { h with tab := h.tab.on hb, ref := h.ref.on hb, T := h.T.on hb, below := h.below.on hb, b3 := (hb.block _ h.b3.lt).trans h.b3, b4 := (hb.block _ h.b4.lt).trans h.b4 }
theorem SM.mod (h : SM w X B S p q G l tB tS T T') (hm : Mod (fun k => w.heap.size + 2 ≤ k) X X') : SM w X' B S p q G l tB tS T T' := by
  have hn : ∀ k, k < w.heap.size + 2 → ¬ (w.heap.size + 2 ≤ k) := fun k hk => by omega
  have h1 := h.lB
  have h2 := h.lS
  have h3 := h.lp
  have h4 := h.lq
  have h5 := h.lG
  have h6 := h.lT
  exact { h with tab := h.tab.mod hm (hn _ (by omega)) (hn _ (by omega)) (hn _ (by omega)) (hn _ (by omega)), ref := h.ref.mod hm (hn _ (by omega)), T := h.T.mod hm (hn _ (by omega)), below := Mod.below h.below hm (fun k e => by have e' : w.heap.size + 2 ≤ k := e; omega) h.below.size, b3 := hm.keeps h.b3 (hn _ (by omega)), b4 := hm.keeps h.b4 (hn _ (by omega)) }
theorem SM.six (h : SM w X B S p q G l tB tS T T') (j : Nat) (hj : j < l.length) (i : Nat) (u : Value) (hu : (slotV (refOf (l.getD j slot0)))[i]? = some u) : X.cell? ⟨G, j * 6 + i, none⟩ = some u :=
  h.ref.cell j (by simpa using hj) i u (by rw [refOf_get hj]; exact hu)
theorem refOf_yes {s : Slot} (h : s.used = true) : refOf s = ⟨s.gen, true, s.e⟩ := by unfold refOf; rw [h]; rfl
theorem refOf_no {s : Slot} (h : s.used = false) : refOf s = ⟨s.gen + 1, false, s.e⟩ := by unfold refOf; rw [h]; rfl
set_option maxRecDepth 100000 in
set_option maxHeartbeats 4000000 in
theorem tsame_any (h : TableAt w B S p q l tB tS T T') (hR : RefT w G (l.map refOf)) (hT : Tab w) (hgen : ∀ s ∈ l, s.gen ≤ 255) :
    Calls Tryd.prog 45 #[.pointer (some ⟨B, 0, none⟩), refT G l.length] w fun e w' => e = .returned (.bool true) ∧ Below w.heap.size w w' := by
  refine (callsIn_wide (n := 12)).1 ?_
  have hle : l.length ≤ 8 := by simpa using hR.le
  obtain ⟨hcu, hcg, hcl⟩ := counts_ref l hgen
  have HLEN := Lib.hid (used_toks l)
  have HCT : Hid (∀ X, SM w X B S p q G l tB tS T T' → Calls Tryd.prog 58 #[.slice (some ⟨G, 0, none⟩) l.length l.length] X fun e w' => e = .returned (.tuple #[.int .i64 (usedN l : Nat), .int .i64 (cL (l.map refOf) : Nat), .int .i64 (goneN l : Nat)]) ∧ X = w') := Lib.hid (fun X hX => by
    have := rcounts_any hX.ref
    rw [hcu, hcg, ← refT_map] at this
    exact this)
  have HLF : Hid (∀ X, SM w X B S p q G l tB tS T T' → Calls Tryd.prog 38 #[.pointer (some ⟨B, 0, none⟩)] X fun e w' => e = .returned (.int .i64 (cL (l.map refOf) : Nat)) ∧ Below X.heap.size X w') := Lib.hid (fun X hX => by
    have := left_any hX.tab
    rw [show (l.length : Int) - (usedN l + goneN l : Nat) = (cL (l.map refOf) : Nat) by omega] at this
    exact this)
  have HUS : Hid (∀ X, SM w X B S p q G l tB tS T T' → Calls Tryd.prog 39 #[.pointer (some ⟨B, 0, none⟩)] X fun e w' => e = .returned (.int .i64 (usedN l : Nat)) ∧ Below X.heap.size X w') := Lib.hid (fun X hX => used_any hX.tab)
  have HRE : Hid (∀ X, SM w X B S p q G l tB tS T T' → Calls Tryd.prog 37 #[.pointer (some ⟨B, 0, none⟩)] X fun e w' => e = .returned (.int .i64 (goneN l : Nat)) ∧ Below X.heap.size X w') := Lib.hid (fun X hX => retired_any hX.tab)
  have HS : Hid (SM w ((w.alloc (.cells #[.slice (some ⟨G, 0, none⟩) l.length l.length] 80)).alloc (.cells #[.bool false] 4)) B S p q G l tB tS T T') := by
    have b3 := Boxed.new w 80 (.slice (some ⟨G, 0, none⟩) l.length l.length)
    have hb1 := below1 w (.cells #[.slice (some ⟨G, 0, none⟩) l.length l.length] 80)
    have b4 := Boxed.new (w.alloc (.cells #[.slice (some ⟨G, 0, none⟩) l.length l.length] 80)) 4 (.bool false)
    rw [World.size_alloc] at b4
    have hb2 := hb1.on (below1 _ (.cells #[.bool false] 4))
    have b3' := b3.alloc (.cells #[.bool false] 4)
    obtain ⟨ws0, hm0⟩ := h.map
    exact Lib.hid ⟨h.on hb2, hR.on hb2, hT.on hb2, hb2, b3', b4, block_lt h.head, block_lt h.body, block_lt hm0.head, block_lt hm0.body, block_lt hR.body, lt_of_cell (hT 0 (by decide))⟩
  clear h hR hT
  unfold refT
  have c3 := HS.out.b3.cell
  generalize hcL : cL (l.map refOf) = lf at *
  generalize hgN : goneN l = gn at *
  generalize hW2 : (w.alloc (.cells #[.slice (some ⟨G, 0, none⟩) l.length l.length] 80)).alloc (.cells #[.bool false] 4) = W2 at *
  refine callsIn_of_wp_marks Tryd.func45 rfl trivial ?_ rfl
  simp only [Tryd.ntmps45, List.size_toArray, List.length_cons, List.length_nil, Nat.reduceAdd, Nat.reduceSub, Array.replicate_succ, Array.replicate_zero, List.push_toArray, List.append_toArray, List.nil_append, List.cons_append]
  gi_wp2_with fail
  refine ⟨trivial, (callsIn_wide.2 (HCT.out _ HS.out)).mono ?_⟩
  rintro e w1 ⟨rfl, rfl⟩
  gi_wp2_with fail
  refine ⟨trivial, (callsIn_wide.2 (HUS.out _ HS.out)).mono ?_⟩
  rintro e w3 ⟨rfl, hb⟩
  replace HS := Lib.hid (HS.out.on hb)
  clear hb hW2 c3
  gi_wp2_with fail
  refine ⟨trivial, (callsIn_wide.2 (HLF.out _ HS.out)).mono ?_⟩
  rintro e w4 ⟨rfl, hb⟩
  replace HS := Lib.hid (HS.out.on hb)
  clear hb
  gi_wp2_with fail
  refine ⟨trivial, (callsIn_wide.2 (HRE.out _ HS.out)).mono ?_⟩
  rintro e w5 ⟨rfl, hb⟩
  replace HS := Lib.hid (HS.out.on hb)
  clear hb w4 w3 W2
  have c3 := HS.out.b3.cell
  have c4 := HS.out.b4.cell
  gi_wp2
  gi_loopw [40] (fun v40 wr => ∃ j : Nat, j ≤ l.length ∧ v40 = .int .i64 j ∧ Hid (SM w wr B S p q G l tB tS T T')) (fun v40 _ => l.length - (intOf v40).toNat)
  case atStart => exact ⟨0, by omega, rfl, HS⟩
  case round =>
    obtain ⟨j, hj, rfl, HSr⟩ := hrel
    clear HS c3 c4
    by_cases hlt : j < l.length
    · cases hu : (l.getD j slot0).used with
      | true =>
        have hs := HSr.out.six j hlt
        rw [refOf_yes hu] at hs
        have HAT := Lib.hid (fun c t => at_yes (HSr.out.tab.on (below1 wr (.cells c t))) j hlt hu)
        generalize (l.getD j slot0).gen = gj at *
        generalize (l.getD j slot0).e = ej at *
        have c0 := hs 0 _ rfl
        have c1 := hs 1 _ rfl
        have c2 := hs 2 _ rfl
        have c3 := hs 3 _ rfl
        have c4 := hs 4 _ rfl
        have c5 := hs 5 _ rfl
        rw [Nat.add_zero] at c0
        clear hs
        gi_wp2_with fail
        refine ⟨trivial, (callsIn_wide.2 (HAT.out _ _)).mono ?_⟩
        rintro e X1 ⟨rfl, hb⟩
        have hblk := (hb.block _ (by simp)).trans (heap_alloc_new wr (.cells #[.int .i64 gj, .bool true, .int .i64 ej.addr, .int .i64 ej.region, .bool ej.held, .bool ej.pinned] 110))
        have hB1 := (below1 wr (.cells #[.int .i64 gj, .bool true, .int .i64 ej.addr, .int .i64 ej.region, .bool ej.held, .bool ej.pinned] 110)).on hb
        have hb2 := below1 X1 (.cells #[.int .i64 (j : Nat), .int .i64 gj] 57)
        have hblk2 := (hb2.block _ (block_lt hblk)).trans hblk
        have d0 := (blk_cells hblk2 0).trans rfl
        have d1 := (blk_cells hblk2 1).trans rfl
        have hblk3 := heap_alloc_new X1 (.cells #[.int .i64 (j : Nat), .int .i64 gj] 57)
        have d2 := (blk_cells hblk3 0).trans rfl
        have d3 := (blk_cells hblk3 1).trans rfl
        have HSn := Lib.hid (HSr.out.on (hB1.on hb2))
        clear hblk hblk2 hblk3 hb hb2 hB1 c0 c1 c2 c3 c4 c5 HAT
        unfold tokV
        gi_wp2_with fail
        generalize X1.alloc (.cells #[.int .i64 (j : Nat), .int .i64 gj] 57) = X2 at *
        gi_wp2
        go_roundw
        case rel => exact ⟨j + 1, by omega, by go_num, HSn⟩
        case measure => simp [intOf]; omega
      | false =>
        have hs := HSr.out.six j hlt
        rw [refOf_no hu] at hs
        have HAT := Lib.hid (fun c t => at_no (HSr.out.tab.on (below1 wr (.cells c t))) (j : Int) (.inr (.inr (by rw [Int.toNat_natCast]; exact hu))))
        generalize (l.getD j slot0).gen = gj at *
        generalize (l.getD j slot0).e = ej at *
        have c0 := hs 0 _ rfl
        have c1 := hs 1 _ rfl
        have c2 := hs 2 _ rfl
        have c3 := hs 3 _ rfl
        have c4 := hs 4 _ rfl
        have c5 := hs 5 _ rfl
        rw [Nat.add_zero] at c0
        clear hs
        generalize hg1 : gj + 1 = gk at *
        gi_wp2_with fail
        refine ⟨trivial, (callsIn_wide.2 (HAT.out _ _)).mono ?_⟩
        rintro e X1 ⟨rfl, hb⟩
        have hblk := (hb.block _ (by simp)).trans (heap_alloc_new wr (.cells #[.int .i64 gk, .bool false, .int .i64 ej.addr, .int .i64 ej.region, .bool ej.held, .bool ej.pinned] 110))
        have hB1 := (below1 wr (.cells #[.int .i64 gk, .bool false, .int .i64 ej.addr, .int .i64 ej.region, .bool ej.held, .bool ej.pinned] 110)).on hb
        have hb2 := below1 X1 (.cells #[.int .i64 0, .int .i64 0] 57)
        have hblk2 := (hb2.block _ (block_lt hblk)).trans hblk
        have d0 := (blk_cells hblk2 0).trans rfl
        have d1 := (blk_cells hblk2 1).trans rfl
        have hblk3 := heap_alloc_new X1 (.cells #[.int .i64 0, .int .i64 0] 57)
        have d2 := (blk_cells hblk3 0).trans rfl
        have d3 := (blk_cells hblk3 1).trans rfl
        have HSn := Lib.hid (HSr.out.on (hB1.on hb2))
        clear hblk hblk2 hblk3 hb hb2 hB1 c0 c1 c2 c3 c4 c5 HAT
        unfold tokV
        gi_wp2_with fail
        generalize X1.alloc (.cells #[.int .i64 0, .int .i64 0] 57) = X2 at *
        gi_wp2
        go_roundw
        case rel => exact ⟨j + 1, by omega, by go_num, HSn⟩
        case measure => simp [intOf]; omega
    · obtain rfl : j = l.length := by omega
      have b12 := (Boxed.new wr 3 (.int .i64 0)).alloc (.cells #[.int .i64 (-1)] 3)
      have b13 := Boxed.new (wr.alloc (.cells #[.int .i64 0] 3)) 3 (.int .i64 (-1))
      rw [World.size_alloc] at b13
      have HS1 := Lib.hid (HSr.out.on ((below1 wr (.cells #[.int .i64 0] 3)).on (below1 _ (.cells #[.int .i64 (-1)] 3))))
      have hsz := HSr.out.b4.lt
      have hz1 : ((wr.alloc (.cells #[.int .i64 0] 3)).alloc (.cells #[.int .i64 (-1)] 3)).heap.size = wr.heap.size + 2 := by rw [World.size_alloc, World.size_alloc]
      clear HSr
      gi_wp2_with fail
      refine ⟨trivial, (tall_in _ _ _).mono ?_⟩
      rintro e w' ⟨rfl, rfl⟩
      generalize (wr.alloc (.cells #[.int .i64 0] 3)).alloc (.cells #[.int .i64 (-1)] 3) = W1 at *
      have bT := Boxed.new W1 52 (.pointer (some ⟨B, 0, none⟩))
      replace b12 := b12.alloc (.cells #[.pointer (some ⟨B, 0, none⟩)] 52)
      replace b13 := b13.alloc (.cells #[.pointer (some ⟨B, 0, none⟩)] 52)
      replace HS1 := Lib.hid (HS1.out.on (below1 W1 (.cells #[.pointer (some ⟨B, 0, none⟩)] 52)))
      have hz2 : (W1.alloc (.cells #[.pointer (some ⟨B, 0, none⟩)] 52)).heap.size = wr.heap.size + 3 := by rw [World.size_alloc, hz1]
      rw [hz1] at bT ⊢
      generalize W1.alloc (.cells #[.pointer (some ⟨B, 0, none⟩)] 52) = W2 at *
      obtain ⟨ws0, hm0⟩ := HS1.out.tab.map
      have n1 := HS1.out.lB
      have n2 := HS1.out.lS
      have n3 := HS1.out.lp
      have n4 := HS1.out.lq
      have n5 := HS1.out.lT
      gi_wp2_with fail
      have HF : Hid (∀ (i g : Int) (X : World), SM w X B S p q G l tB tS T T' → Calls Tryd.prog 55 #[.slice (some ⟨G, 0, none⟩) l.length l.length, .agg #[.int .i64 i, .int .i64 g]] X fun e w' => e = .returned (.bool (freshT l i g)) ∧ Below X.heap.size X w') := Lib.hid (fun i g X hX => by
        have := rfresh_any hX.ref i g
        rw [fresh_ref, ← refT_map] at this
        exact this)
      refine range_all2 rfl (by omega) (gf := 54) (lb := #[.pointer (some ⟨wr.heap.size + 2, 0, none⟩)]) rfl trivial (enters_of Tryd.func54 (by kernel_rfl) rfl)
        (fun k => k = wr.heap.size ∨ k = wr.heap.size + 1) (fun k e => by rcases e with e | e <;> omega)
        (tall_gives _ (by omega) (wr.heap.size + 2) _ _ bT HS1.out.tab HS1.out.T (fun k e => by rcases e with (e | e) | e <;> omega)
          (fun e => by rcases e with (e | e) | e <;> omega) (fun e => by rcases e with (e | e) | e <;> omega) (fun e => by rcases e with (e | e) | e <;> omega) (fun e => by rcases e with (e | e) | e <;> omega) (fun e => by rcases e with (e | e) | e <;> omega) (fun e => by rcases e with (e | e) | e <;> omega))
        (fun _ => rfl)
        (fun pre X => SM w X B S p q G l tB tS T T' ∧ Boxed X wr.heap.size 3 (.int .i64 pre.length) ∧ Boxed X (wr.heap.size + 1) 3 (.int .i64 (lastI pre)))
        (fun s A C ⟨h1, h2, h3⟩ hm => ⟨h1.mod (hm.mono (fun k _ e => by have e' : W2.heap.size ≤ k := e; show w.heap.size + 2 ≤ k; omega)), hm.keeps h2 (by show ¬ W2.heap.size ≤ _; omega), hm.keeps h3 (by show ¬ W2.heap.size ≤ _; omega)⟩)
        ⟨HS1.out, b12, b13⟩
        (β := Nat)
        (fun pre x b X => (SM w X B S p q G l tB tS T T' ∧ Boxed X wr.heap.size 3 (.int .i64 pre.length) ∧ Boxed X (wr.heap.size + 1) 3 (.int .i64 (lastI pre))) ∧ W2.heap.size + 2 ≤ b ∧ X.heap[b]? = some (.cells #[.int .i64 x.1, .int .i64 x.2.1] 57 (0, 0)) ∧ X.heap[b + 1]? = some (.cells #[.int .i64 x.2.2.addr, .int .i64 x.2.2.region, .bool x.2.2.held, .bool x.2.2.pinned] 51 (0, 0)))
        (fun s x b A C ⟨⟨h1, h2, h3⟩, h4, h5, h6⟩ hm => ⟨⟨h1.mod (hm.mono (fun k _ e => by have e' : k = W2.heap.size + 1 := e; show w.heap.size + 2 ≤ k; omega)), hm.keeps h2 (by show ¬ _ = W2.heap.size + 1; omega), hm.keeps h3 (by show ¬ _ = W2.heap.size + 1; omega)⟩, h4, hm.keeps h5 (by show ¬ b = W2.heap.size + 1; omega), hm.keeps h6 (by show ¬ b + 1 = W2.heap.size + 1; omega)⟩)
        ?a1 ?assign ?body ?done
      case assign =>
        intro lp pre x X K hX hi hpre hK
        unfold tokEntE tokV entV
        gi_wp2
        have e1 := (below1 X (.cells #[.int .i64 x.1, .int .i64 x.2.1] 57)).on (below1 _ (.cells #[.int .i64 x.2.2.addr, .int .i64 x.2.2.region, .bool x.2.2.held, .bool x.2.2.pinned] 51))
        have a1 := hi.1.on e1
        have a2 : Boxed _ wr.heap.size 3 (.int .i64 pre.length) := (e1.block _ hi.2.1.lt).trans hi.2.1
        have a3 : Boxed _ (wr.heap.size + 1) 3 (.int .i64 (lastI pre)) := (e1.block _ hi.2.2.lt).trans hi.2.2
        have a5 := (Below.heap_alloc (X.alloc (.cells #[.int .i64 x.1, .int .i64 x.2.1] 57)) (.cells #[.int .i64 x.2.2.addr, .int .i64 x.2.2.region, .bool x.2.2.held, .bool x.2.2.pinned] 51) X.heap.size (by simp)).trans (heap_alloc_new X (.cells #[.int .i64 x.1, .int .i64 x.2.1] 57))
        have a6 := heap_alloc_new (X.alloc (.cells #[.int .i64 x.1, .int .i64 x.2.1] 57)) (.cells #[.int .i64 x.2.2.addr, .int .i64 x.2.2.region, .bool x.2.2.held, .bool x.2.2.pinned] 51)
        rw [World.size_alloc] at a6
        obtain ⟨b, hb⟩ : ∃ b, b = X.heap.size := ⟨_, rfl⟩
        rw [← hb] at a5 a6 ⊢
        exact hK b _ (.of_below e1) ⟨⟨a1, a2, a3⟩, by omega, a5, a6⟩
      case done =>
        rintro X ⟨hX, hn, hl⟩ hK hsz3
        rw [HLEN.out] at hn
        have c1 := hn.cell
        have c4 := hX.b4.cell
        have f4 := hX.b4.frozen
        rw [hz2] at hK
        gi_wp2
        have hout := box_out (v := .bool true) hX.b4 hK
        rw [← hz2] at hout
        refine ⟨by simp, .inl ⟨_, _, rfl, run_takeDeferred hout.1, ?_⟩⟩
        refine ⟨.bool true, ?_, rfl, below_out hX.below (by omega) (by omega)⟩
        rw [results_cell1 rfl]
        have h9 := hout.2
        rw [hz2] at h9
        go_simp
      case body =>
        rintro lp pre x b X hsz3 ⟨⟨hX, hn, hla⟩, hb, ht, he⟩ hpre
        obtain ⟨hlast, hmem⟩ := lastI_lt hpre
        obtain ⟨k, hk, hu, rfl⟩ := mem_toks hmem
        generalize hgen : (l.getD k slot0).gen = gj at *
        have hs := fun Y hY => (hX.on (X' := Y) hY).six k hk
        rw [refOf_yes hu, hgen] at hs
        generalize (l.getD k slot0).e = ej at *
        have hfr : freshT l (k : Nat) (gj : Nat) = true := fresh_in hk hu (by rw [hgen])
        obtain ⟨C, hC⟩ : ∃ C : World → Prop, C = fun Y => Below X.heap.size X Y := ⟨_, rfl⟩
        have hCX : C X.drew := by rw [hC]; exact below_drewN (Below.refl _ _) 1
        have c3 : ∀ Y, C Y → Y.cell? ⟨w.heap.size, 0, none⟩ = some (.slice (some ⟨G, 0, none⟩) l.length l.length) := fun Y hY => (hX.on (by rw [hC] at hY; exact hY)).b3.cell
        have ht' : ∀ Y, C Y → Y.heap[b]? = _ := fun Y hY => ((by rw [hC] at hY; exact hY : Below X.heap.size X Y).block b (block_lt ht)).trans ht
        have he' : ∀ Y, C Y → Y.heap[b + 1]? = _ := fun Y hY => ((by rw [hC] at hY; exact hY : Below X.heap.size X Y).block (b + 1) (block_lt he)).trans he
        have t0 := fun Y hY => (blk_cells (ht' Y hY) 0).trans rfl
        have t1 := fun Y hY => (blk_cells (ht' Y hY) 1).trans rfl
        have e0 := fun Y hY => (blk_cells (he' Y hY) 0).trans rfl
        have e1 := fun Y hY => (blk_cells (he' Y hY) 1).trans rfl
        have e2 := fun Y hY => (blk_cells (he' Y hY) 2).trans rfl
        have e3 := fun Y hY => (blk_cells (he' Y hY) 3).trans rfl
        have cl : ∀ Y, C Y → Y.cell? ⟨wr.heap.size + 1, 0, none⟩ = some (.int .i64 (lastI pre)) := fun Y hY => Boxed.cell (t := 3) (((by rw [hC] at hY; exact hY : Below X.heap.size X Y).block _ hla.lt).trans hla)
        have g2 := fun Y (hY : C Y) => hs Y (by rw [hC] at hY; exact hY) 2 _ rfl
        have g3 := fun Y (hY : C Y) => hs Y (by rw [hC] at hY; exact hY) 3 _ rfl
        have g4 := fun Y (hY : C Y) => hs Y (by rw [hC] at hY; exact hY) 4 _ rfl
        have g5 := fun Y (hY : C Y) => hs Y (by rw [hC] at hY; exact hY) 5 _ rfl
        have hle' : decide ((k : Int) ≤ lastI pre) = false := decide_eq_false (by have h9 : lastI pre < (k : Int) := hlast; omega)
        have HC := Lib.hid hC
        have HX := Lib.hid hX
        have HHF : Hid (∀ Y, C Y → Calls Tryd.prog 55 #[.slice (some ⟨G, 0, none⟩) l.length l.length, .agg #[.int .i64 (k : Nat), .int .i64 (gj : Nat)]] Y fun e w' => e = .returned (.bool true) ∧ C w') := Lib.hid (fun Y hY => by
          rw [hC] at hY
          refine (HF.out _ _ Y (hX.on hY)).mono ?_
          rintro e w' ⟨rfl, hb⟩
          rw [hfr, hC]
          exact ⟨rfl, Below.on hY hb⟩)
        clear hs ht' he' HUS HLF HRE HCT hC hX HF
        simp only [List.getElem?_toArray, List.getElem?_cons_zero, List.getElem?_cons_succ] at t0 t1 e0 e1 e2 e3
        gi_wp2
        refine round_quiet C (by kernel_rfl) (by kernel_rfl) (by kernel_rfl) hCX ?_
        iterate 20
          with_reducible refine wpQuiet_step ?_
          intro K hK
          go_simp
          first
            | (with_reducible refine hK _ ?_
               clear hK K)
            | (apply Exists.intro
               refine ⟨fun Y hY => ?_, hK _ ?_⟩
               have q0 := c3 Y hY
               have q1 := t0 Y hY
               have q2 := t1 Y hY
               have q3 := e0 Y hY
               have q4 := e1 Y hY
               have q5 := e2 Y hY
               have q6 := e3 Y hY
               have q7 := cl Y hY
               have q8 := g2 Y hY
               have q9 := g3 Y hY
               have r0 := g4 Y hY
               have r1 := g5 Y hY
               first
                 | (go_simp; rfl)
                 | (go_simp; exact HHF.out Y hY)
               clear hK K)
        refine wpQuiet_nil ?_
        intro Y hY
        have u0 := t0 Y hY
        have hYB : Below X.heap.size X Y := by have h9 := hY; rw [HC.out] at h9; exact h9
        have hnY : Boxed Y wr.heap.size 3 (.int .i64 (pre.length : Nat)) := (hYB.block _ hn.lt).trans hn
        have hlY : Boxed Y (wr.heap.size + 1) 3 (.int .i64 (lastI pre)) := (hYB.block _ hla.lt).trans hla
        have HY := Lib.hid (HX.out.on hYB)
        have HnY := Lib.hid hnY
        have HlY := Lib.hid hlY
        have u1 := hnY.cell
        have u2 := hnY.frozen
        have u3 := hlY.cell
        have u4 := hlY.frozen
        have n6 : ¬ b = wr.heap.size := by omega
        have n7 : ¬ wr.heap.size = b := by omega
        have n8 : ¬ b = wr.heap.size + 1 := by omega
        have n9 : ¬ wr.heap.size + 1 = b := by omega
        have HYB := Lib.hid hYB
        clear c3 t0 t1 e0 e1 e2 e3 cl g2 g3 g4 g5 hY hnY hlY HHF hCX hYB ht he HS1 b12 b13 bT
        have hmx : Tryd.prog.follows .mixedOrders = true := by kernel_rfl
        have hplen : pre.length + 1 ≤ usedN l := by
          have h9 := hpre.length_le
          rw [HLEN.out] at h9
          simpa using h9
        have hup : usedN l ≤ l.length := List.length_filter_le _ _
        have hwr : IntKind.i64.wrap ((pre.length : Nat) + 1 : Int) = ((pre.length + 1 : Nat) : Int) := by
          rw [IntKind.wrap_i64]; omega
        have HFIN : Hid (∀ Z : World, Mod (fun k => k = wr.heap.size ∨ k = wr.heap.size + 1) X Z → SM w Z B S p q G l tB tS T T' → Boxed Z wr.heap.size 3 (.int .i64 ((pre.length + 1 : Nat) : Int)) → Boxed Z (wr.heap.size + 1) 3 (.int .i64 (k : Nat)) →
            Mod (fun k => k = wr.heap.size ∨ k = wr.heap.size + 1) X Z ∧ SM w Z B S p q G l tB tS T T' ∧ Boxed Z wr.heap.size 3 (.int .i64 (((pre ++ [(((k : Nat) : Int), ((gj : Nat) : Int), ej)]).length : Nat) : Int)) ∧ Boxed Z (wr.heap.size + 1) 3 (.int .i64 (lastI (pre ++ [(((k : Nat) : Int), ((gj : Nat) : Int), ej)])))) := Lib.hid (by
          intro Z h1 h2 h3 h4
          have h9 : lastI (pre ++ [(((k : Nat) : Int), ((gj : Nat) : Int), ej)]) = ((k : Nat) : Int) := lastI_snoc _ _
          have h8 : (((pre ++ [(((k : Nat) : Int), ((gj : Nat) : Int), ej)]).length : Nat) : Int) = ((pre.length + 1 : Nat) : Int) := by simp
          rw [h9, h8]
          exact ⟨h1, h2, h3, h4⟩)
        have HALL : Hid (∀ Z : World, Mod (fun k => k = wr.heap.size ∨ k = wr.heap.size + 1) Y Z → Z.heap = ((Y.setCell ⟨wr.heap.size, 0, none⟩ (.int .i64 (IntKind.i64.wrap ((pre.length : Nat) + 1 : Int)))).setCell ⟨wr.heap.size + 1, 0, none⟩ (.int .i64 (k : Nat))).heap ∨ Z.heap = ((Y.setCell ⟨wr.heap.size + 1, 0, none⟩ (.int .i64 (k : Nat))).setCell ⟨wr.heap.size, 0, none⟩ (.int .i64 (IntKind.i64.wrap ((pre.length : Nat) + 1 : Int)))).heap →
            Mod (fun k => k = wr.heap.size ∨ k = wr.heap.size + 1) X Z ∧ SM w Z B S p q G l tB tS T T' ∧ Boxed Z wr.heap.size 3 (.int .i64 (((pre ++ [(((k : Nat) : Int), ((gj : Nat) : Int), ej)]).length : Nat) : Int)) ∧ Boxed Z (wr.heap.size + 1) 3 (.int .i64 (lastI (pre ++ [(((k : Nat) : Int), ((gj : Nat) : Int), ej)])))) := Lib.hid (by
          intro Z hm hz
          rw [hwr] at hz
          have hSZ := HY.out.mod (hm.mono (fun k _ e => by have e' : k = wr.heap.size ∨ k = wr.heap.size + 1 := e; show w.heap.size + 2 ≤ k; omega))
          refine HFIN.out Z ((Mod.of_below HYB.out).trans hm) hSZ ?_ ?_
          · show Z.heap[_]? = _
            rcases hz with hz | hz
            · rw [hz]
              exact blk_far (blk_set (w := Y) HnY.out 0 _) _ _ (by show wr.heap.size ≠ wr.heap.size + 1; omega)
            · rw [hz]
              exact blk_set (blk_far (w := Y) HnY.out _ _ (by show wr.heap.size ≠ wr.heap.size + 1; omega)) 0 _
          · show Z.heap[_]? = _
            rcases hz with hz | hz
            · rw [hz]
              exact blk_set (blk_far (w := Y) HlY.out _ _ (by show wr.heap.size + 1 ≠ wr.heap.size; omega)) 0 _
            · rw [hz]
              exact blk_far (blk_set (w := Y) HlY.out 0 _) _ _ (by show wr.heap.size + 1 ≠ wr.heap.size; omega))
        clear hwr HFIN
        gi_wp2
        gi_region_o
        all_goals gi_wp2
        all_goals
          refine HALL.out _ ?_ ?_
          · exact ⟨rfl, rfl, rfl, by simp [World.setCell, World.drew], fun k hk hn => (Below.heap_setCell _ _ _ _ (fun e => hn (by show k = wr.heap.size ∨ k = wr.heap.size + 1; first | exact .inl e | exact .inr e))).trans (Below.heap_setCell _ _ _ _ (fun e => hn (by show k = wr.heap.size ∨ k = wr.heap.size + 1; first | exact .inl e | exact .inr e)))⟩
          · first | exact .inl rfl | exact .inr rfl
end Go.Proofs.YtbdpbkblihaeiaaDoor
