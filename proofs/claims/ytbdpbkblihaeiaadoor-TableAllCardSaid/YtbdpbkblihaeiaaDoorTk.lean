/- The iterator of a table, told by what a round may turn: a walk. -/
import Derived.Test.YtbdpbkblihaeiaaDoorTj
import Derived.Test.YtbdpbkblihaeiaaDoorRs
namespace Go.Proofs.YtbdpbkblihaeiaaDoor
open Go.RowKit Go.Shelf
set_option linter.unusedVariables false
set_option linter.unusedSimpArgs false
attribute [local go_sem] Oper.semAt_some
variable {w : World} {B S p q : Nat} {l : List Slot} {tB tS T T' : TypeId}
def tokOf (l : List Slot) (i : Nat) : Option (Int × Int × Entry) := if (l.getD i slot0).used then some ((i : Nat), ((l.getD i slot0).gen : Nat), (l.getD i slot0).e) else none
def toksTo (l : List Slot) (is : List Nat) : List (Int × Int × Entry) := is.filterMap (tokOf l)
/-- What All hands out. -/
def toks (l : List Slot) : List (Int × Int × Entry) := toksTo l (ones (l.map taken))
theorem toksTo_snoc (is : List Nat) (i : Nat) : toksTo l (is ++ [i]) = toksTo l is ++ (tokOf l i).toList := by
  unfold toksTo
  rw [List.filterMap_append]
  cases h : tokOf l i <;> simp [h]
theorem toks_prefix {is : List Nat} {i : Nat} (h : (is ++ [i]) <+: ones (l.map taken)) (hu : (l.getD i slot0).used = true) : toksTo l is ++ [(((i : Nat) : Int), (((l.getD i slot0).gen : Nat) : Int), (l.getD i slot0).e)] <+: toks l := by
  obtain ⟨r, hr⟩ := h
  refine ⟨toksTo l r, ?_⟩
  unfold toks
  rw [← hr]
  have h1 : toksTo l (is ++ [i] ++ r) = toksTo l (is ++ [i]) ++ toksTo l r := by unfold toksTo; rw [List.filterMap_append]
  have h2 : tokOf l i = some (((i : Nat) : Int), (((l.getD i slot0).gen : Nat) : Int), (l.getD i slot0).e) := by unfold tokOf; rw [if_pos hu]
  rw [h1, toksTo_snoc, h2, Option.toList_some]
theorem ones_lt {is : List Nat} {i : Nat} (h : (is ++ [i]) <+: ones (l.map taken)) : i < l.length := by
  have hm : i ∈ ones (l.map taken) := h.subset (by simp)
  have := (List.mem_filter.1 (show i ∈ onesTo (l.map taken) (l.map taken).length from hm)).1
  simpa using this
theorem yield_wide {m : Nat} (m' : Nat) {P : Program} {l : Nat} {args : Array Value} {W : World} {R : Ending → World → Prop} (h : YieldAt Fence.wide m P l args W R) : YieldAt Fence.wide m' P l args W R := by
  obtain ⟨fn, tmps, assign, body, hy, h1, h2⟩ := h
  exact ⟨fn, tmps, assign, body, hy, h1, fun c cs _ => h2 c cs (room_wide _)⟩
set_option maxRecDepth 100000 in
set_option maxHeartbeats 2000000 in
theorem tall_gives (n : Nat) (hn : 6 ≤ n) (Bn c : Nat) (D : Nat → Prop) (hBn : Boxed w Bn 52 (.pointer (some ⟨B, 0, none⟩))) (h : TableAt w B S p q l tB tS T T') (hT : Tab w)
    (hc : ∀ k, D k → k < c) (hDB : ¬ D B) (hDS : ¬ D S) (hDp : ¬ D p) (hDq : ¬ D q) (hDg : ¬ D 0) (hDn : ¬ D Bn) :
    Gives Fence.wide n Tryd.prog 54 #[.pointer (some ⟨Bn, 0, none⟩)] tokEntE D (toks l) c w := by
  intro lo J W hW hcW hJ hY hJ0
  have hBn : Boxed W Bn 52 (.pointer (some ⟨B, 0, none⟩)) := (hW.block Bn hBn.lt).trans hBn
  have h := h.on hW
  have hT := hT.on hW
  have hlt0 := lt_of_cell (hT 0 (by decide))
  clear hW
  have bY := Boxed.new W 108 (.func (.yield lo) #[] #[])
  have hb1 := below1 W (.cells #[.func (.yield lo) #[] #[]] 108)
  have h1 := h.on hb1
  have hT1 := hT.on hb1
  have bN1 : Boxed _ Bn 52 (.pointer (some ⟨B, 0, none⟩)) := hBn.alloc (.cells #[.func (.yield lo) #[] #[]] 108)
  have cN := bN1.cell
  have cp := h1.bits
  have hsz1 : (W.alloc (.cells #[.func (.yield lo) #[] #[]] 108)).heap.size = W.heap.size + 1 := World.size_alloc _ _
  refine callsIn_of_wp_marks Tryd.func54 rfl trivial ?_ rfl
  simp only [Tryd.ntmps54, List.size_toArray, List.length_cons, List.length_nil, Nat.reduceAdd, Nat.reduceSub, Array.replicate_succ, Array.replicate_zero, List.push_toArray, List.append_toArray, List.nil_append, List.cons_append]
  have hBlt := block_lt h.head
  have hSlt := block_lt h.body
  obtain ⟨ws0, hm0⟩ := h.map
  have hplt := block_lt hm0.head
  have hqlt := block_lt hm0.body
  have hNlt := hBn.lt
  gi_wp2_with fail
  refine ⟨trivial, fun _ => by omega, (all_in _ _ _).mono ?_⟩
  rintro e w' ⟨rfl, rfl⟩
  generalize hW1 : W.alloc (.cells #[.func (.yield lo) #[] #[]] 108) = W1 at *
  have hb2 := below1 W1 (.cells #[.pointer (some ⟨p, 0, none⟩)] 22)
  have bM2 := Boxed.new W1 22 (.pointer (some ⟨p, 0, none⟩))
  have bY2 := bY.alloc (.cells #[.pointer (some ⟨p, 0, none⟩)] 22)
  have bN2 := bN1.alloc (.cells #[.pointer (some ⟨p, 0, none⟩)] 22)
  have h2 := h1.on hb2
  have hT2 := hT1.on hb2
  have hsz2 : (W1.alloc (.cells #[.pointer (some ⟨p, 0, none⟩)] 22)).heap.size = W.heap.size + 2 := by rw [World.size_alloc]; omega
  have hBW := hb1.on hb2
  rw [hsz1] at bM2
  generalize hW2 : W1.alloc (.cells #[.pointer (some ⟨p, 0, none⟩)] 22) = W2 at *
  rw [hsz1]
  obtain ⟨ws, hm2⟩ := h2.map
  clear hW1 hW2 cN cp hb1 hb2 bY bN1 h1 hT1 hm0 ws0 h hT hBn
  gi_wp2_with fail
  refine range_all1 rfl (by omega) (gf := 59) (lb := #[.pointer (some ⟨W.heap.size + 1, 0, none⟩)]) rfl trivial (enters_of Tryd.func59 (by kernel_rfl) rfl)
    D (fun k e => by have := hc k e; omega)
    (ball_gives (n - 1) (by omega) (W.heap.size + 1) _ _ bM2 hm2 hT2 (fun e => e.elim hDp (fun e => by omega)) (fun e => e.elim hDq (fun e => by omega)) (fun e => e.elim hDg (fun e => by omega)) (fun e => e.elim (fun e => by have := hc _ e; omega) (fun e => by omega)))
    (fun _ => rfl)
    (fun s X => J (toksTo l s) X ∧ Mod (fun k => D k ∨ W2.heap.size ≤ k) W2 X)
    (fun s A B ⟨hj, hm⟩ hab => ⟨hJ _ _ _ hj (hab.mono (fun k _ e => by have e' : W2.heap.size ≤ k := e; show W.heap.size ≤ k; omega)), hm.trans (hab.mono (fun k _ e => .inr e))⟩)
    ⟨hJ _ _ _ hJ0 (.of_below hBW), Mod.refl _ _⟩
    (fun s x X => J (toksTo l s) X ∧ Mod (fun k => D k ∨ W2.heap.size ≤ k) W2 X)
    (fun s x A B ⟨hj, hm⟩ hab => ⟨hJ _ _ _ hj (hab.mono (fun k _ e => by have e' : k = W2.heap.size + 1 := e; show W.heap.size ≤ k; omega)), hm.trans (hab.mono (fun k _ e => .inr (by have e' : k = W2.heap.size + 1 := e; omega)))⟩)
    ?a1 ?assign ?body ?done
  case assign =>
    intro lp pre x X K hsz hi hpre hK
    gi_wp2
    exact hK _ (Mod.refl _ _) hi
  case done =>
    rintro X ⟨hj, hm⟩ hK hsz
    gi_wp2
    refine ⟨by simp, .inl ⟨_, _, rfl, run_takeDeferred hK, ?_⟩⟩
    refine ⟨_, results_none rfl _ _ _, ⟨_, rfl⟩, hJ _ _ _ hj (Mod.putObj _ _ _ _ (by show W.heap.size ≤ W2.heap.size; omega))⟩
  case body =>
    rintro lp pre x X hsz ⟨hj, hm⟩ hpre
    have hnl : ∀ k, k < W.heap.size → ¬ D k → ¬ (D k ∨ W2.heap.size ≤ k) := fun k h1 h2 e => e.elim h2 (fun e => by omega)
    have hX := h2.mod hm (hnl _ hBlt hDB) (hnl _ hSlt hDS) (hnl _ hplt hDp) (hnl _ hqlt hDq)
    have bYX : Boxed X W.heap.size 108 (.func (.yield lo) #[] #[]) := hm.keeps bY2 (fun e => e.elim (fun e => by have := hc _ e; omega) (fun e => by omega))
    have bNX : Boxed X Bn 52 (.pointer (some ⟨B, 0, none⟩)) := hm.keeps bN2 (hnl _ hNlt hDn)
    have hxl := ones_lt hpre
    have cN := bNX.cell
    cases hu : (l.getD x slot0).used with
    | true =>
      have HAT := Lib.hid (at_yes hX x hxl hu)
      gi_wp2_with fail
      refine ⟨trivial, fun _ => by omega, ((callsIn_wide.2 HAT.out).inRound lp).mono ?_⟩
      rintro e X1 ⟨rfl, hb⟩
      have hpp := toks_prefix hpre hu
      have hbb := hb.on (below1 X1 (.cells #[.int .i64 (x : Nat), .int .i64 ((l.getD x slot0).gen : Nat)] 57))
      have hmm : Mod (fun k => D k ∨ W2.heap.size ≤ k) X _ := .of_below hbb
      have hm2' := hm.trans hmm
      have hX2 := hX.on hbb
      have bY3 : Boxed _ W.heap.size 108 (.func (.yield lo) #[] #[]) := (hbb.block _ bYX.lt).trans bYX
      have bN3 : Boxed _ Bn 52 (.pointer (some ⟨B, 0, none⟩)) := (hbb.block _ bNX.lt).trans bNX
      have tk := heap_alloc_new X1 (.cells #[.int .i64 (x : Nat), .int .i64 ((l.getD x slot0).gen : Nat)] 57)
      have hj2 := hJ _ _ _ hj (.of_below hbb)
      have hsnoc : toksTo l (pre ++ [x]) = toksTo l pre ++ [(((x : Nat) : Int), (((l.getD x slot0).gen : Nat) : Int), (l.getD x slot0).e)] := by
        rw [toksTo_snoc]; unfold tokOf; rw [if_pos hu]; rfl
      generalize hgen : (l.getD x slot0).gen = gn at *
      generalize hent : (l.getD x slot0).e = en at *
      have c0 := hX2.cell x hxl 2 _ rfl
      have c1 := hX2.cell x hxl 3 _ rfl
      have c2 := hX2.cell x hxl 4 _ rfl
      have c3 := hX2.cell x hxl 5 _ rfl
      rw [hent] at c0 c1 c2 c3
      have cs := hX2.slots
      have cy := bY3.cell
      have cn := bN3.cell
      have k0 := (blk_cells tk 0).trans rfl
      have k1 := (blk_cells tk 1).trans rfl
      obtain ⟨fn, tmps, assign, body, hy, hR⟩ := yield_wide (n - 1 - 1 - 1) (hY (toksTo l pre) (((x : Nat) : Int), ((gn : Nat) : Int), en) (X1.alloc (.cells #[.int .i64 (x : Nat), .int .i64 (gn : Nat)] 57)).drew (hJ _ _ _ hj2 (Mod.drew (Mod.refl _ _))) hpp)
      have hmx : Tryd.prog.follows .mixedOrders = true := by kernel_rfl
      have hd : 1 ≤ n - 1 - 1 := by omega
      unfold tokEntE tokV entV at hy
      dsimp only at hy
      unfold tokV
      gi_wp2
      generalize hX2 : X1.alloc (.cells #[.int .i64 (x : Nat), .int .i64 (gn : Nat)] 57) = X2 at *
      refine round_still_tail 12 (by kernel_rfl) (by kernel_rfl) (by kernel_rfl) rfl ?_
      simp only [List.take_succ_cons, List.take_zero, List.drop_succ_cons, List.drop_zero]
      iterate 12
        with_reducible refine wpStill_step ?_
        intro K hK
        go_simp
        with_reducible refine hK _ ?_
        clear hK K
      refine wpStill_nil ?_
      gi_wp2_with (refine hR.mono ?_; rintro e W3 ⟨rfl, hJ3, hk3⟩)
      have hk4 : Mod D X W3 := (Mod.of_below hbb).drew.trans hk3
      refine ⟨hk4, ?_⟩
      rw [hsnoc]
      exact ⟨hJ3, hm.trans (hk4.mono (fun _ _ e => .inl e))⟩
    | false =>
      have HAT := Lib.hid (at_no hX x (.inr (.inr (by rw [Int.toNat_natCast]; exact hu))))
      gi_wp2_with fail
      refine ⟨trivial, fun _ => by omega, ((callsIn_wide.2 HAT.out).inRound lp).mono ?_⟩
      rintro e X1 ⟨rfl, hb⟩
      have hbb := hb.on (below1 X1 (.cells #[.int .i64 0, .int .i64 0] 57))
      have hmm : Mod (fun k => D k ∨ W2.heap.size ≤ k) X _ := .of_below hbb
      have hmx : Tryd.prog.follows .mixedOrders = true := by kernel_rfl
      have hsnoc : toksTo l (pre ++ [x]) = toksTo l pre := by
        rw [toksTo_snoc]; unfold tokOf; rw [if_neg (by rw [hu]; decide)]; simp
      unfold tokV
      gi_wp2
      generalize hX2 : X1.alloc (.cells #[.int .i64 0, .int .i64 0] 57) = X2 at *
      refine round_still_tail 14 (by kernel_rfl) (by kernel_rfl) (by kernel_rfl) rfl ?_
      simp only [List.take_succ_cons, List.take_zero, List.drop_succ_cons, List.drop_zero]
      iterate 14
        with_reducible refine wpStill_step ?_
        intro K hK
        go_simp
        with_reducible refine hK _ ?_
        clear hK K
      refine wpStill_nil ?_
      gi_wp2
      refine ⟨(Mod.of_below hbb).drew, ?_⟩
      rw [hsnoc]
      exact ⟨hJ _ _ _ hj (Mod.of_below hbb).drew, hm.trans hmm.drew⟩
end Go.Proofs.YtbdpbkblihaeiaaDoor
