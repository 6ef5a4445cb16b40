/- The slots of a layout: the iterator, and the list that the law makes of it: walks. -/
import Derived.RangeFuncNested
import Derived.RangeFuncBound
import Derived.RangeFuncCalls
import Derived.RangeFuncLeaves
import Derived.RangeFuncBox
import Derived.Shelf.Abstract
import Derived.Shelf.RegionOpen
import Derived.WalkKit
import Derived.OwnWalkIn
import Derived.TacticsInMore
import Derived.LoopNIn
import Derived.LoopIn
import Derived.Maps.AppendAt
import Derived.Test.YtcffenekomiakaaSr
namespace Go.Proofs.Ytcffenekomiakaa
open Go.RowKit Go.Shelf
set_option linter.unusedVariables false
set_option linter.unusedSimpArgs false
attribute [local go_sem] Oper.semAt_some
variable {w w' : World} {x : Lay} {A1 A2 : Option Addr} {c1 c2 : Nat}
theorem below_grown {W W' : World} (h : Below W.heap.size W W') : W.grownBy W' none := ⟨h.os, h.tape, h.output, h.size, fun k hk _ => h.block k hk⟩
/-- What a round keeps: what lay below, and two blocks. -/
def Kp (n₀ b1 b2 : Nat) (W W' : World) : Prop := Below n₀ W W' ∧ W.heap.size ≤ W'.heap.size ∧ ∀ (k : Nat) (o : Array Value × TypeId), (k = b1 ∨ k = b2) → W.heap[k]? = some (.cells o.1 o.2 (0, 0)) → W'.heap[k]? = some (.cells o.1 o.2 (0, 0))
theorem Kp.t {n₀ b1 b2 : Nat} {A B C : World} (h : Kp n₀ b1 b2 A B) (k : Kp n₀ b1 b2 B C) : Kp n₀ b1 b2 A C := ⟨h.1.trans k.1, Nat.le_trans h.2.1 k.2.1, fun i o hi ho => k.2.2 i o hi (h.2.2 i o hi ho)⟩
theorem Kp.b {n₀ b1 b2 : Nat} {w : World} (hn : n₀ ≤ w.heap.size) (W : World) (l : Nat) (o o' : Obj) (hl : w.heap.size ≤ l) (h : W.heap[l]? = some o) (hc : o.isCells = false) (hw : o.isWalk = false) : Kp n₀ b1 b2 W (W.putObj l o') :=
  ⟨belowK_b hn W l o o' hl h hc hw, by simp, fun k u hk hu => by
    have hne : k ≠ l := fun e => by subst e; rw [h] at hu; cases hu; cases hc
    exact (World.putObj_heap_other hne).trans hu⟩
/-- Where the iterator stands: what it captured, and the layout's places. -/
structure SlAt (base W : World) (b1 b2 : Nat) (x : Lay) (A1 : Option Addr) (c1 : Nat) (A2 : Option Addr) (c2 : Nat) (c : Int) : Prop where
  below : Below base.heap.size base W
  lay : W.heap[b1]? = some (.cells (layCells x A1 c1 A2 c2) 24 (0, 0))
  cnt : W.heap[b2]? = some (.cells #[.int .i64 c] 3 (0, 0))
theorem SlAt.kp {base W W' : World} {b1 b2 : Nat} {c : Int} (h : SlAt base W b1 b2 x A1 c1 A2 c2 c) (k : Kp base.heap.size b1 b2 W W') : SlAt base W' b1 b2 x A1 c1 A2 c2 c := ⟨h.below.trans k.1, k.2.2 b1 (_, _) (.inl rfl) h.lay, k.2.2 b2 (_, _) (.inr rfl) h.cnt⟩
theorem SlAt.on {base W W' : World} {b1 b2 : Nat} {c : Int} (h : SlAt base W b1 b2 x A1 c1 A2 c2 c) (hb : Below W.heap.size W W') : SlAt base W' b1 b2 x A1 c1 A2 c2 c := ⟨h.below.on hb, (hb.block _ (block_lt h.lay)).trans h.lay, (hb.block _ (block_lt h.cnt)).trans h.cnt⟩
def isPre (xs ys : List Int) : Prop := xs <+: ys
theorem take_snoc {l : List Int} {k : Nat} (h : k < l.length) : l.take (k + 1) = l.take k ++ [l.getD k 0] := by
  rw [List.take_succ_eq_append_getElem h]; simp [List.getD, h]
/-- The places up to the k-th of record r. -/
def Lay.partTo (x : Lay) (r k : Nat) : List Int := x.slots r ++ (x.recs.take k).map fun p => x.fixed + r * x.record + p
theorem Lay.partTo_zero (x : Lay) (r : Nat) : x.partTo r 0 = x.slots r := by simp [Lay.partTo]
theorem Lay.partTo_all (x : Lay) (r : Nat) : x.partTo r x.recs.length = x.slots (r + 1) := by
  unfold Lay.partTo; rw [Lay.slots_succ, List.take_length]
theorem Lay.partTo_snoc (x : Lay) (r : Nat) {k : Nat} (h : k < x.recs.length) : x.partTo r (k + 1) = x.partTo r k ++ [x.fixed + r * x.record + x.recs.getD k 0] := by
  unfold Lay.partTo; rw [take_snoc h, List.map_append, ← List.append_assoc]; rfl
theorem Lay.slots_pre (x : Lay) : ∀ {r c : Nat}, r ≤ c → x.slots r <+: x.slots c
  | r, c, h => by
    induction c with
    | zero => obtain rfl : r = 0 := by omega
              exact List.prefix_refl _
    | succ c ih =>
      by_cases e : r = c + 1
      · subst e; exact List.prefix_refl _
      · rw [Lay.slots_succ]
        exact (ih (by omega)).trans (List.prefix_append _ _)
theorem Lay.partTo_pre (x : Lay) {r k c : Nat} (h : r < c) : x.partTo r k <+: x.slots c := by
  refine List.IsPrefix.trans ?_ (Lay.slots_pre x (show r + 1 ≤ c from h))
  rw [Lay.slots_succ]
  unfold Lay.partTo
  exact (List.prefix_append_right_inj _).2 ((List.take_prefix _ _).map _)
theorem Lay.refs_pre (x : Lay) (k c : Nat) : x.refs.take k <+: x.slots c := by
  refine List.IsPrefix.trans (List.take_prefix _ _) ?_
  have := Lay.slots_pre x (Nat.zero_le c)
  rwa [Lay.slots_zero] at this
theorem pre_lt {l : List Int} {y : Int} {xs : List Int} (h : (l ++ [y]) <+: xs) : l.length < xs.length := by
  have := h.length_le
  simp at this; omega
set_option maxRecDepth 100000 in
set_option maxHeartbeats 1000000 in
theorem slots1_in (n : Nat) (hn : 1 ≤ n) (l b1 b2 N : Nat) (J Jx : List Int → World → Prop) (base : World) (c : Int) (hL : LayIs base x A1 c1 A2 c2) (xs : List Int) (hxs : xs = if (x.size c).2 = 0 then x.slots c.toNat else []) (hN : xs.length ≤ N)
    (hY : ∀ pre y W, J pre W → pre.length < N → YieldAt Fence.wide (n - 1) Try.prog l #[.int .i64 y] W fun e W' =>
      (e = .returned (.bool true) ∧ J (pre ++ [y]) W' ∧ Kp base.heap.size b1 b2 W W') ∨ (e = .returned (.bool false) ∧ Jx (pre ++ [y]) W'))
    (W : World) (hS : SlAt base W b1 b2 x A1 c1 A2 c2 c) (hJ : AbidesFrom W.heap.size J) (h0 : J [] W) :
    CallsIn Fence.wide n Try.prog 34 #[.func (.yield l) #[] #[], .pointer (some ⟨b1, 0, none⟩), .pointer (some ⟨b2, 0, none⟩)] W fun e W' => (∃ v, e = .returned v) ∧
      ((∃ ys, ys = xs ∧ J ys W') ∨ (∃ pre, isPre pre xs ∧ Jx pre W')) := by
  have hA : Hid (∀ X, LayIs X x A1 c1 A2 c2 → Calls Try.prog 9 #[.agg #[.int .i64 x.fixed, .slice A1 x.refs.length c1, .int .i64 x.record, .slice A2 x.recs.length c2], .int .i64 c] X fun e w' => e = .returned (.tuple #[.int .i64 (x.size c).1, .int .i64 (x.size c).2]) ∧ Below X.heap.size X w') := Lib.hid (fun X hX => size_any _ _ _ _ _ _ X hX)
  have HL0 := Lib.hid hL
  have HS := Lib.hid hS
  have hlay := hS.lay
  unfold layCells at hlay
  have e0 := (blk_cells hlay 0).trans rfl
  have e1 := (blk_cells hlay 1).trans rfl
  have e2 := (blk_cells hlay 2).trans rfl
  have e3 := (blk_cells hlay 3).trans rfl
  have e4 := (blk_cells hS.cnt 0).trans rfl
  clear hS hL hlay
  refine callsIn_of_wp Try.func34 rfl trivial ?_ rfl
  simp only [Try.ntmps34, List.size_toArray, List.length_cons, List.length_nil, Nat.reduceAdd, Nat.reduceSub, Array.replicate_succ, Array.replicate_zero, List.push_toArray, List.append_toArray, List.nil_append, List.cons_append]
  gi_wp2_with fail
  refine ⟨trivial, (callsIn_wide.2 (hA.out _ (HL0.out.on HS.out.below))).mono ?_⟩
  rintro e w1 ⟨rfl, hb⟩
  have HS1 := Lib.hid (HS.out.on hb)
  have hJ1 : J [] w1 := hJ _ _ _ none h0 (below_grown hb) (fun r e => by cases e)
  have g0 := cell_on hb e0
  have g1 := cell_on hb e1
  have g2 := cell_on hb e2
  have g3 := cell_on hb e3
  clear hb e0 e1 e2 e3 e4 hA HS
  by_cases hz : (x.size c).2 = 0
  · rw [if_pos hz] at hxs
    have hok := Lay.size_ok hz
    have hr := Lay.right_out hok.1
    have hl1 := rise_len hr.2.2.2.2.2.1 hr.1
    have hl2 := rise_len hr.2.2.2.2.2.2 hr.2.2.1
    have hmul : 0 ≤ c * x.record := Int.mul_nonneg hok.2.1 hr.2.2.1
    obtain ⟨cn, rfl⟩ : ∃ cn : Nat, c = cn := ⟨c.toNat, by omega⟩
    rw [Int.toNat_natCast] at hxs
    rw [hz, hok.2.2.2.2.1]
    have hn8 : x.fixed + cn * x.record < 8192 := by have := hok.2.2.2.2.2; omega
    have HRP := Lib.hid hok.2.2.2.1
    have HRR := Lib.hid (rise_all hr.2.2.2.2.2.2).2
    have hF0 := hr.1
    have hF1 := hr.2.1
    have hR0 := hr.2.2.1
    have hR1 := hr.2.2.2.1
    have HN : Hid (∀ l y, (l ++ [y]) <+: xs → l.length < N) := Lib.hid (fun l y h => by have := pre_lt h; omega)
    have HX := Lib.hid hxs
    clear hz hok hr hxs hN
    gi_wp2_with fail
    gi_loopw [22] (fun v22 wr => ∃ k : Nat, k ≤ x.refs.length ∧ v22 = .int .i64 k ∧ Hid (SlAt base wr b1 b2 x A1 c1 A2 c2 cn) ∧ J (x.refs.take k) wr) (fun v22 _ => x.refs.length - (intOf v22).toNat)
    case atStart => exact ⟨0, by omega, rfl, HS1, by simpa using hJ1⟩
    case round =>
      obtain ⟨k, hk, rfl, HSk, hJk⟩ := hrel
      clear g0 g1 g2 g3 HS1 hJ1
      have hlay := HSk.out.lay
      unfold layCells at hlay
      have g0 := (blk_cells hlay 0).trans rfl
      have g1 := (blk_cells hlay 1).trans rfl
      have g2 := (blk_cells hlay 2).trans rfl
      have g3 := (blk_cells hlay 3).trans rfl
      clear hlay
      by_cases hlt : k < x.refs.length
      · obtain ⟨b, o, rfl, hx⟩ := ints_at (HL0.out.on HSk.out.below).h1 k hlt
        have hpre : (x.refs.take k ++ [x.refs.getD k 0]) <+: xs := by rw [← take_snoc hlt, HX.out]; exact Lay.refs_pre x _ _
        obtain ⟨fn, tmps, assign, body, hy, hR⟩ := hY (x.refs.take k) (x.refs.getD k 0) wr hJk (HN.out _ _ hpre)
        rw [← take_snoc hlt] at hR hpre
        generalize x.refs.getD k 0 = p at *
        gi_wp2
        refine hR.mono ?_
        rintro e W3 (⟨rfl, hJ3, hk3⟩ | ⟨rfl, hJx3⟩)
        · have HS3 := Lib.hid (HSk.out.kp hk3)
          clear hk3 g0 g1 g2 g3
          gi_wp2
          go_roundw
          case rel => exact ⟨k + 1, by omega, by go_num, HS3, hJ3⟩
          case measure => simp [intOf]; omega
        · gi_wp2
          refine bodyPost_ret (results_none rfl _ _ _) rfl ?_
          exact ⟨⟨_, rfl⟩, .inr ⟨_, hpre, hJx3⟩⟩
      · obtain rfl : k = x.refs.length := by omega
        rw [List.take_length, ← Lay.slots_zero x] at hJk
        gi_wp2_with fail
        gi_loopw [8] (fun v8 wr => ∃ r : Nat, r ≤ cn ∧ v8 = .int .i64 (x.fixed + r * x.record) ∧ Hid (SlAt base wr b1 b2 x A1 c1 A2 c2 cn) ∧ J (x.slots r) wr) (fun v8 _ => (x.fixed + cn * x.record - intOf v8).toNat)
        case atStart => exact ⟨0, by omega, by simp, HSk, hJk⟩
        case round =>
          obtain ⟨r, hr, rfl, HSr, hJr⟩ := hrel
          clear g0 g1 g2 g3 HSk hJk
          have hlay := HSr.out.lay
          unfold layCells at hlay
          have g0 := (blk_cells hlay 0).trans rfl
          have g1 := (blk_cells hlay 1).trans rfl
          have g2 := (blk_cells hlay 2).trans rfl
          have g3 := (blk_cells hlay 3).trans rfl
          clear hlay
          by_cases hrc : r < cn
          · have hRpos : 0 < x.record := HRP.out (by omega)
            have hstep := mul_step r x.record
            have hle : ((r + 1 : Nat) : Int) * x.record ≤ cn * x.record := Int.mul_le_mul_of_nonneg_right (by omega) hR0
            have hr0 : 0 ≤ (r : Int) * x.record := Int.mul_nonneg (by omega) hR0
            obtain ⟨fr, hfr⟩ : ∃ fr, fr = x.fixed + r * x.record := ⟨_, rfl⟩
            have HFR := Lib.hid hfr
            rw [← hfr]
            have d0 : decide (fr < x.fixed + cn * x.record) = true := decide_eq_true (by omega)
            have hfr0 : 0 ≤ fr := by omega
            have hfr1 : fr < 8192 := by omega
            have hnx : fr + x.record = x.fixed + ((r + 1 : Nat) : Int) * x.record := by rw [hstep]; omega
            have HNX := Lib.hid hnx
            have HLT : Hid (fr < x.fixed + cn * x.record ∧ fr < x.fixed + ((r + 1 : Nat) : Int) * x.record) := Lib.hid ⟨by omega, by rw [hstep]; omega⟩
            clear hfr hstep hle hr0 hnx
            gi_wp2_with fail
            gi_loopw [43] (fun v43 wr => ∃ k : Nat, k ≤ x.recs.length ∧ v43 = .int .i64 k ∧ Hid (SlAt base wr b1 b2 x A1 c1 A2 c2 cn) ∧ J (x.partTo r k) wr) (fun v43 _ => x.recs.length - (intOf v43).toNat)
            case atStart => exact ⟨0, by omega, rfl, HSr, by rw [Lay.partTo_zero]; exact hJr⟩
            case round =>
              obtain ⟨k, hk, rfl, HSk, hJk⟩ := hrel
              clear g0 g1 g2 g3 HSr hJr
              have hlay := HSk.out.lay
              unfold layCells at hlay
              have g0 := (blk_cells hlay 0).trans rfl
              have g1 := (blk_cells hlay 1).trans rfl
              have g2 := (blk_cells hlay 2).trans rfl
              have g3 := (blk_cells hlay 3).trans rfl
              clear hlay
              by_cases hlt : k < x.recs.length
              · obtain ⟨b, o, rfl, hx⟩ := ints_at (HL0.out.on HSk.out.below).h2 k hlt
                have hq := HRR.out _ (mem_getD hlt)
                have hpre : (x.partTo r k ++ [fr + x.recs.getD k 0]) <+: xs := by rw [HFR.out, ← Lay.partTo_snoc x r hlt, HX.out]; exact Lay.partTo_pre x hrc
                obtain ⟨fn, tmps, assign, body, hy, hR⟩ := hY (x.partTo r k) (fr + x.recs.getD k 0) wr hJk (HN.out _ _ hpre)
                have hsn := Lay.partTo_snoc x r hlt
                rw [← HFR.out] at hsn
                rw [← hsn] at hR hpre
                clear hsn
                generalize x.recs.getD k 0 = p at *
                have hw : wrap64 (fr + p) = fr + p := by unfold wrap64; omega
                gi_wp2
                refine hR.mono ?_
                rintro e W3 (⟨rfl, hJ3, hk3⟩ | ⟨rfl, hJx3⟩)
                · have HS3 := Lib.hid (HSk.out.kp hk3)
                  clear hk3 g0 g1 g2 g3
                  gi_wp2
                  go_roundw
                  case rel => exact ⟨k + 1, by omega, by go_num, HS3, hJ3⟩
                  case measure => simp [intOf]; omega
                · gi_wp2
                  refine bodyPost_ret (results_none rfl _ _ _) rfl ?_
                  exact ⟨⟨_, rfl⟩, .inr ⟨_, hpre, hJx3⟩⟩
              · obtain rfl : k = x.recs.length := by omega
                rw [Lay.partTo_all] at hJk
                gi_wp2_with fail
                go_roundw
                case rel => exact ⟨r + 1, by omega, by rw [← HNX.out], HSk, hJk⟩
                case measure =>
                  have := HLT.out.1
                  simp only [intOf]; omega
          · obtain rfl : r = cn := by omega
            rw [← HX.out] at hJr
            gi_wp2
            go_end0
            exact ⟨⟨_, rfl⟩, .inl ⟨_, rfl, hJr⟩⟩
  · rw [if_neg hz] at hxs
    have d : ((x.size c).2 != 0) = true := by simpa using hz
    generalize (x.size c).2 = s2 at *
    generalize (x.size c).1 = s1 at *
    clear hz
    subst hxs
    gi_wp2
    refine bodyPost_ret (results_none rfl _ _ _) rfl ?_
    exact ⟨⟨_, rfl⟩, .inl ⟨_, rfl, hJ1⟩⟩
end Go.Proofs.Ytcffenekomiakaa
