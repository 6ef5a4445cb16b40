/- All, and what a law's 'all' makes of it: walks. -/
import Derived.RangeFuncNested
import Derived.RangeFuncBound
import Derived.RangeFuncCalls
import Derived.RangeFuncLeaves
import Derived.RangeFuncBox
import Derived.Shelf.Abstract
import Derived.Shelf.RegionOpen
import Derived.WalkKit
import Derived.OwnWalkIn
import Derived.TacticsInMore
import Derived.LoopNIn
import Derived.LoopIn
import Derived.Maps.AppendAt
import Derived.Test.YtkaflgbipjppmaaDoorNx
import Derived.Test.YtkaflgbipjppmaaDoorOnes
namespace Go.Proofs.YtkaflgbipjppmaaDoor
open Go.RowKit Go.Shelf
set_option linter.unusedVariables false
set_option linter.unusedSimpArgs false
attribute [local go_sem] Oper.semAt_some
variable {w : World} {p q : Nat} {bits : List Bool} {ws : List Nat} {T T' : TypeId}
theorem MapAt.below {n₀ : Nat} {w w' : World} (h : MapAt w p q bits ws T T') (hb : Below n₀ w w') (hp : p < n₀) (hq : q < n₀) : MapAt w' p q bits ws T T' := ⟨h.ne, h.pos, h.le, h.words, (hb.block p hp).trans h.head, (hb.block q hq).trans h.body⟩
theorem Tab.below {n₀ : Nat} {w w' : World} (h : Tab w) (hb : Below n₀ w w') (h0 : 0 < n₀) : Tab w' := fun j hj => (hb.cell (p := ⟨0, j, none⟩) h0).trans (h j hj)
/-- What a round keeps: what lay below, and the box of the map. -/
def Kp (n₀ Bn : Nat) (W W' : World) : Prop := Below n₀ W W' ∧ ∀ v, Boxed W Bn 94 v → Boxed W' Bn 94 v
theorem Kp.t {n₀ Bn : Nat} {A B C : World} (h : Kp n₀ Bn A B) (k : Kp n₀ Bn B C) : Kp n₀ Bn A C := ⟨h.1.trans k.1, fun v hv => k.2 v (h.2 v hv)⟩
theorem Kp.b {n₀ Bn : Nat} {w : World} (hn : n₀ ≤ w.heap.size) (W : World) (l : Nat) (o o' : Obj) (hl : w.heap.size ≤ l) (h : W.heap[l]? = some o) (hc : o.isCells = false) (hw : o.isWalk = false) : Kp n₀ Bn W (W.putObj l o') :=
  ⟨belowK_b hn W l o o' hl h hc hw, fun v hv => hv.kept (grownBy_putObj' W l o') (fun e => by cases e; rw [show W.heap[Bn]? = _ from hv] at h; cases h; cases hc)⟩
set_option maxRecDepth 100000 in
set_option maxHeartbeats 1000000 in
theorem all1_in (n : Nat) (hn : 1 ≤ n) (l Bn n₀ : Nat) (J Jx : List Nat → World → Prop)
    (hY : ∀ pre x W, J pre W → pre.length < (ones bits).length → YieldAt Fence.wide (n - 1) Tryd.prog l #[.int .i64 (x : Nat)] W fun e W' =>
      (e = .returned (.bool true) ∧ J (pre ++ [x]) W' ∧ Kp n₀ Bn W W') ∨ (e = .returned (.bool false) ∧ Jx (pre ++ [x]) W'))
    (W : World) (hBn : Boxed W Bn 94 (.pointer (some ⟨p, 0, none⟩))) (hM : MapAt W p q bits ws T T') (hT : Tab W) (hp : p < n₀) (hq : q < n₀) (hg : 0 < n₀) (h0 : J [] W) :
    CallsIn Fence.wide n Tryd.prog 80 #[.func (.yield l) #[] #[], .pointer (some ⟨Bn, 0, none⟩)] W fun e W' => (∃ v, e = .returned v) ∧
      ((∃ ys, ys = ones bits ∧ J ys W') ∨ (∃ pre, pre <+: ones bits ∧ Jx pre W')) := by
  have hb0 := hBn.cell
  have hle := hM.le
  have HM := Lib.hid hM
  have HT := Lib.hid hT
  have hc0 := hM.n
  have HN := Lib.hid ((callsIn_wide (n := n - 1)).2 (next_any hM hT 0 (by omega)))
  clear hM hT
  refine callsIn_of_wp Tryd.func80 rfl trivial ?_ rfl
  simp only [Tryd.ntmps80, List.size_toArray, List.length_cons, List.length_nil, Nat.reduceAdd, Nat.reduceSub, Array.replicate_succ, Array.replicate_zero, List.push_toArray, List.append_toArray, List.nil_append, List.cons_append]
  gi_wp2_with (refine ⟨trivial, ?_⟩; gi_at_call 78; refine HN.out.mono ?_; rintro e w' ⟨rfl, rfl⟩)

  gi_loopw [3] (fun v3 wr => ∃ i : Nat, v3 = .int .i64 i ∧ i ≤ bits.length ∧ Boxed wr Bn 94 (.pointer (some ⟨p, 0, none⟩)) ∧ Hid (MapAt wr p q bits ws T T') ∧ Hid (Tab wr) ∧ Hid (i < bits.length → bits.getD i false = true) ∧ J (onesTo bits i) wr) (fun v3 _ => bits.length - (intOf v3).toNat)
  case atStart =>
    refine ⟨seek true bits 0, rfl, seek_le _ _ _, hBn, HM, HT, Lib.hid seek_at, ?_⟩
    rw [onesTo_seek (Nat.zero_le _) rfl]
    exact h0
  case round =>
    obtain ⟨i, rfl, hi, hBox, HM1, HT1, HB, hJ⟩ := hrel
    have hb1 := hBox.cell
    have hc1 := HM1.out.n
    by_cases hlt : i < bits.length
    · have hon := HB.out hlt
      obtain ⟨fn, tmps, assign, body, hy, hR⟩ := hY (onesTo bits i) i wr hJ (onesTo_lt hlt hon)
      have HON := Lib.hid (onesTo_on hon)
      clear hon
      gi_wp2
      refine hR.mono ?_
      rintro e W3 (⟨rfl, hJ3, hk3⟩ | ⟨rfl, hJx3⟩)
      · have hBox3 := hk3.2 _ hBox
        have hb3 := hBox3.cell
        have hM3 := HM1.out.below hk3.1 hp hq
        have hT3 := HT1.out.below hk3.1 hg
        have hc3 := hM3.n
        have HN3 := Lib.hid ((callsIn_wide (n := n - 1)).2 (next_any hM3 hT3 (i + 1) (by omega)))
        have HM3 := Lib.hid hM3
        have HT3 := Lib.hid hT3
        clear hM3 hT3
        gi_wp2_with (refine ⟨trivial, ?_⟩; gi_at_call 78; refine HN3.out.mono ?_; rintro e w' ⟨rfl, rfl⟩)
        go_roundw
        case rel =>
          refine ⟨seek true bits (i + 1), rfl, seek_le _ _ _, hBox3, HM3, HT3, Lib.hid seek_at, ?_⟩
          rw [onesTo_seek hlt rfl, HON.out]
          exact hJ3
        case measure =>
          have := seek_ge (b := true) (bits := bits) (i := i + 1) hlt
          simp [intOf]; omega
      · gi_wp2
        refine bodyPost_ret (results_none rfl _ _ _) rfl ?_
        refine ⟨⟨_, rfl⟩, .inr ⟨_, ?_, hJx3⟩⟩
        rw [← HON.out]
        exact onesTo_prefix hlt
    · obtain rfl : i = bits.length := by omega
      gi_wp2
      go_end0
      exact ⟨⟨_, rfl⟩, .inl ⟨_, rfl, hJ⟩⟩
end Go.Proofs.YtkaflgbipjppmaaDoor
