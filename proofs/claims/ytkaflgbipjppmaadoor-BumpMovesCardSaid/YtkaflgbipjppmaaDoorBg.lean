/- The iterator of a bitmap, told by what a round may turn. -/
import Derived.Test.YtkaflgbipjppmaaDoorAll
import Derived.Test.YtkaflgbipjppmaaDoorRg
namespace Go.Proofs.YtkaflgbipjppmaaDoor
open Go.RowKit Go.Shelf
set_option linter.unusedVariables false
set_option linter.unusedSimpArgs false
attribute [local go_sem] Oper.semAt_some
variable {w : World} {p q : Nat} {bits : List Bool} {ws : List Nat} {T T' : TypeId}
set_option maxRecDepth 100000 in
set_option maxHeartbeats 1000000 in
theorem ball_gives (n : Nat) (hn : 1 ≤ n) (Bn c : Nat) (S : Nat → Prop) (hBn : Boxed w Bn 94 (.pointer (some ⟨p, 0, none⟩))) (hM : MapAt w p q bits ws T T') (hT : Tab w)
    (hSp : ¬ S p) (hSq : ¬ S q) (hSg : ¬ S 0) (hSB : ¬ S Bn) :
    Gives 0 Fence.wide n Tryd.prog 80 #[.pointer (some ⟨Bn, 0, none⟩)] (fun x : Nat => #[Value.int .i64 (x : Nat)]) S (ones bits) c w := by
  intro l J W hW hcs hJ hY h0
  have HCS : Hid (c + 0 ≤ W.heap.size) := Lib.hid (by omega)
  clear hcs
  have hBn : Boxed W Bn 94 (.pointer (some ⟨p, 0, none⟩)) := (hW.block Bn hBn.lt).trans hBn
  have hb0 := hBn.cell
  have hle := hM.le
  have hM := hM.on hW
  have hT := hT.on hW
  have HM := Lib.hid hM
  have HT := Lib.hid hT
  have hc0 := hM.n
  have HN := Lib.hid ((callsIn_wide (n := n - 1)).2 (next_any hM hT 0 (by omega)))
  clear hM hT hW
  refine callsIn_of_wp Tryd.func80 rfl trivial ?_ rfl
  simp only [Tryd.ntmps80, List.size_toArray, List.length_cons, List.length_nil, Nat.reduceAdd, Nat.reduceSub, Array.replicate_succ, Array.replicate_zero, List.push_toArray, List.append_toArray, List.nil_append, List.cons_append]
  gi_wp2_with (refine ⟨trivial, ?_⟩; gi_at_call 78; refine HN.out.mono ?_; rintro e w' ⟨rfl, rfl⟩)
  gi_loopw [3] (fun v3 wr => ∃ i : Nat, v3 = .int .i64 i ∧ i ≤ bits.length ∧ Boxed wr Bn 94 (.pointer (some ⟨p, 0, none⟩)) ∧ Hid (MapAt wr p q bits ws T T') ∧ Hid (Tab wr) ∧ Hid (i < bits.length → bits.getD i false = true) ∧ Hid (c + 0 ≤ wr.heap.size) ∧ J (onesTo bits i) wr) (fun v3 _ => bits.length - (intOf v3).toNat)
  case atStart =>
    refine ⟨seek true bits 0, rfl, seek_le _ _ _, hBn, HM, HT, Lib.hid seek_at, HCS, ?_⟩
    rw [onesTo_seek (Nat.zero_le _) rfl]
    exact h0
  case round =>
    obtain ⟨i, rfl, hi, hBox, HM1, HT1, HB, HC1, hJ1⟩ := hrel
    have hb1 := hBox.cell
    have hc1 := HM1.out.n
    by_cases hlt : i < bits.length
    · have hon := HB.out hlt
      have HON := Lib.hid (onesTo_on hon)
      obtain ⟨fn, tmps, assign, body, hy, hR⟩ := hY (onesTo bits i) i wr HC1.out hJ1 (by rw [← onesTo_on hon]; exact onesTo_prefix hlt)
      clear hon
      gi_wp2
      refine hR.mono ?_
      rintro e W3 ⟨rfl, hJ3, hk3⟩
      have hBox3 : Boxed W3 Bn 94 (.pointer (some ⟨p, 0, none⟩)) := hk3.keeps hBox hSB
      have hb3 := hBox3.cell
      have hM3 := HM1.out.mod hk3 hSp hSq
      have hT3 := HT1.out.mod hk3 hSg
      have hc3 := hM3.n
      have HN3 := Lib.hid ((callsIn_wide (n := n - 1)).2 (next_any hM3 hT3 (i + 1) (by omega)))
      have HM3 := Lib.hid hM3
      have HT3 := Lib.hid hT3
      clear hM3 hT3
      gi_wp2_with (refine ⟨trivial, ?_⟩; gi_at_call 78; refine HN3.out.mono ?_; rintro e w' ⟨rfl, rfl⟩)
      go_roundw
      case rel =>
        refine ⟨seek true bits (i + 1), rfl, seek_le _ _ _, hBox3, HM3, HT3, Lib.hid seek_at, Lib.hid (Nat.le_trans HC1.out hk3.size), ?_⟩
        rw [onesTo_seek hlt rfl, HON.out]
        exact hJ3
      case measure =>
        have := seek_ge (b := true) (bits := bits) (i := i + 1) hlt
        simp [intOf]; omega
    · obtain rfl : i = bits.length := by omega
      gi_wp2
      go_end0
      exact ⟨⟨_, rfl⟩, hJ1⟩
end Go.Proofs.YtkaflgbipjppmaaDoor
