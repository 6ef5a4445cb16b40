/- The document's slots: a walk. -/
import Derived.Maps.AppendAt
import Derived.Deep.AppendLies
import Derived.Test.YtcffenekomiakaaIr
namespace Go.Proofs.Ytcffenekomiakaa
open Go.RowKit
set_option linter.unusedVariables false
set_option linter.unusedSimpArgs false
variable {w w' : World}
theorem infoInt : (Try.prog.info? 3).map (fun i => (i.zero, i.size, i.bytes)) = some (some (.int .i64 0), 1, 8) := by kernel_rfl
def SlotsPost (l : List Int) (w : World) (e : Ending) (W' : World) : Prop := ∃ v, e = .returned v ∧ Ints W' v l ∧ Below w.heap.size w W'
set_option maxRecDepth 100000 in
set_option maxHeartbeats 1000000 in
theorem refslots_any (x : Lay) (c : Int) (A1 : Option Addr) (c1 : Nat) (A2 : Option Addr) (c2 : Nat) (w : World) (h : LayIs w x A1 c1 A2 c2) (h0 : (x.size c).2 = 0) :
    Calls Try.prog 21 #[layV x A1 c1 A2 c2, .int .i64 c] w (SlotsPost (x.upTo (x.size c).1.toNat) w) := by
  obtain ⟨i0, hi, hz0, hz1, hz2⟩ := info_parts infoInt
  have HI := Lib.hid hi
  have HZ0 := Lib.hid hz0
  have HZ1 := Lib.hid hz1
  have HZ2 := Lib.hid hz2
  clear hi hz0 hz1 hz2
  have hok := Lay.size_ok h0
  have hr := Lay.right_out hok.1
  have hmul : 0 ≤ c * x.record := Int.mul_nonneg hok.2.1 hr.2.2.1
  obtain ⟨n, hn⟩ : ∃ n : Nat, (n : Int) = (x.size c).1 := ⟨(x.size c).1.toNat, by omega⟩
  have hn2 : n < 8192 := by omega
  have hA : Hid (∀ X, LayIs X x A1 c1 A2 c2 → Calls Try.prog 18 #[.agg #[.int .i64 x.fixed, .slice A1 x.refs.length c1, .int .i64 x.record, .slice A2 x.recs.length c2], .int .i64 c] X fun e w' => e = .returned (.tuple #[.int .i64 n, .int .i64 0]) ∧ Below X.heap.size X w') := Lib.hid (fun X hX => by
    have := refsize_any x c A1 c1 A2 c2 X hX
    rw [h0, ← hn] at this
    exact this)
  have hR : Hid (∀ X (k : Nat), LayIs X x A1 c1 A2 c2 → k < n → Calls Try.prog 20 #[.agg #[.int .i64 x.fixed, .slice A1 x.refs.length c1, .int .i64 x.record, .slice A2 x.recs.length c2], .int .i64 k] X fun e w' => e = .returned (.bool (x.isRef k)) ∧ Below X.heap.size X w') := Lib.hid (fun X k hX hk => refisref_any x c k A1 c1 A2 c2 X hX h0 (by omega) (by omega))
  have hb0 := below1 w (.cells #[.int .i64 x.fixed, .slice A1 x.refs.length c1, .int .i64 x.record, .slice A2 x.recs.length c2] 24)
  have HL := Lib.hid (h.on hb0)
  have HW := Lib.hid h
  have HB0 := Lib.hid hb0
  have hblk := heap_alloc_new w (.cells #[.int .i64 x.fixed, .slice A1 x.refs.length c1, .int .i64 x.record, .slice A2 x.recs.length c2] 24)
  have HBK := Lib.hid hblk
  rw [← hn, Int.toNat_natCast]
  have k0 := (blk_cells hblk 0).trans rfl
  have k1 := (blk_cells hblk 1).trans rfl
  have k2 := (blk_cells hblk 2).trans rfl
  have k3 := (blk_cells hblk 3).trans rfl
  clear h hb0 hblk h0 hok hr hmul hn
  unfold layV
  go_enter Try.func21, Try.ntmps21
  go_wp2_with fail
  refine (hA.out _ HL.out).mono ?_
  rintro e w2 ⟨rfl, hb⟩
  have HB2 := Lib.hid (HB0.out.on hb)
  have HK2 := Lib.hid ((hb.block w.heap.size (by simp)).trans HBK.out)
  have hsz2 : w.heap.size + 1 ≤ w2.heap.size := by have := hb.size; simpa using this
  clear hb k0 k1 k2 k3 hA HL HB0 HBK
  go_wp2_with fail
  go_loopw [5, 8] (fun v5 v8 wr => ∃ k : Nat, k ≤ n ∧ v8 = .int .i64 k ∧ Hid (Below w.heap.size w wr ∧ w2.heap.size ≤ wr.heap.size ∧ wr.heap[w.heap.size]? = some (.cells #[.int .i64 x.fixed, .slice A1 x.refs.length c1, .int .i64 x.record, .slice A2 x.recs.length c2] 24 (0, 0)) ∧ wr.ownsRow w2.heap.size 3 1 v5 (x.upTo k).length ((x.upTo k).flatMap encI))) (fun _ v8 _ => n - (intOf v8).toNat)
  case atStart => exact ⟨0, by omega, rfl, Lib.hid ⟨HB2.out, Nat.le_refl _, HK2.out, World.ownsRow_nil _ _ _ _⟩⟩
  case round =>
    obtain ⟨k, hk, rfl, HR⟩ := hrel
    clear HB2 HK2
    by_cases hlt : k < n
    · have k0 := (blk_cells HR.out.2.2.1 0).trans rfl
      have k1 := (blk_cells HR.out.2.2.1 1).trans rfl
      have k2 := (blk_cells HR.out.2.2.1 2).trans rfl
      have k3 := (blk_cells HR.out.2.2.1 3).trans rfl
      go_wp2_with fail
      refine (hR.out _ k (HW.out.on HR.out.1) hlt).mono ?_
      rintro e w3 ⟨rfl, hb⟩
      have HR3 : Hid (Below w.heap.size w w3 ∧ w2.heap.size ≤ w3.heap.size ∧ w3.heap[w.heap.size]? = some (.cells #[.int .i64 x.fixed, .slice A1 x.refs.length c1, .int .i64 x.record, .slice A2 x.recs.length c2] 24 (0, 0)) ∧ w3.ownsRow w2.heap.size 3 1 u5 (x.upTo k).length ((x.upTo k).flatMap encI)) :=
        Lib.hid ⟨HR.out.1.on hb, Nat.le_trans HR.out.2.1 hb.size, (hb.block _ (block_lt HR.out.2.2.1)).trans HR.out.2.2.1, own_on HR.out.2.2.2 hb⟩
      have hs := Lay.upTo_succ x k
      have hule := Lay.upTo_le x k
      clear hb k0 k1 k2 k3 HR
      cases hb : x.isRef k with
      | false =>
        rw [hb, if_neg (by decide), List.append_nil] at hs
        have HS := Lib.hid hs
        clear hs hb
        go_wp2
        go_roundw
        case rel => exact ⟨k + 1, by omega, by go_num, Lib.hid (by rw [HS.out]; exact HR3.out)⟩
        case measure => simp [intOf]; omega
      | true =>
        rw [hb, if_pos rfl] at hs
        have HS := Lib.hid hs
        clear hs hb
        have hsz3 := HR3.out.2.1
        generalize hul : x.upTo k = ul at *
        go_wp2_with (at_builtin; refine wpList_append_own _ rfl _ _ 22 rfl w2.heap.size 3 i0 (.int .i64 0) 1 8 Try.underlying22 HI.out HZ0.out HZ1.out HZ2.out rfl (by decide) _ _ _ rfl (HR3.out.2.2.2.alloc _) ⟨w3.heap.size, 0, none⟩ 1 1 [.int .i64 (k : Nat)] rfl rfl (World.news_of_block (cs := #[.int .i64 (k : Nat)]) (t := 3) (fr := (0, 0)) (heap_alloc_new w3 _)) (by simp [Value.oneCell']) (by unfold maxLen; omega) (by omega) (by simp; omega) ?_; intro v' w5 hown' hgrow _)
        have HS5 : Hid (Below w.heap.size w w5 ∧ w2.heap.size ≤ w5.heap.size ∧ w5.heap[w.heap.size]? = some (.cells #[.int .i64 x.fixed, .slice A1 x.refs.length c1, .int .i64 x.record, .slice A2 x.recs.length c2] 24 (0, 0)) ∧ w5.ownsRow w2.heap.size 3 1 v' (ul ++ [(k : Int)]).length ((ul ++ [(k : Int)]).flatMap encI)) := by
          obtain ⟨q1, q2, q3, q4⟩ := HR3.out
          refine Lib.hid ⟨(q1.alloc (by omega) _).grown hgrow (by simp; omega) (fun k e => by have := (q4.lt k e).1; omega), ?_, ?_, by simpa [encI] using hown'⟩
          · have := hgrow.size; simp at this; omega
          · exact (hgrow.block w.heap.size (by simp; omega) (fun e => by have := (q4.lt _ e.symm).1; omega)).trans ((Below.heap_alloc _ _ _ (by omega)).trans q3)
        clear hown' hgrow HR3
        go_roundw
        case rel => exact ⟨k + 1, by omega, by go_num, Lib.hid (by rw [HS.out]; exact HS5.out)⟩
        case measure => simp [intOf]; omega
    · obtain rfl : k = n := by omega
      have hule := Lay.upTo_le x k
      go_wp2
      go_ret
      exact ⟨_, rfl, ints_of_own HR.out.2.2.2 (by omega), HR.out.1⟩
end Go.Proofs.Ytcffenekomiakaa
