/- LayoutSlots: a walk. -/
import Derived.Test.YtcffenekomiakaaEn
namespace Go.Proofs.Ytcffenekomiakaa
open Go.RowKit
set_option linter.unusedVariables false
set_option linter.unusedSimpArgs false
variable {w w' : World}
def shortB (x : Lay) : Bool := decide (x.refs.length ≤ 100) && decide (x.recs.length ≤ 100)
set_option maxRecDepth 100000 in
theorem short_any (x : Lay) (A1 : Option Addr) (c1 : Nat) (A2 : Option Addr) (c2 : Nat) (w : World) : Calls Try.prog 8 #[layV x A1 c1 A2 c2] w fun e w' => e = .returned (.bool (shortB x)) ∧ Below w.heap.size w w' := by
  unfold layV shortB
  generalize x.refs.length = n1
  generalize x.recs.length = n2
  by_cases h1 : n1 ≤ 100
  · by_cases h2 : n2 ≤ 100
    · have d1 : decide ((n1 : Int) ≤ 100) = true := decide_eq_true (by omega)
      have d2 : decide ((n2 : Int) ≤ 100) = true := decide_eq_true (by omega)
      rw [decide_eq_true h1, decide_eq_true h2]
      clear h1 h2
      go_enter Try.func8, Try.ntmps8
      go_wp2
      go_ret
      exact ⟨rfl, below1 _ _⟩
    · have d1 : decide ((n1 : Int) ≤ 100) = true := decide_eq_true (by omega)
      have d2 : decide ((n2 : Int) ≤ 100) = false := decide_eq_false (by omega)
      rw [decide_eq_true h1, decide_eq_false h2]
      clear h1 h2
      go_enter Try.func8, Try.ntmps8
      go_wp2
      go_ret
      exact ⟨rfl, below1 _ _⟩
  · have d1 : decide ((n1 : Int) ≤ 100) = false := decide_eq_false (by omega)
    rw [decide_eq_false h1]
    clear h1
    go_enter Try.func8, Try.ntmps8
    go_wp2
    go_ret
    exact ⟨rfl, below1 _ _⟩
set_option maxRecDepth 100000 in
set_option maxHeartbeats 2000000 in
theorem lslots_walk (x : Lay) (c : Int) (A1 : Option Addr) (c1 : Nat) (A2 : Option Addr) (c2 : Nat) (w : World) (h : LayIs w x A1 c1 A2 c2) :
    Calls Try.prog 6 #[layV x A1 c1 A2 c2, .int .i64 c] w fun e w' => e = .returned (.bool true) ∧ Below w.heap.size w w' := by
  obtain ⟨i0, hi, hz0, hz1, hz2⟩ := info_parts infoInt
  have HI := Lib.hid hi
  have HZ0 := Lib.hid hz0
  have HZ1 := Lib.hid hz1
  have HZ2 := Lib.hid hz2
  clear hi hz0 hz1 hz2
  have hb0 := below1 w (.cells #[.int .i64 x.fixed, .slice A1 x.refs.length c1, .int .i64 x.record, .slice A2 x.recs.length c2] 24)
  have hblk := heap_alloc_new w (.cells #[.int .i64 x.fixed, .slice A1 x.refs.length c1, .int .i64 x.record, .slice A2 x.recs.length c2] 24)
  have k0 := (blk_cells hblk 0).trans rfl
  have k1 := (blk_cells hblk 1).trans rfl
  have k2 := (blk_cells hblk 2).trans rfl
  have k3 := (blk_cells hblk 3).trans rfl
  have hL := h.on hb0
  unfold layV
  go_enter Try.func6, Try.ntmps6
  go_wp2_with fail
  generalize w.alloc (.cells #[.int .i64 x.fixed, .slice A1 x.refs.length c1, .int .i64 x.record, .slice A2 x.recs.length c2] 24) = W0 at *
  have HB0 := Lib.hid hb0
  have HAL : Hid (∀ W, Below W0.heap.size W0 W → Calls Try.prog 7 #[] W fun e w' => e = .returned (.bool true) ∧ Below W.heap.size W w') := Lib.hid (fun W _ => alive_any W)
  have HSH : Hid (∀ W, Below W0.heap.size W0 W → Calls Try.prog 8 #[.agg #[.int .i64 x.fixed, .slice A1 x.refs.length c1, .int .i64 x.record, .slice A2 x.recs.length c2]] W fun e w' => e = .returned (.bool (shortB x)) ∧ Below W.heap.size W w') := Lib.hid (fun W _ => short_any x A1 c1 A2 c2 W)
  have HSZ : Hid (∀ W, Below W0.heap.size W0 W → Calls Try.prog 9 #[.agg #[.int .i64 x.fixed, .slice A1 x.refs.length c1, .int .i64 x.record, .slice A2 x.recs.length c2], .int .i64 c] W fun e w' => e = .returned (.tuple #[.int .i64 (x.size c).1, .int .i64 (x.size c).2]) ∧ Below W.heap.size W w') := Lib.hid (fun W hW => size_any _ _ _ _ _ _ W (hL.on hW))
  have HIR : Hid (∀ W p, Below W0.heap.size W0 W → Calls Try.prog 19 #[.agg #[.int .i64 x.fixed, .slice A1 x.refs.length c1, .int .i64 x.record, .slice A2 x.recs.length c2], .int .i64 c, .int .i64 p] W fun e w' => e = .returned (.tuple #[.bool (x.isRefE c p).1, .int .i64 (x.isRefE c p).2]) ∧ Below W.heap.size W w') := Lib.hid (fun W p hW => isref_any _ _ _ _ _ _ _ W (hL.on hW))
  have HSL : Hid (∀ W, Below W0.heap.size W0 W → Calls Try.prog 11 #[.agg #[.int .i64 x.fixed, .slice A1 x.refs.length c1, .int .i64 x.record, .slice A2 x.recs.length c2], .int .i64 c] W (SlotsPost (x.told c) W)) := Lib.hid (fun W hW => slots_any _ _ _ _ _ _ W (hL.on hW))
  clear hb0 hblk h hL
  refine (HSH.out _ (Below.refl _ _)).mono ?_
  rintro e w1 ⟨rfl, hb⟩
  have HB1 := Lib.hid hb
  have g0 := cell_on hb k0
  have g1 := cell_on hb k1
  have g2 := cell_on hb k2
  have g3 := cell_on hb k3
  clear hb
  cases hs : shortB x with
  | false =>
    go_wp2_with fail
    refine (HAL.out _ HB1.out).mono ?_
    rintro e w2 ⟨rfl, hb⟩
    have HB2 := Lib.hid (HB1.out.on hb)
    clear hb
    go_wp2
    go_ret
    exact ⟨rfl, HB0.out.on HB2.out⟩
  | true =>
    clear hs
    go_wp2_with fail
    refine (HSZ.out _ HB1.out).mono ?_
    rintro e w2 ⟨rfl, hb⟩
    have HB2 := Lib.hid (HB1.out.on hb)
    clear hb HB1 g0 g1 g2 g3
    have g0 := cell_on HB2.out k0
    have g1 := cell_on HB2.out k1
    have g2 := cell_on HB2.out k2
    have g3 := cell_on HB2.out k3
    by_cases hz : (x.size c).2 = 0
    · obtain ⟨z1, z2, z3, z4, z5, z6⟩ := Lay.size_ok hz
      have hrr := Lay.right_out z1
      have hmul : 0 ≤ c * x.record := Int.mul_nonneg z2 hrr.2.2.1
      obtain ⟨n, hn⟩ : ∃ n : Nat, (n : Int) = (x.size c).1 := ⟨(x.size c).1.toNat, by omega⟩
      have hn2 : n < 8192 := by omega
      have HIN : Hid (∀ k : Nat, k < n → x.isRefE c k = (x.isRef k, 0)) := Lib.hid (fun k hk => by
        unfold Lay.isRefE
        rw [if_pos hz, if_neg (by omega)])
      have HIO : Hid (x.isRefE c n = (false, 3)) := Lib.hid (by
        unfold Lay.isRefE
        rw [if_pos hz, if_pos (by omega)])
      have HTD : Hid (x.told c = x.upTo n) := Lib.hid (by rw [Lay.told_upTo hz, ← hn, Int.toNat_natCast])
      rw [hz, ← hn]
      clear hz z1 z2 z3 z4 z5 z6 hrr hmul hn
      by_cases hbig : 3000 < n
      · go_wp2
        go_ret
        exact ⟨rfl, HB0.out.on HB2.out⟩
      · go_wp2_with fail
        go_loopw [7, 36] (fun v7 v36 wr => ∃ k : Nat, k ≤ n ∧ v36 = .int .i64 k ∧ Hid (Below W0.heap.size W0 wr ∧ w2.heap.size ≤ wr.heap.size ∧ wr.ownsRow w2.heap.size 3 1 v7 (x.upTo k).length ((x.upTo k).flatMap encI))) (fun _ v36 _ => n - (intOf v36).toNat)
        case atStart => exact ⟨0, by omega, rfl, Lib.hid ⟨HB2.out, Nat.le_refl _, World.ownsRow_nil _ _ _ _⟩⟩
        case round =>
          obtain ⟨k, hk, rfl, HR⟩ := hrel
          clear g0 g1 g2 g3
          have g0 := cell_on HR.out.1 k0
          have g1 := cell_on HR.out.1 k1
          have g2 := cell_on HR.out.1 k2
          have g3 := cell_on HR.out.1 k3
          by_cases hlt : k < n
          · go_wp2_with fail
            refine (HIR.out _ k HR.out.1).mono ?_
            rintro e w3 ⟨rfl, hb⟩
            rw [HIN.out k hlt]
            have HR3 : Hid (Below W0.heap.size W0 w3 ∧ w2.heap.size ≤ w3.heap.size ∧ w3.ownsRow w2.heap.size 3 1 u7 (x.upTo k).length ((x.upTo k).flatMap encI)) := Lib.hid ⟨HR.out.1.on hb, Nat.le_trans HR.out.2.1 hb.size, own_on HR.out.2.2 hb⟩
            have hs := Lay.upTo_succ x k
            have hule := Lay.upTo_le x k
            have hsz3 := HR3.out.2.1
            have hsz2 := HB2.out.size
            clear hb HR g0 g1 g2 g3
            cases hb : x.isRef k with
            | false =>
              rw [hb, if_neg (by decide), List.append_nil] at hs
              have HS := Lib.hid hs
              clear hs hb
              go_wp2
              go_roundw
              case rel => exact ⟨k + 1, by omega, by go_num, Lib.hid (by rw [HS.out]; exact HR3.out)⟩
              case measure => simp [intOf]; omega
            | true =>
              rw [hb, if_pos rfl] at hs
              have HS := Lib.hid hs
              clear hs hb
              generalize hul : x.upTo k = ul at *
              go_wp2_with (at_builtin; refine wpList_append_own _ rfl _ _ 22 rfl w2.heap.size 3 i0 (.int .i64 0) 1 8 Try.underlying22 HI.out HZ0.out HZ1.out HZ2.out rfl (by decide) _ _ _ rfl (HR3.out.2.2.alloc _) ⟨w3.heap.size, 0, none⟩ 1 1 [.int .i64 (k : Nat)] rfl rfl (World.news_of_block (cs := #[.int .i64 (k : Nat)]) (t := 3) (fr := (0, 0)) (heap_alloc_new w3 _)) (by simp [Value.oneCell']) (by unfold maxLen; omega) (by omega) (by simp; omega) ?_; intro v' w5 hown' hgrow _)
              have HS5 : Hid (Below W0.heap.size W0 w5 ∧ w2.heap.size ≤ w5.heap.size ∧ w5.ownsRow w2.heap.size 3 1 v' (ul ++ [(k : Int)]).length ((ul ++ [(k : Int)]).flatMap encI)) := by
                obtain ⟨q1, q2, q4⟩ := HR3.out
                refine Lib.hid ⟨(q1.alloc (by omega) _).grown hgrow (by simp; omega) (fun k e => by have := (q4.lt k e).1; omega), ?_, by simpa [encI] using hown'⟩
                have := hgrow.size; simp at this; omega
              clear hown' hgrow HR3
              go_roundw
              case rel => exact ⟨k + 1, by omega, by go_num, Lib.hid (by rw [HS.out]; exact HS5.out)⟩
              case measure => simp [intOf]; omega
          · obtain rfl : k = n := by omega
            go_wp2_with fail
            refine (HIR.out _ k HR.out.1).mono ?_
            rintro e w3 ⟨rfl, hb⟩
            rw [HIO.out]
            have HR3 : Hid (Below W0.heap.size W0 w3 ∧ w2.heap.size ≤ w3.heap.size ∧ w3.ownsRow w2.heap.size 3 1 u7 (x.upTo k).length ((x.upTo k).flatMap encI)) := Lib.hid ⟨HR.out.1.on hb, Nat.le_trans HR.out.2.1 hb.size, own_on HR.out.2.2 hb⟩
            clear hb HR g0 g1 g2 g3
            have g0 := cell_on HR3.out.1 k0
            have g1 := cell_on HR3.out.1 k1
            have g2 := cell_on HR3.out.1 k2
            have g3 := cell_on HR3.out.1 k3
            go_wp2_with fail
            refine (HAL.out _ HR3.out.1).mono ?_
            rintro e w4 ⟨rfl, hb⟩
            have HB4 := Lib.hid (HR3.out.1.on hb)
            have HO4 := Lib.hid (own_on HR3.out.2.2 hb)
            clear hb HR3 g0 g1 g2 g3
            have g0 := cell_on HB4.out k0
            have g1 := cell_on HB4.out k1
            have g2 := cell_on HB4.out k2
            have g3 := cell_on HB4.out k3
            go_wp2_with fail
            refine (HSL.out _ HB4.out).mono ?_
            rintro e w5 ⟨v, rfl, hv, hb⟩
            have HB5 := Lib.hid (HB4.out.on hb)
            have HSM := Lib.hid (same_any hv (ints_of_own (own_on HO4.out hb) (by have := Lay.upTo_le x k; omega)))
            clear hb HB4 HO4 g0 g1 g2 g3 hv
            go_wp2_with fail
            refine HSM.out.mono ?_
            rintro e w6 ⟨rfl, hb⟩
            have HB6 := Lib.hid (HB5.out.on hb)
            clear hb HSM HB5
            rw [decide_eq_true HTD.out]
            go_wp2
            go_ret
            exact ⟨rfl, HB0.out.on HB6.out⟩
    · have d : ((x.size c).2 != 0) = true := by simpa using hz
      have HTD : Hid (x.told c = []) := Lib.hid (by unfold Lay.told; rw [if_neg hz])
      generalize (x.size c).2 = s2 at *
      generalize (x.size c).1 = s1 at *
      clear hz
      go_wp2_with fail
      refine (HAL.out _ HB2.out).mono ?_
      rintro e w3 ⟨rfl, hb⟩
      have HB3 := Lib.hid (HB2.out.on hb)
      clear hb g0 g1 g2 g3 HB2
      have g0 := cell_on HB3.out k0
      have g1 := cell_on HB3.out k1
      have g2 := cell_on HB3.out k2
      have g3 := cell_on HB3.out k3
      go_wp2_with fail
      refine (HSL.out _ HB3.out).mono ?_
      rintro e w4 ⟨v, rfl, hv, hb⟩
      rw [HTD.out] at hv
      obtain ⟨Av, cv, rfl, hcv, _, _⟩ := hv
      have HB4 := Lib.hid (HB3.out.on hb)
      clear hb HB3 g0 g1 g2 g3
      go_wp2
      go_ret
      exact ⟨rfl, HB0.out.on HB4.out⟩
end Go.Proofs.Ytcffenekomiakaa
