/- LayoutWords: a walk. -/
import Derived.Test.YtcffenekomiakaaDoorDr
import Derived.Test.YtcffenekomiakaaDoorL3
namespace Go.Proofs.YtcffenekomiakaaDoor
open Go.RowKit
set_option linter.unusedVariables false
set_option linter.unusedSimpArgs false
variable {w w' : World}
/-- The layout that words tell. -/
def decW (ws : List Int) : Option Lay := if ws.length = 3 ∧ decOk (ws.getD 0 0).toNat (ws.getD 1 0).toNat (ws.getD 2 0).toNat = true then some (decLay (ws.getD 0 0).toNat (ws.getD 1 0).toNat (ws.getD 2 0).toNat) else none
def emptyL : Lay := ⟨0, [], 0, []⟩
def DecAll (ws : List Int) (w : World) (e : Ending) (w' : World) : Prop :=
  (∃ y A1 c1 A2 c2, decW ws = some y ∧ e = .returned (.tuple #[layV y A1 c1 A2 c2, .int .i64 0]) ∧ LayIs w' y A1 c1 A2 c2 ∧ Below w.heap.size w w') ∨
  (decW ws = none ∧ e = .returned (.tuple #[.agg #[.int .i64 0, .slice none 0 0, .int .i64 0, .slice none 0 0], .int .i64 4]) ∧ Below w.heap.size w w')
def RDecAll (ws : List Int) (w : World) (e : Ending) (w' : World) : Prop :=
  (∃ y A1 c1 A2 c2, decW ws = some y ∧ e = .returned (.tuple #[layV y A1 c1 A2 c2, .bool true]) ∧ LayIs w' y A1 c1 A2 c2 ∧ Below w.heap.size w w') ∨
  (decW ws = none ∧ e = .returned (.tuple #[.agg #[.int .i64 0, .slice none 0 0, .int .i64 0, .slice none 0 0], .bool false]) ∧ Below w.heap.size w w')
theorem words_of {A : Option Addr} {ws : List Int} (h : SliceOf w A 1 (enc1 .u64) 0 ws) (hu : ∀ x ∈ ws, 0 ≤ x ∧ x < 18446744073709551616) (h3 : ws.length = 3) : Words w A (ws.getD 0 0).toNat (ws.getD 1 0).toNat (ws.getD 2 0).toNat ∧ (ws.getD 0 0).toNat < 18446744073709551616 ∧ (ws.getD 1 0).toNat < 18446744073709551616 ∧ (ws.getD 2 0).toNat < 18446744073709551616 := by
  obtain ⟨b, o, rfl, h0⟩ := h 0 (by omega)
  obtain ⟨b1, o1, e1, h1⟩ := h 1 (by omega)
  obtain ⟨b2, o2, e2, h2⟩ := h 2 (by omega)
  cases e1
  cases e2
  have u0 := hu _ (mem_getD (l := ws) (k := 0) (by omega))
  have u1 := hu _ (mem_getD (l := ws) (k := 1) (by omega))
  have u2 := hu _ (mem_getD (l := ws) (k := 2) (by omega))
  refine ⟨⟨b, o, rfl, ?_, ?_, ?_⟩, by omega, by omega, by omega⟩
  · rw [show (((ws.getD 0 0).toNat : Nat) : Int) = ws.getD 0 0 by omega]; exact h0 0 _ rfl
  · rw [show (((ws.getD 1 0).toNat : Nat) : Int) = ws.getD 1 0 by omega]; exact h1 0 _ rfl
  · rw [show (((ws.getD 2 0).toNat : Nat) : Int) = ws.getD 2 0 by omega]; exact h2 0 _ rfl
theorem decode_all (A : Option Addr) (ws : List Int) (cc : Nat) (w : World) (h : SliceOf w A 1 (enc1 .u64) 0 ws) (hu : ∀ x ∈ ws, 0 ≤ x ∧ x < 18446744073709551616) (hcc : ws.length ≤ cc) (hT : Tab w) : Calls Tryd.prog 11 #[.slice A ws.length cc] w (DecAll ws w) := by
  by_cases h3 : ws.length = 3
  · obtain ⟨hW, u0, u1, u2⟩ := words_of h hu h3
    have := decode_any A cc _ _ _ w hW u0 u1 u2 hT (by omega)
    rw [h3]
    refine this.mono fun e w' hd => ?_
    rcases hd with ⟨hok, A1, c1, A2, c2, he, hl, hb⟩ | ⟨hok, he, hb⟩
    · exact .inl ⟨_, A1, c1, A2, c2, by unfold decW; rw [if_pos ⟨h3, hok⟩], he, hl, hb⟩
    · exact .inr ⟨by unfold decW; rw [if_neg (by rw [hok]; simp)], he, hb⟩
  · refine (decode_len A ws.length cc h3 w).mono fun e w' ⟨he, hb⟩ => ?_
    exact .inr ⟨by unfold decW; rw [if_neg (fun k => h3 k.1)], he, hb⟩
theorem refdecode_all (A : Option Addr) (ws : List Int) (cc : Nat) (w : World) (h : SliceOf w A 1 (enc1 .u64) 0 ws) (hu : ∀ x ∈ ws, 0 ≤ x ∧ x < 18446744073709551616) (hcc : ws.length ≤ cc) : Calls Tryd.prog 12 #[.slice A ws.length cc] w (RDecAll ws w) := by
  by_cases h3 : ws.length = 3
  · obtain ⟨hW, u0, u1, u2⟩ := words_of h hu h3
    have := refdecode_any A cc _ _ _ w hW u0 u1 u2 (by omega)
    rw [h3]
    refine this.mono fun e w' hd => ?_
    rcases hd with ⟨hok, A1, c1, A2, c2, he, hl, hb⟩ | ⟨hok, he, hb⟩
    · exact .inl ⟨_, A1, c1, A2, c2, by unfold decW; rw [if_pos ⟨h3, hok⟩], he, hl, hb⟩
    · exact .inr ⟨by unfold decW; rw [if_neg (by rw [hok]; simp)], he, hb⟩
  · refine (refdecode_len A ws.length cc h3 w).mono fun e w' ⟨he, hb⟩ => ?_
    exact .inr ⟨by unfold decW; rw [if_neg (fun k => h3 k.1)], he, hb⟩
theorem encode_words (x : Lay) (A1 : Option Addr) (c1 : Nat) (A2 : Option Addr) (c2 : Nat) (w : World) (h : LayIs w x A1 c1 A2 c2) (hx : x.right = true) :
    Calls Tryd.prog 8 #[layV x A1 c1 A2 c2] w fun e w' => ∃ g, e = .returned (.tuple #[.slice (some ⟨g, 0, none⟩) 3 3, .int .i64 0]) ∧ Words w' (some ⟨g, 0, none⟩) (wd0 x) (wd1 x) (wd2 x) ∧ Below w.heap.size w w' := by
  obtain ⟨q0, q1, q2, _⟩ := right_words hx
  refine (encode_yes x A1 c1 A2 c2 w h hx).mono fun e w' ⟨g, he, hg, _, hb⟩ => ⟨g, he, ?_, hb⟩
  rw [← q0, q1, q2] at hg
  exact ⟨_, _, rfl, (blk_cells hg 0).trans rfl, (blk_cells hg 1).trans rfl, (blk_cells hg 2).trans rfl⟩
set_option maxRecDepth 100000 in
set_option maxHeartbeats 4000000 in
theorem lwords_walk (x : Lay) (A1 : Option Addr) (c1 : Nat) (A2 : Option Addr) (c2 : Nat) (A : Option Addr) (ws : List Int) (cc : Nat) (w : World) (h : LayIs w x A1 c1 A2 c2) (hs : SliceOf w A 1 (enc1 .u64) 0 ws) (hu : ∀ x ∈ ws, 0 ≤ x ∧ x < 18446744073709551616) (hcc : ws.length ≤ cc) (hT : Tab w) :
    Calls Tryd.prog 3 #[layV x A1 c1 A2 c2, .slice A ws.length cc] w fun e w' => e = .returned (.bool true) ∧ Below w.heap.size w w' := by
  have hb0 := below1 w (.cells #[.int .i64 x.fixed, .slice A1 x.refs.length c1, .int .i64 x.record, .slice A2 x.recs.length c2] 24)
  have hblk := heap_alloc_new w (.cells #[.int .i64 x.fixed, .slice A1 x.refs.length c1, .int .i64 x.record, .slice A2 x.recs.length c2] 24)
  have k0 := (blk_cells hblk 0).trans rfl
  have k1 := (blk_cells hblk 1).trans rfl
  have k2 := (blk_cells hblk 2).trans rfl
  have k3 := (blk_cells hblk 3).trans rfl
  have hL := h.on hb0
  have hS := hs.on hb0
  have hT0 := hT.on hb0
  unfold layV
  go_enter Tryd.func3, Tryd.ntmps3
  go_wp2_with fail
  generalize w.alloc (.cells #[.int .i64 x.fixed, .slice A1 x.refs.length c1, .int .i64 x.record, .slice A2 x.recs.length c2] 24) = W0 at *
  have HB0 := Lib.hid hb0
  have HAL : Hid (∀ W, Below W0.heap.size W0 W → Calls Tryd.prog 6 #[] W fun e w' => e = .returned (.bool true) ∧ Below W.heap.size W w') := Lib.hid (fun W _ => alive_any W)
  have HSH : Hid (∀ W, Below W0.heap.size W0 W → Calls Tryd.prog 5 #[.agg #[.int .i64 x.fixed, .slice A1 x.refs.length c1, .int .i64 x.record, .slice A2 x.recs.length c2]] W fun e w' => e = .returned (.bool (shortB x)) ∧ Below W.heap.size W w') := Lib.hid (fun W _ => short_any x A1 c1 A2 c2 W)
  have HRR : Hid (∀ W, Below W0.heap.size W0 W → Calls Tryd.prog 7 #[.agg #[.int .i64 x.fixed, .slice A1 x.refs.length c1, .int .i64 x.record, .slice A2 x.recs.length c2]] W fun e w' => e = .returned (.bool x.right) ∧ Below W.heap.size W w') := Lib.hid (fun W hW => refright_any _ _ _ _ _ W (hL.on hW))
  have HLR : Hid (∀ W, Below W0.heap.size W0 W → Calls Tryd.prog 9 #[.agg #[.int .i64 x.fixed, .slice A1 x.refs.length c1, .int .i64 x.record, .slice A2 x.recs.length c2]] W fun e w' => e = .returned (.bool x.right) ∧ Below W.heap.size W w') := Lib.hid (fun W hW => right_lay _ _ _ _ _ W (hL.on hW))
  have HEY : Hid (x.right = true → ∀ W, Below W0.heap.size W0 W → Calls Tryd.prog 8 #[.agg #[.int .i64 x.fixed, .slice A1 x.refs.length c1, .int .i64 x.record, .slice A2 x.recs.length c2]] W fun e w' => ∃ g, e = .returned (.tuple #[.slice (some ⟨g, 0, none⟩) 3 3, .int .i64 0]) ∧ Words w' (some ⟨g, 0, none⟩) (wd0 x) (wd1 x) (wd2 x) ∧ Below W.heap.size W w') := Lib.hid (fun hx W hW => encode_words _ _ _ _ _ W (hL.on hW) hx)
  have HEN : Hid (x.right = false → ∀ W, Below W0.heap.size W0 W → Calls Tryd.prog 8 #[.agg #[.int .i64 x.fixed, .slice A1 x.refs.length c1, .int .i64 x.record, .slice A2 x.recs.length c2]] W fun e w' => e = .returned (.tuple #[.slice none 0 0, .int .i64 2]) ∧ Below W.heap.size W w') := Lib.hid (fun hx W hW => encode_no _ _ _ _ _ W (hL.on hW) hx)
  have HRE : Hid (x.right = true → ∀ W, Below W0.heap.size W0 W → Calls Tryd.prog 10 #[.agg #[.int .i64 x.fixed, .slice A1 x.refs.length c1, .int .i64 x.record, .slice A2 x.recs.length c2]] W fun e w' => ∃ g, e = .returned (.slice (some ⟨g, 0, none⟩) 3 3) ∧ Words w' (some ⟨g, 0, none⟩) (wd0 x) (wd1 x) (wd2 x) ∧ Below W.heap.size W w') := Lib.hid (fun hx W hW => refencode_any _ _ _ _ _ W (hL.on hW) hx)
  have HDE : Hid (∀ W, Below W0.heap.size W0 W → Calls Tryd.prog 11 #[.slice A ws.length cc] W (DecAll ws W)) := Lib.hid (fun W hW => decode_all A ws cc W (hS.on hW) hu hcc (hT0.on hW))
  have HRD : Hid (∀ W, Below W0.heap.size W0 W → Calls Tryd.prog 12 #[.slice A ws.length cc] W (RDecAll ws W)) := Lib.hid (fun W hW => refdecode_all A ws cc W (hS.on hW) hu hcc)
  clear hb0 hblk h hL hs hS hT hT0 hu
  refine (HSH.out _ (Below.refl _ _)).mono ?_
  rintro e w1 ⟨rfl, hb⟩
  have HB1 := Lib.hid hb
  have g0 := cell_on hb k0
  have g1 := cell_on hb k1
  have g2 := cell_on hb k2
  have g3 := cell_on hb k3
  clear hb
  cases hsh : shortB x with
  | false =>
    go_wp2_with fail
    refine (HAL.out _ HB1.out).mono ?_
    rintro e w2 ⟨rfl, hb⟩
    have HB2 := Lib.hid (HB1.out.on hb)
    clear hb
    go_wp2
    go_ret
    exact ⟨rfl, HB0.out.on HB2.out⟩
  | true =>
    clear hsh
    go_wp2_with fail
    refine (HRR.out _ HB1.out).mono ?_
    rintro e w2 ⟨rfl, hb⟩
    have HB2 := Lib.hid (HB1.out.on hb)
    clear hb HB1 g0 g1 g2 g3
    have g0 := cell_on HB2.out k0
    have g1 := cell_on HB2.out k1
    have g2 := cell_on HB2.out k2
    have g3 := cell_on HB2.out k3
    cases hr : x.right with
    | true =>
      go_wp2_with fail
      refine (HEY.out hr _ HB2.out).mono ?_
      rintro e w3 ⟨ga, rfl, hwa, hb⟩
      have HB3 := Lib.hid (HB2.out.on hb)
      have HWA := Lib.hid hwa
      clear hb hwa HB2 g0 g1 g2 g3
      have g0 := cell_on HB3.out k0
      have g1 := cell_on HB3.out k1
      have g2 := cell_on HB3.out k2
      have g3 := cell_on HB3.out k3
      go_wp2_with fail
      refine (HLR.out _ HB3.out).mono ?_
      rintro e w4 ⟨rfl, hb⟩
      have HB4 := Lib.hid (HB3.out.on hb)
      have HWA4 := Lib.hid (HWA.out.on hb)
      clear hb HB3 HWA g0 g1 g2 g3
      have g0 := cell_on HB4.out k0
      have g1 := cell_on HB4.out k1
      have g2 := cell_on HB4.out k2
      have g3 := cell_on HB4.out k3
      rw [hr]
      go_wp2_with fail
      refine (HRE.out hr _ HB4.out).mono ?_
      rintro e w5 ⟨gb, rfl, hwb, hb⟩
      have HB5 := Lib.hid (HB4.out.on hb)
      obtain ⟨_, _, ea, a0, a1, a2⟩ := HWA4.out.on hb
      cases ea
      obtain ⟨_, _, eb, b0, b1, b2⟩ := hwb
      cases eb
      clear hb HB4 HWA4 g0 g1 g2 g3
      go_wp2_with fail
      go_quiet (fail)
      have HB6 := Lib.hid (below_drewN HB5.out nq)
      clear a0 a1 a2 b0 b1 b2 HB5
      go_wp2_with fail
      refine (HDE.out _ HB6.out).mono ?_
      rintro e w7 (⟨y, e1, n1, e2, n2, hy, rfl, hly, hb⟩ | ⟨hy, rfl, hb⟩)
      · have hbm := heap_alloc_new w7 (.cells #[.int .i64 y.fixed, .slice e1 y.refs.length n1, .int .i64 y.record, .slice e2 y.recs.length n2] 24)
        have HB8 := Lib.hid ((HB6.out.on hb).on (below1 w7 (.cells #[.int .i64 y.fixed, .slice e1 y.refs.length n1, .int .i64 y.record, .slice e2 y.recs.length n2] 24)))
        have HLY := Lib.hid (hly.on (below1 w7 (.cells #[.int .i64 y.fixed, .slice e1 y.refs.length n1, .int .i64 y.record, .slice e2 y.recs.length n2] 24)))
        have hmz : w7.heap.size < (w7.alloc (.cells #[.int .i64 y.fixed, .slice e1 y.refs.length n1, .int .i64 y.record, .slice e2 y.recs.length n2] 24)).heap.size := by simp
        clear hb hly HB6
        unfold layV
        go_wp2_with fail
        refine (HRD.out _ HB8.out).mono ?_
        rintro e w8 (⟨z, d1, m1, d2, m2, hz, rfl, hlz, hb⟩ | ⟨hz, rfl, hb⟩)
        · obtain rfl : y = z := Option.some.inj (hy.symm.trans hz)
          have hbm2 := (Below.heap_alloc w8 (.cells #[.int .i64 y.fixed, .slice d1 y.refs.length m1, .int .i64 y.record, .slice d2 y.recs.length m2] 24) _ (Nat.lt_of_lt_of_le hmz hb.size)).trans ((hb.block _ hmz).trans hbm)
          have hbn2 := heap_alloc_new w8 (.cells #[.int .i64 y.fixed, .slice d1 y.refs.length m1, .int .i64 y.record, .slice d2 y.recs.length m2] 24)
          have hbz := hb.on (below1 w8 (.cells #[.int .i64 y.fixed, .slice d1 y.refs.length m1, .int .i64 y.record, .slice d2 y.recs.length m2] 24))
          have HB9 := Lib.hid (HB8.out.on hbz)
          have HLY9 := Lib.hid (HLY.out.on hbz)
          have HLZ9 := Lib.hid (hlz.on (below1 w8 (.cells #[.int .i64 y.fixed, .slice d1 y.refs.length m1, .int .i64 y.record, .slice d2 y.recs.length m2] 24)))
          clear hb hbz hlz HB8 HLY hbm hmz
          unfold layV
          go_wp2_with fail
          refine (HAL.out _ HB9.out).mono ?_
          rintro e w10 ⟨rfl, hb⟩
          have f1 := (hb.block _ (block_lt hbm2)).trans hbm2
          have f2 := (hb.block _ (block_lt hbn2)).trans hbn2
          have HB10 := Lib.hid (HB9.out.on hb)
          have HSM : Hid (Calls Tryd.prog 13 #[.agg #[.int .i64 y.fixed, .slice e1 y.refs.length n1, .int .i64 y.record, .slice e2 y.recs.length n2], .agg #[.int .i64 y.fixed, .slice d1 y.refs.length m1, .int .i64 y.record, .slice d2 y.recs.length m2]] w10 fun e w' => e = .returned (.bool true) ∧ Below w10.heap.size w10 w') := Lib.hid (by
            have := ref_same y y e1 n1 e2 n2 d1 m1 d2 m2 w10 (HLY9.out.on hb) (HLZ9.out.on hb)
            rw [decide_eq_true ⟨rfl, rfl, rfl, rfl⟩] at this
            exact this)
          clear hb hbm2 hbn2 HB9 HLY9 HLZ9
          have p0 := (blk_cells f1 0).trans rfl
          have p1 := (blk_cells f1 1).trans rfl
          have p2 := (blk_cells f1 2).trans rfl
          have p3 := (blk_cells f1 3).trans rfl
          have q0 := (blk_cells f2 0).trans rfl
          have q1 := (blk_cells f2 1).trans rfl
          have q2 := (blk_cells f2 2).trans rfl
          have q3 := (blk_cells f2 3).trans rfl
          clear f1 f2
          go_wp2_with fail
          refine HSM.out.mono ?_
          rintro e w11 ⟨rfl, hb⟩
          have HB11 := Lib.hid (HB10.out.on hb)
          clear hb HSM p0 p1 p2 p3 q0 q1 q2 q3
          go_wp2
          go_ret
          exact ⟨rfl, HB0.out.on HB11.out⟩
        · rw [hy] at hz; cases hz
      · have hbm := heap_alloc_new w7 (.cells #[.int .i64 0, .slice none 0 0, .int .i64 0, .slice none 0 0] 24)
        have HB8 := Lib.hid ((HB6.out.on hb).on (below1 w7 (.cells #[.int .i64 0, .slice none 0 0, .int .i64 0, .slice none 0 0] 24)))
        have hmz : w7.heap.size < (w7.alloc (.cells #[.int .i64 0, .slice none 0 0, .int .i64 0, .slice none 0 0] 24)).heap.size := by simp
        clear hb HB6
        go_wp2_with fail
        refine (HRD.out _ HB8.out).mono ?_
        rintro e w8 (⟨z, d1, m1, d2, m2, hz, rfl, hlz, hb⟩ | ⟨hz, rfl, hb⟩)
        · rw [hy] at hz; cases hz
        · have hbm2 := (Below.heap_alloc w8 (.cells #[.int .i64 0, .slice none 0 0, .int .i64 0, .slice none 0 0] 24) _ (Nat.lt_of_lt_of_le hmz hb.size)).trans ((hb.block _ hmz).trans hbm)
          have hbn2 := heap_alloc_new w8 (.cells #[.int .i64 0, .slice none 0 0, .int .i64 0, .slice none 0 0] 24)
          have hbz := hb.on (below1 w8 (.cells #[.int .i64 0, .slice none 0 0, .int .i64 0, .slice none 0 0] 24))
          have HB9 := Lib.hid (HB8.out.on hbz)
          clear hb hbz HB8 hbm hmz
          go_wp2_with fail
          refine (HAL.out _ HB9.out).mono ?_
          rintro e w10 ⟨rfl, hb⟩
          have f1 := (hb.block _ (block_lt hbm2)).trans hbm2
          have f2 := (hb.block _ (block_lt hbn2)).trans hbn2
          have HB10 := Lib.hid (HB9.out.on hb)
          have hem : LayIs w10 emptyL none 0 none 0 := ⟨fun i hi => by simp [emptyL] at hi, Nat.le_refl _, Nat.zero_le _, fun i hi => by simp [emptyL] at hi, Nat.le_refl _, Nat.zero_le _⟩
          have HSM : Hid (Calls Tryd.prog 13 #[.agg #[.int .i64 0, .slice none 0 0, .int .i64 0, .slice none 0 0], .agg #[.int .i64 0, .slice none 0 0, .int .i64 0, .slice none 0 0]] w10 fun e w' => e = .returned (.bool true) ∧ Below w10.heap.size w10 w') := Lib.hid (by
            have := ref_same emptyL emptyL none 0 none 0 none 0 none 0 w10 hem hem
            rw [decide_eq_true ⟨rfl, rfl, rfl, rfl⟩] at this
            exact this)
          clear hb hbm2 hbn2 HB9 hem
          have p0 := (blk_cells f1 0).trans rfl
          have p1 := (blk_cells f1 1).trans rfl
          have p2 := (blk_cells f1 2).trans rfl
          have p3 := (blk_cells f1 3).trans rfl
          have q0 := (blk_cells f2 0).trans rfl
          have q1 := (blk_cells f2 1).trans rfl
          have q2 := (blk_cells f2 2).trans rfl
          have q3 := (blk_cells f2 3).trans rfl
          clear f1 f2
          go_wp2_with fail
          refine HSM.out.mono ?_
          rintro e w11 ⟨rfl, hb⟩
          have HB11 := Lib.hid (HB10.out.on hb)
          clear hb HSM p0 p1 p2 p3 q0 q1 q2 q3
          go_wp2
          go_ret
          exact ⟨rfl, HB0.out.on HB11.out⟩
    | false =>
      go_wp2_with fail
      refine (HEN.out hr _ HB2.out).mono ?_
      rintro e w3 ⟨rfl, hb⟩
      have HB3 := Lib.hid (HB2.out.on hb)
      clear hb HB2 g0 g1 g2 g3
      have g0 := cell_on HB3.out k0
      have g1 := cell_on HB3.out k1
      have g2 := cell_on HB3.out k2
      have g3 := cell_on HB3.out k3
      go_wp2_with fail
      refine (HLR.out _ HB3.out).mono ?_
      rintro e w4 ⟨rfl, hb⟩
      have HB6 := Lib.hid (HB3.out.on hb)
      clear hb HB3 g0 g1 g2 g3
      rw [hr]
      go_wp2_with fail
      refine (HDE.out _ HB6.out).mono ?_
      rintro e w7 (⟨y, e1, n1, e2, n2, hy, rfl, hly, hb⟩ | ⟨hy, rfl, hb⟩)
      · have hbm := heap_alloc_new w7 (.cells #[.int .i64 y.fixed, .slice e1 y.refs.length n1, .int .i64 y.record, .slice e2 y.recs.length n2] 24)
        have HB8 := Lib.hid ((HB6.out.on hb).on (below1 w7 (.cells #[.int .i64 y.fixed, .slice e1 y.refs.length n1, .int .i64 y.record, .slice e2 y.recs.length n2] 24)))
        have HLY := Lib.hid (hly.on (below1 w7 (.cells #[.int .i64 y.fixed, .slice e1 y.refs.length n1, .int .i64 y.record, .slice e2 y.recs.length n2] 24)))
        have hmz : w7.heap.size < (w7.alloc (.cells #[.int .i64 y.fixed, .slice e1 y.refs.length n1, .int .i64 y.record, .slice e2 y.recs.length n2] 24)).heap.size := by simp
        clear hb hly HB6
        unfold layV
        go_wp2_with fail
        refine (HRD.out _ HB8.out).mono ?_
        rintro e w8 (⟨z, d1, m1, d2, m2, hz, rfl, hlz, hb⟩ | ⟨hz, rfl, hb⟩)
        · obtain rfl : y = z := Option.some.inj (hy.symm.trans hz)
          have hbm2 := (Below.heap_alloc w8 (.cells #[.int .i64 y.fixed, .slice d1 y.refs.length m1, .int .i64 y.record, .slice d2 y.recs.length m2] 24) _ (Nat.lt_of_lt_of_le hmz hb.size)).trans ((hb.block _ hmz).trans hbm)
          have hbn2 := heap_alloc_new w8 (.cells #[.int .i64 y.fixed, .slice d1 y.refs.length m1, .int .i64 y.record, .slice d2 y.recs.length m2] 24)
          have hbz := hb.on (below1 w8 (.cells #[.int .i64 y.fixed, .slice d1 y.refs.length m1, .int .i64 y.record, .slice d2 y.recs.length m2] 24))
          have HB9 := Lib.hid (HB8.out.on hbz)
          have HLY9 := Lib.hid (HLY.out.on hbz)
          have HLZ9 := Lib.hid (hlz.on (below1 w8 (.cells #[.int .i64 y.fixed, .slice d1 y.refs.length m1, .int .i64 y.record, .slice d2 y.recs.length m2] 24)))
          clear hb hbz hlz HB8 HLY hbm hmz
          unfold layV
          go_wp2_with fail
          refine (HAL.out _ HB9.out).mono ?_
          rintro e w10 ⟨rfl, hb⟩
          have f1 := (hb.block _ (block_lt hbm2)).trans hbm2
          have f2 := (hb.block _ (block_lt hbn2)).trans hbn2
          have HB10 := Lib.hid (HB9.out.on hb)
          have HSM : Hid (Calls Tryd.prog 13 #[.agg #[.int .i64 y.fixed, .slice e1 y.refs.length n1, .int .i64 y.record, .slice e2 y.recs.length n2], .agg #[.int .i64 y.fixed, .slice d1 y.refs.length m1, .int .i64 y.record, .slice d2 y.recs.length m2]] w10 fun e w' => e = .returned (.bool true) ∧ Below w10.heap.size w10 w') := Lib.hid (by
            have := ref_same y y e1 n1 e2 n2 d1 m1 d2 m2 w10 (HLY9.out.on hb) (HLZ9.out.on hb)
            rw [decide_eq_true ⟨rfl, rfl, rfl, rfl⟩] at this
            exact this)
          clear hb hbm2 hbn2 HB9 HLY9 HLZ9
          have p0 := (blk_cells f1 0).trans rfl
          have p1 := (blk_cells f1 1).trans rfl
          have p2 := (blk_cells f1 2).trans rfl
          have p3 := (blk_cells f1 3).trans rfl
          have q0 := (blk_cells f2 0).trans rfl
          have q1 := (blk_cells f2 1).trans rfl
          have q2 := (blk_cells f2 2).trans rfl
          have q3 := (blk_cells f2 3).trans rfl
          clear f1 f2
          go_wp2_with fail
          refine HSM.out.mono ?_
          rintro e w11 ⟨rfl, hb⟩
          have HB11 := Lib.hid (HB10.out.on hb)
          clear hb HSM p0 p1 p2 p3 q0 q1 q2 q3
          go_wp2
          go_ret
          exact ⟨rfl, HB0.out.on HB11.out⟩
        · rw [hy] at hz; cases hz
      · have hbm := heap_alloc_new w7 (.cells #[.int .i64 0, .slice none 0 0, .int .i64 0, .slice none 0 0] 24)
        have HB8 := Lib.hid ((HB6.out.on hb).on (below1 w7 (.cells #[.int .i64 0, .slice none 0 0, .int .i64 0, .slice none 0 0] 24)))
        have hmz : w7.heap.size < (w7.alloc (.cells #[.int .i64 0, .slice none 0 0, .int .i64 0, .slice none 0 0] 24)).heap.size := by simp
        clear hb HB6
        go_wp2_with fail
        refine (HRD.out _ HB8.out).mono ?_
        rintro e w8 (⟨z, d1, m1, d2, m2, hz, rfl, hlz, hb⟩ | ⟨hz, rfl, hb⟩)
        · rw [hy] at hz; cases hz
        · have hbm2 := (Below.heap_alloc w8 (.cells #[.int .i64 0, .slice none 0 0, .int .i64 0, .slice none 0 0] 24) _ (Nat.lt_of_lt_of_le hmz hb.size)).trans ((hb.block _ hmz).trans hbm)
          have hbn2 := heap_alloc_new w8 (.cells #[.int .i64 0, .slice none 0 0, .int .i64 0, .slice none 0 0] 24)
          have hbz := hb.on (below1 w8 (.cells #[.int .i64 0, .slice none 0 0, .int .i64 0, .slice none 0 0] 24))
          have HB9 := Lib.hid (HB8.out.on hbz)
          clear hb hbz HB8 hbm hmz
          go_wp2_with fail
          refine (HAL.out _ HB9.out).mono ?_
          rintro e w10 ⟨rfl, hb⟩
          have f1 := (hb.block _ (block_lt hbm2)).trans hbm2
          have f2 := (hb.block _ (block_lt hbn2)).trans hbn2
          have HB10 := Lib.hid (HB9.out.on hb)
          have hem : LayIs w10 emptyL none 0 none 0 := ⟨fun i hi => by simp [emptyL] at hi, Nat.le_refl _, Nat.zero_le _, fun i hi => by simp [emptyL] at hi, Nat.le_refl _, Nat.zero_le _⟩
          have HSM : Hid (Calls Tryd.prog 13 #[.agg #[.int .i64 0, .slice none 0 0, .int .i64 0, .slice none 0 0], .agg #[.int .i64 0, .slice none 0 0, .int .i64 0, .slice none 0 0]] w10 fun e w' => e = .returned (.bool true) ∧ Below w10.heap.size w10 w') := Lib.hid (by
            have := ref_same emptyL emptyL none 0 none 0 none 0 none 0 w10 hem hem
            rw [decide_eq_true ⟨rfl, rfl, rfl, rfl⟩] at this
            exact this)
          clear hb hbm2 hbn2 HB9 hem
          have p0 := (blk_cells f1 0).trans rfl
          have p1 := (blk_cells f1 1).trans rfl
          have p2 := (blk_cells f1 2).trans rfl
          have p3 := (blk_cells f1 3).trans rfl
          have q0 := (blk_cells f2 0).trans rfl
          have q1 := (blk_cells f2 1).trans rfl
          have q2 := (blk_cells f2 2).trans rfl
          have q3 := (blk_cells f2 3).trans rfl
          clear f1 f2
          go_wp2_with fail
          refine HSM.out.mono ?_
          rintro e w11 ⟨rfl, hb⟩
          have HB11 := Lib.hid (HB10.out.on hb)
          clear hb HSM p0 p1 p2 p3 q0 q1 q2 q3
          go_wp2
          go_ret
          exact ⟨rfl, HB0.out.on HB11.out⟩
end Go.Proofs.YtcffenekomiakaaDoor
