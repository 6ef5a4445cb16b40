/- LayoutBack: a walk. -/
import Derived.Test.YtcffenekomiakaaDoorLw
namespace Go.Proofs.YtcffenekomiakaaDoor
open Go.RowKit
set_option linter.unusedVariables false
set_option linter.unusedSimpArgs false
variable {w w' : World}
theorem decW_some {ws : List Int} {y : Lay} (h : decW ws = some y) : ws.length = 3 ∧ y.right = true ∧ wd0 y = (ws.getD 0 0).toNat ∧ ((ws.getD 1 0).toNat < 18446744073709551616 → wd1 y = (ws.getD 1 0).toNat) ∧ ((ws.getD 2 0).toNat < 18446744073709551616 → wd2 y = (ws.getD 2 0).toNat) := by
  unfold decW at h
  by_cases hc : ws.length = 3 ∧ decOk (ws.getD 0 0).toNat (ws.getD 1 0).toNat (ws.getD 2 0).toNat = true
  · rw [if_pos hc] at h
    obtain rfl := Option.some.inj h
    obtain ⟨h3, hok⟩ := hc
    unfold decOk at hok
    rw [Bool.and_eq_true, decide_eq_true_eq] at hok
    refine ⟨h3, hok.2, ?_, fun hb => ?_, fun hb => ?_⟩
    · unfold wd0 decLay
      simp only
      have := hok.1
      omega
    · exact gather_bits _ hb
    · exact gather_bits _ hb
  · rw [if_neg hc] at h; cases h
set_option maxRecDepth 100000 in
set_option maxHeartbeats 4000000 in
theorem lback_walk (x : Lay) (A1 : Option Addr) (c1 : Nat) (A2 : Option Addr) (c2 : Nat) (A : Option Addr) (ws : List Int) (cc : Nat) (w : World) (h : LayIs w x A1 c1 A2 c2) (hs : SliceOf w A 1 (enc1 .u64) 0 ws) (hu : ∀ x ∈ ws, 0 ≤ x ∧ x < 18446744073709551616) (hcc : ws.length ≤ cc) (hT : Tab w) :
    Calls Tryd.prog 4 #[layV x A1 c1 A2 c2, .slice A ws.length cc] w fun e w' => e = .returned (.bool true) ∧ Below w.heap.size w w' := by
  have hb0 := below1 w (.cells #[.int .i64 x.fixed, .slice A1 x.refs.length c1, .int .i64 x.record, .slice A2 x.recs.length c2] 24)
  have hblk := heap_alloc_new w (.cells #[.int .i64 x.fixed, .slice A1 x.refs.length c1, .int .i64 x.record, .slice A2 x.recs.length c2] 24)
  have k0 := (blk_cells hblk 0).trans rfl
  have k1 := (blk_cells hblk 1).trans rfl
  have k2 := (blk_cells hblk 2).trans rfl
  have k3 := (blk_cells hblk 3).trans rfl
  have hL := h.on hb0
  have hS := hs.on hb0
  have hT0 := hT.on hb0
  unfold layV
  go_enter Tryd.func4, Tryd.ntmps4
  go_wp2_with fail
  generalize w.alloc (.cells #[.int .i64 x.fixed, .slice A1 x.refs.length c1, .int .i64 x.record, .slice A2 x.recs.length c2] 24) = W0 at *
  have HB0 := Lib.hid hb0
  have HL0 := Lib.hid hL
  have HS0 := Lib.hid hS
  have HT0 := Lib.hid hT0
  have HU := Lib.hid hu
  have HAL : Hid (∀ W, Below W0.heap.size W0 W → Calls Tryd.prog 6 #[] W fun e w' => e = .returned (.bool true) ∧ Below W.heap.size W w') := Lib.hid (fun W _ => alive_any W)
  have HSH : Hid (∀ W, Below W0.heap.size W0 W → Calls Tryd.prog 5 #[.agg #[.int .i64 x.fixed, .slice A1 x.refs.length c1, .int .i64 x.record, .slice A2 x.recs.length c2]] W fun e w' => e = .returned (.bool (shortB x)) ∧ Below W.heap.size W w') := Lib.hid (fun W _ => short_any x A1 c1 A2 c2 W)
  have HRR : Hid (∀ W, Below W0.heap.size W0 W → Calls Tryd.prog 7 #[.agg #[.int .i64 x.fixed, .slice A1 x.refs.length c1, .int .i64 x.record, .slice A2 x.recs.length c2]] W fun e w' => e = .returned (.bool x.right) ∧ Below W.heap.size W w') := Lib.hid (fun W hW => refright_any _ _ _ _ _ W (hL.on hW))
  have HLR : Hid (∀ W, Below W0.heap.size W0 W → Calls Tryd.prog 9 #[.agg #[.int .i64 x.fixed, .slice A1 x.refs.length c1, .int .i64 x.record, .slice A2 x.recs.length c2]] W fun e w' => e = .returned (.bool x.right) ∧ Below W.heap.size W w') := Lib.hid (fun W hW => right_lay _ _ _ _ _ W (hL.on hW))
  have HEY : Hid (x.right = true → ∀ W, Below W0.heap.size W0 W → Calls Tryd.prog 8 #[.agg #[.int .i64 x.fixed, .slice A1 x.refs.length c1, .int .i64 x.record, .slice A2 x.recs.length c2]] W fun e w' => ∃ g, e = .returned (.tuple #[.slice (some ⟨g, 0, none⟩) 3 3, .int .i64 0]) ∧ Words w' (some ⟨g, 0, none⟩) (wd0 x) (wd1 x) (wd2 x) ∧ Below W.heap.size W w') := Lib.hid (fun hx W hW => encode_words _ _ _ _ _ W (hL.on hW) hx)
  have HDE : Hid (∀ W, Below W0.heap.size W0 W → Calls Tryd.prog 11 #[.slice A ws.length cc] W (DecAll ws W)) := Lib.hid (fun W hW => decode_all A ws cc W (hS.on hW) hu hcc (hT0.on hW))
  clear hb0 hblk h hL hs hS hT hT0 hu
  refine (HSH.out _ (Below.refl _ _)).mono ?_
  rintro e w1 ⟨rfl, hb⟩
  have HB1 := Lib.hid hb
  have g0 := cell_on hb k0
  have g1 := cell_on hb k1
  have g2 := cell_on hb k2
  have g3 := cell_on hb k3
  clear hb
  cases hsh : shortB x with
  | false =>
    go_wp2_with fail
    refine (HAL.out _ HB1.out).mono ?_
    rintro e w2 ⟨rfl, hb⟩
    have HB2 := Lib.hid (HB1.out.on hb)
    clear hb
    go_wp2
    go_ret
    exact ⟨rfl, HB0.out.on HB2.out⟩
  | true =>
    clear hsh
    go_wp2_with fail
    refine (HRR.out _ HB1.out).mono ?_
    rintro e w2 ⟨rfl, hb⟩
    have HB2 := Lib.hid (HB1.out.on hb)
    clear hb HB1 g0 g1 g2 g3
    have g0 := cell_on HB2.out k0
    have g1 := cell_on HB2.out k1
    have g2 := cell_on HB2.out k2
    have g3 := cell_on HB2.out k3
    cases hr : x.right with
    | true =>
      go_wp2_with fail
      refine (HEY.out hr _ HB2.out).mono ?_
      rintro e w3 ⟨ga, rfl, hwa, hb⟩
      have HB3 := Lib.hid (HB2.out.on hb)
      have hdx := decode_any _ 3 _ _ _ w3 hwa (by have := (right_words hr).2.2.2.2.2.1; omega) (by have := (right_words hr).2.2.2.2.2.2.1; omega) (by have := (right_words hr).2.2.2.2.2.2.2.1; omega) (HT0.out.on HB3.out) (by omega)
      have HDX : Hid (Calls Tryd.prog 11 #[.slice (some ⟨ga, 0, none⟩) 3 3] w3 fun e w' => ∃ e1 n1 e2 n2, e = .returned (.tuple #[layV x e1 n1 e2 n2, .int .i64 0]) ∧ LayIs w' x e1 n1 e2 n2 ∧ Below w3.heap.size w3 w') := Lib.hid (hdx.mono fun e w' hd => by
        have hw := right_words hr
        have he : decLay (wd0 x) (wd1 x) (wd2 x) = x := hw.2.2.2.2.2.2.2.2
        have hok : decOk (wd0 x) (wd1 x) (wd2 x) = true := by
          unfold decOk
          rw [he, hr, decide_eq_true hw.2.2.2.2.2.1]; rfl
        rcases hd with ⟨_, A1, c1, A2, c2, h1, h2, h3⟩ | ⟨hn, _⟩
        · rw [he] at h1 h2
          exact ⟨A1, c1, A2, c2, h1, h2, h3⟩
        · rw [hok] at hn; cases hn)
      clear hb hwa hdx HB2 g0 g1 g2 g3
      go_wp2_with fail
      refine HDX.out.mono ?_
      rintro e w4 ⟨e1, n1, e2, n2, rfl, hlx, hb⟩
      have hbm := heap_alloc_new w4 (.cells #[.int .i64 x.fixed, .slice e1 x.refs.length n1, .int .i64 x.record, .slice e2 x.recs.length n2] 24)
      have HB5 := Lib.hid ((HB3.out.on hb).on (below1 w4 (.cells #[.int .i64 x.fixed, .slice e1 x.refs.length n1, .int .i64 x.record, .slice e2 x.recs.length n2] 24)))
      have HSM : Hid (Calls Tryd.prog 13 #[.agg #[.int .i64 x.fixed, .slice A1 x.refs.length c1, .int .i64 x.record, .slice A2 x.recs.length c2], .agg #[.int .i64 x.fixed, .slice e1 x.refs.length n1, .int .i64 x.record, .slice e2 x.recs.length n2]] (w4.alloc (.cells #[.int .i64 x.fixed, .slice e1 x.refs.length n1, .int .i64 x.record, .slice e2 x.recs.length n2] 24)) fun e w' => e = .returned (.bool true) ∧ Below (w4.alloc (.cells #[.int .i64 x.fixed, .slice e1 x.refs.length n1, .int .i64 x.record, .slice e2 x.recs.length n2] 24)).heap.size (w4.alloc (.cells #[.int .i64 x.fixed, .slice e1 x.refs.length n1, .int .i64 x.record, .slice e2 x.recs.length n2] 24)) w') := Lib.hid (by
        have := ref_same x x A1 c1 A2 c2 e1 n1 e2 n2 _ (HL0.out.on HB5.out) (hlx.on (below1 w4 (.cells #[.int .i64 x.fixed, .slice e1 x.refs.length n1, .int .i64 x.record, .slice e2 x.recs.length n2] 24)))
        rw [decide_eq_true ⟨rfl, rfl, rfl, rfl⟩] at this
        exact this)
      have g0 := cell_on HB5.out k0
      have g1 := cell_on HB5.out k1
      have g2 := cell_on HB5.out k2
      have g3 := cell_on HB5.out k3
      have m0 := (blk_cells hbm 0).trans rfl
      have m1 := (blk_cells hbm 1).trans rfl
      have m2 := (blk_cells hbm 2).trans rfl
      have m3 := (blk_cells hbm 3).trans rfl
      clear hb hbm hlx HDX HB3
      unfold layV
      go_wp2_with fail
      refine HSM.out.mono ?_
      rintro e w6 ⟨rfl, hb⟩
      have HB6 := Lib.hid (HB5.out.on hb)
      clear hb HSM HB5 g0 g1 g2 g3 m0 m1 m2 m3
      go_wp2_with fail
      refine (HDE.out _ HB6.out).mono ?_
      rintro e w7 (⟨y, e1, n1, e2, n2, hy, rfl, hly, hb⟩ | ⟨hy, rfl, hb⟩)
      · obtain ⟨hws, hyr, v0, v1, v2⟩ := decW_some hy
        have hbm := heap_alloc_new w7 (.cells #[.int .i64 y.fixed, .slice e1 y.refs.length n1, .int .i64 y.record, .slice e2 y.recs.length n2] 24)
        have HB8 := Lib.hid ((HB6.out.on hb).on (below1 w7 (.cells #[.int .i64 y.fixed, .slice e1 y.refs.length n1, .int .i64 y.record, .slice e2 y.recs.length n2] 24)))
        have HLY := Lib.hid (hly.on (below1 w7 (.cells #[.int .i64 y.fixed, .slice e1 y.refs.length n1, .int .i64 y.record, .slice e2 y.recs.length n2] 24)))
        have HENY : Hid (∀ W, LayIs W y e1 n1 e2 n2 → Calls Tryd.prog 8 #[.agg #[.int .i64 y.fixed, .slice e1 y.refs.length n1, .int .i64 y.record, .slice e2 y.recs.length n2]] W fun e w' => ∃ g, e = .returned (.tuple #[.slice (some ⟨g, 0, none⟩) 3 3, .int .i64 0]) ∧ Words w' (some ⟨g, 0, none⟩) (wd0 y) (wd1 y) (wd2 y) ∧ Below W.heap.size W w') := Lib.hid (fun W hW => encode_words _ _ _ _ _ W hW hyr)
        have HRY : Hid (∀ W, LayIs W y e1 n1 e2 n2 → Calls Tryd.prog 9 #[.agg #[.int .i64 y.fixed, .slice e1 y.refs.length n1, .int .i64 y.record, .slice e2 y.recs.length n2]] W fun e w' => e = .returned (.bool true) ∧ Below W.heap.size W w') := Lib.hid (fun W hW => by
          have := right_lay _ _ _ _ _ W hW
          rwa [hyr] at this)
        have HBM := Lib.hid hbm
        rw [hws]
        have m0 := (blk_cells hbm 0).trans rfl
        have m1 := (blk_cells hbm 1).trans rfl
        have m2 := (blk_cells hbm 2).trans rfl
        have m3 := (blk_cells hbm 3).trans rfl
        clear hb hly HB6 hbm
        unfold layV
        go_wp2_with fail
        refine (HENY.out _ HLY.out).mono ?_
        rintro e w8 ⟨gx, rfl, hwx, hb⟩
        have HB9 := Lib.hid (HB8.out.on hb)
        have HLY9 := Lib.hid (HLY.out.on hb)
        have HBM9 := Lib.hid ((hb.block _ (block_lt HBM.out)).trans HBM.out)
        obtain ⟨_, _, ex, x0, x1, x2⟩ := hwx
        cases ex
        clear hb HB8 HLY HBM m0 m1 m2 m3 HENY
        obtain ⟨⟨bw, ow, rfl, y0, y1, y2⟩, _, u1, u2⟩ := words_of (HS0.out.on HB9.out) HU.out hws
        rw [v0] at x0
        rw [v1 u1] at x1
        rw [v2 u2] at x2
        generalize (ws.getD 0 0).toNat = z0 at *
        generalize (ws.getD 1 0).toNat = z1 at *
        generalize (ws.getD 2 0).toNat = z2 at *
        go_wp2_with fail
        go_loopw [71] (fun v71 wr => ∃ k n : Nat, k ≤ 3 ∧ v71 = .int .i64 k ∧ wr = w8.drewN n) (fun v71 _ => 3 - (intOf v71).toNat)
        case atStart => exact ⟨0, 0, by omega, rfl, rfl⟩
        case round =>
          obtain ⟨k, n, hk, rfl, rfl⟩ := hrel
          have x0' : (w8.drewN n).cell? ⟨gx, 0, none⟩ = some (.int .u64 z0) := x0
          have x1' : (w8.drewN n).cell? ⟨gx, 1, none⟩ = some (.int .u64 z1) := x1
          have x2' : (w8.drewN n).cell? ⟨gx, 2, none⟩ = some (.int .u64 z2) := x2
          have y0' : (w8.drewN n).cell? ⟨bw, ow, none⟩ = some (.int .u64 z0) := y0
          have y1' : (w8.drewN n).cell? ⟨bw, ow + 1, none⟩ = some (.int .u64 z1) := y1
          have y2' : (w8.drewN n).cell? ⟨bw, ow + 2, none⟩ = some (.int .u64 z2) := y2
          clear x0 x1 x2 y0 y1 y2
          generalize hW9 : w8.drewN n = W9 at *
          rcases k with _ | _ | _ | _ | k
          · go_wp2
            go_quiet (fail)
            go_wp2
            go_roundw
            case rel => exact ⟨1, n + nq, by omega, rfl, by rw [← hW9, World.drewN_drewN]⟩
            case measure => simp [intOf]
          · go_wp2
            go_quiet (fail)
            go_wp2
            go_roundw
            case rel => exact ⟨2, n + nq, by omega, rfl, by rw [← hW9, World.drewN_drewN]⟩
            case measure => simp [intOf]
          · go_wp2
            go_quiet (fail)
            go_wp2
            go_roundw
            case rel => exact ⟨3, n + nq, by omega, rfl, by rw [← hW9, World.drewN_drewN]⟩
            case measure => simp [intOf]
          · have HB10 : Hid (Below W0.heap.size W0 W9) := Lib.hid (by rw [← hW9]; exact below_drewN HB9.out _)
            have HLY10 : Hid (LayIs W9 y e1 n1 e2 n2) := Lib.hid (by rw [← hW9]; exact HLY9.out.on (below_drewN (Below.refl _ _) _))
            have HBM10 : Hid (W9.heap[w7.heap.size]? = some (.cells #[.int .i64 y.fixed, .slice e1 y.refs.length n1, .int .i64 y.record, .slice e2 y.recs.length n2] 24 (0, 0))) := Lib.hid (by rw [← hW9]; exact HBM9.out)
            go_wp2_with fail
            refine (HAL.out _ HB10.out).mono ?_
            rintro e w10 ⟨rfl, hb⟩
            have HB11 := Lib.hid (HB10.out.on hb)
            have HLY11 := Lib.hid (HLY10.out.on hb)
            have f1 := (hb.block _ (block_lt HBM10.out)).trans HBM10.out
            have m0 := (blk_cells f1 0).trans rfl
            have m1 := (blk_cells f1 1).trans rfl
            have m2 := (blk_cells f1 2).trans rfl
            have m3 := (blk_cells f1 3).trans rfl
            clear hb f1
            go_wp2_with fail
            refine (HRY.out _ HLY11.out).mono ?_
            rintro e w11 ⟨rfl, hb⟩
            have HB12 := Lib.hid (HB11.out.on hb)
            clear hb
            go_wp2
            go_ret
            exact ⟨rfl, HB0.out.on HB12.out⟩
          · omega
      · have hbm := heap_alloc_new w7 (.cells #[.int .i64 0, .slice none 0 0, .int .i64 0, .slice none 0 0] 24)
        have HB8 := Lib.hid ((HB6.out.on hb).on (below1 w7 (.cells #[.int .i64 0, .slice none 0 0, .int .i64 0, .slice none 0 0] 24)))
        have HBM := Lib.hid hbm
        clear hb HB6 hbm
        go_wp2_with fail
        refine (HAL.out _ HB8.out).mono ?_
        rintro e w8 ⟨rfl, hb⟩
        have HB9 := Lib.hid (HB8.out.on hb)
        have f1 := (hb.block _ (block_lt HBM.out)).trans HBM.out
        have m0 := (blk_cells f1 0).trans rfl
        have m1 := (blk_cells f1 1).trans rfl
        have m2 := (blk_cells f1 2).trans rfl
        have m3 := (blk_cells f1 3).trans rfl
        have hem : LayIs w8 emptyL none 0 none 0 := ⟨fun i hi => by simp [emptyL] at hi, Nat.le_refl _, Nat.zero_le _, fun i hi => by simp [emptyL] at hi, Nat.le_refl _, Nat.zero_le _⟩
        have HRE : Hid (Calls Tryd.prog 9 #[.agg #[.int .i64 0, .slice none 0 0, .int .i64 0, .slice none 0 0]] w8 fun e w' => e = .returned (.bool false) ∧ Below w8.heap.size w8 w') := Lib.hid (by
          have := right_lay emptyL none 0 none 0 w8 hem
          rw [show emptyL.right = false from by decide +kernel] at this
          exact this)
        clear hb f1 hem
        go_wp2_with fail
        refine HRE.out.mono ?_
        rintro e w9 ⟨rfl, hb⟩
        have HB10 := Lib.hid (HB9.out.on hb)
        clear hb
        go_wp2
        go_ret
        exact ⟨rfl, HB0.out.on HB10.out⟩
    | false =>
      have HB6 := HB2
      clear HB2 g0 g1 g2 g3
      go_wp2_with fail
      refine (HDE.out _ HB6.out).mono ?_
      rintro e w7 (⟨y, e1, n1, e2, n2, hy, rfl, hly, hb⟩ | ⟨hy, rfl, hb⟩)
      · obtain ⟨hws, hyr, v0, v1, v2⟩ := decW_some hy
        have hbm := heap_alloc_new w7 (.cells #[.int .i64 y.fixed, .slice e1 y.refs.length n1, .int .i64 y.record, .slice e2 y.recs.length n2] 24)
        have HB8 := Lib.hid ((HB6.out.on hb).on (below1 w7 (.cells #[.int .i64 y.fixed, .slice e1 y.refs.length n1, .int .i64 y.record, .slice e2 y.recs.length n2] 24)))
        have HLY := Lib.hid (hly.on (below1 w7 (.cells #[.int .i64 y.fixed, .slice e1 y.refs.length n1, .int .i64 y.record, .slice e2 y.recs.length n2] 24)))
        have HENY : Hid (∀ W, LayIs W y e1 n1 e2 n2 → Calls Tryd.prog 8 #[.agg #[.int .i64 y.fixed, .slice e1 y.refs.length n1, .int .i64 y.record, .slice e2 y.recs.length n2]] W fun e w' => ∃ g, e = .returned (.tuple #[.slice (some ⟨g, 0, none⟩) 3 3, .int .i64 0]) ∧ Words w' (some ⟨g, 0, none⟩) (wd0 y) (wd1 y) (wd2 y) ∧ Below W.heap.size W w') := Lib.hid (fun W hW => encode_words _ _ _ _ _ W hW hyr)
        have HRY : Hid (∀ W, LayIs W y e1 n1 e2 n2 → Calls Tryd.prog 9 #[.agg #[.int .i64 y.fixed, .slice e1 y.refs.length n1, .int .i64 y.record, .slice e2 y.recs.length n2]] W fun e w' => e = .returned (.bool true) ∧ Below W.heap.size W w') := Lib.hid (fun W hW => by
          have := right_lay _ _ _ _ _ W hW
          rwa [hyr] at this)
        have HBM := Lib.hid hbm
        rw [hws]
        have m0 := (blk_cells hbm 0).trans rfl
        have m1 := (blk_cells hbm 1).trans rfl
        have m2 := (blk_cells hbm 2).trans rfl
        have m3 := (blk_cells hbm 3).trans rfl
        clear hb hly HB6 hbm
        unfold layV
        go_wp2_with fail
        refine (HENY.out _ HLY.out).mono ?_
        rintro e w8 ⟨gx, rfl, hwx, hb⟩
        have HB9 := Lib.hid (HB8.out.on hb)
        have HLY9 := Lib.hid (HLY.out.on hb)
        have HBM9 := Lib.hid ((hb.block _ (block_lt HBM.out)).trans HBM.out)
        obtain ⟨_, _, ex, x0, x1, x2⟩ := hwx
        cases ex
        clear hb HB8 HLY HBM m0 m1 m2 m3 HENY
        obtain ⟨⟨bw, ow, rfl, y0, y1, y2⟩, _, u1, u2⟩ := words_of (HS0.out.on HB9.out) HU.out hws
        rw [v0] at x0
        rw [v1 u1] at x1
        rw [v2 u2] at x2
        generalize (ws.getD 0 0).toNat = z0 at *
        generalize (ws.getD 1 0).toNat = z1 at *
        generalize (ws.getD 2 0).toNat = z2 at *
        go_wp2_with fail
        go_loopw [71] (fun v71 wr => ∃ k n : Nat, k ≤ 3 ∧ v71 = .int .i64 k ∧ wr = w8.drewN n) (fun v71 _ => 3 - (intOf v71).toNat)
        case atStart => exact ⟨0, 0, by omega, rfl, rfl⟩
        case round =>
          obtain ⟨k, n, hk, rfl, rfl⟩ := hrel
          have x0' : (w8.drewN n).cell? ⟨gx, 0, none⟩ = some (.int .u64 z0) := x0
          have x1' : (w8.drewN n).cell? ⟨gx, 1, none⟩ = some (.int .u64 z1) := x1
          have x2' : (w8.drewN n).cell? ⟨gx, 2, none⟩ = some (.int .u64 z2) := x2
          have y0' : (w8.drewN n).cell? ⟨bw, ow, none⟩ = some (.int .u64 z0) := y0
          have y1' : (w8.drewN n).cell? ⟨bw, ow + 1, none⟩ = some (.int .u64 z1) := y1
          have y2' : (w8.drewN n).cell? ⟨bw, ow + 2, none⟩ = some (.int .u64 z2) := y2
          clear x0 x1 x2 y0 y1 y2
          generalize hW9 : w8.drewN n = W9 at *
          rcases k with _ | _ | _ | _ | k
          · go_wp2
            go_quiet (fail)
            go_wp2
            go_roundw
            case rel => exact ⟨1, n + nq, by omega, rfl, by rw [← hW9, World.drewN_drewN]⟩
            case measure => simp [intOf]
          · go_wp2
            go_quiet (fail)
            go_wp2
            go_roundw
            case rel => exact ⟨2, n + nq, by omega, rfl, by rw [← hW9, World.drewN_drewN]⟩
            case measure => simp [intOf]
          · go_wp2
            go_quiet (fail)
            go_wp2
            go_roundw
            case rel => exact ⟨3, n + nq, by omega, rfl, by rw [← hW9, World.drewN_drewN]⟩
            case measure => simp [intOf]
          · have HB10 : Hid (Below W0.heap.size W0 W9) := Lib.hid (by rw [← hW9]; exact below_drewN HB9.out _)
            have HLY10 : Hid (LayIs W9 y e1 n1 e2 n2) := Lib.hid (by rw [← hW9]; exact HLY9.out.on (below_drewN (Below.refl _ _) _))
            have HBM10 : Hid (W9.heap[w7.heap.size]? = some (.cells #[.int .i64 y.fixed, .slice e1 y.refs.length n1, .int .i64 y.record, .slice e2 y.recs.length n2] 24 (0, 0))) := Lib.hid (by rw [← hW9]; exact HBM9.out)
            go_wp2_with fail
            refine (HAL.out _ HB10.out).mono ?_
            rintro e w10 ⟨rfl, hb⟩
            have HB11 := Lib.hid (HB10.out.on hb)
            have HLY11 := Lib.hid (HLY10.out.on hb)
            have f1 := (hb.block _ (block_lt HBM10.out)).trans HBM10.out
            have m0 := (blk_cells f1 0).trans rfl
            have m1 := (blk_cells f1 1).trans rfl
            have m2 := (blk_cells f1 2).trans rfl
            have m3 := (blk_cells f1 3).trans rfl
            clear hb f1
            go_wp2_with fail
            refine (HRY.out _ HLY11.out).mono ?_
            rintro e w11 ⟨rfl, hb⟩
            have HB12 := Lib.hid (HB11.out.on hb)
            clear hb
            go_wp2
            go_ret
            exact ⟨rfl, HB0.out.on HB12.out⟩
          · omega
      · have hbm := heap_alloc_new w7 (.cells #[.int .i64 0, .slice none 0 0, .int .i64 0, .slice none 0 0] 24)
        have HB8 := Lib.hid ((HB6.out.on hb).on (below1 w7 (.cells #[.int .i64 0, .slice none 0 0, .int .i64 0, .slice none 0 0] 24)))
        have HBM := Lib.hid hbm
        clear hb HB6 hbm
        go_wp2_with fail
        refine (HAL.out _ HB8.out).mono ?_
        rintro e w8 ⟨rfl, hb⟩
        have HB9 := Lib.hid (HB8.out.on hb)
        have f1 := (hb.block _ (block_lt HBM.out)).trans HBM.out
        have m0 := (blk_cells f1 0).trans rfl
        have m1 := (blk_cells f1 1).trans rfl
        have m2 := (blk_cells f1 2).trans rfl
        have m3 := (blk_cells f1 3).trans rfl
        have hem : LayIs w8 emptyL none 0 none 0 := ⟨fun i hi => by simp [emptyL] at hi, Nat.le_refl _, Nat.zero_le _, fun i hi => by simp [emptyL] at hi, Nat.le_refl _, Nat.zero_le _⟩
        have HRE : Hid (Calls Tryd.prog 9 #[.agg #[.int .i64 0, .slice none 0 0, .int .i64 0, .slice none 0 0]] w8 fun e w' => e = .returned (.bool false) ∧ Below w8.heap.size w8 w') := Lib.hid (by
          have := right_lay emptyL none 0 none 0 w8 hem
          rw [show emptyL.right = false from by decide +kernel] at this
          exact this)
        clear hb f1 hem
        go_wp2_with fail
        refine HRE.out.mono ?_
        rintro e w9 ⟨rfl, hb⟩
        have HB10 := Lib.hid (HB9.out.on hb)
        clear hb
        go_wp2
        go_ret
        exact ⟨rfl, HB0.out.on HB10.out⟩
end Go.Proofs.YtcffenekomiakaaDoor
