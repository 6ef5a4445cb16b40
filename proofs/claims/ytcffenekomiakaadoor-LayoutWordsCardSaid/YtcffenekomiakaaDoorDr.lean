/- Words decoded by the document: walks. -/
import Derived.Test.YtcffenekomiakaaDoorDc
namespace Go.Proofs.YtcffenekomiakaaDoor
open Go.RowKit
set_option linter.unusedVariables false
set_option linter.unusedSimpArgs false
variable {w w' : World}
def RDecPost (a b c : Nat) (w : World) (e : Ending) (w' : World) : Prop :=
  (decOk a b c = true ∧ ∃ A1 c1 A2 c2, e = .returned (.tuple #[layV (decLay a b c) A1 c1 A2 c2, .bool true]) ∧ LayIs w' (decLay a b c) A1 c1 A2 c2 ∧ Below w.heap.size w w') ∨
  (decOk a b c = false ∧ e = .returned (.tuple #[layV ⟨0, [], 0, []⟩ none 0 none 0, .bool false]) ∧ Below w.heap.size w w')
theorem refdecode_len (A : Option Addr) (n c : Nat) (hn : n ≠ 3) (w : World) : Calls Tryd.prog 12 #[.slice A n c] w fun e w' => e = .returned (.tuple #[layV ⟨0, [], 0, []⟩ none 0 none 0, .bool false]) ∧ Below w.heap.size w w' := by
  have d : ((n : Int) != 3) = true := by simp; omega
  go_enter Tryd.func12, Tryd.ntmps12
  go_wp2
  (try simp only [Exit.inBlock, Exit.then])
  refine bodyPost_ret (v := .tuple #[layV ⟨0, [], 0, []⟩ none 0 none 0, .bool false]) ?_ rfl ⟨rfl, ?_⟩
  · rw [results_cell_tmp rfl]
    go_simp
    (try rfl)
  · exact below1 _ _
set_option maxRecDepth 100000 in
set_option maxHeartbeats 2000000 in
theorem refdecode_any (A : Option Addr) (cc a b d : Nat) (w : World) (hW : Words w A a b d) (ha : a < 18446744073709551616) (hb : b < 18446744073709551616) (hd : d < 18446744073709551616) (hcc : 3 ≤ cc) :
    Calls Tryd.prog 12 #[.slice A 3 cc] w (RDecPost a b d w) := by
  obtain ⟨B, o, rfl, q0, q1, q2⟩ := hW
  have hb0 := below1 w (.cells #[.int .i64 0, .slice none 0 0, .int .i64 0, .slice none 0 0] 24)
  have hblk := heap_alloc_new w (.cells #[.int .i64 0, .slice none 0 0, .int .i64 0, .slice none 0 0] 24)
  have p0 := cell_on hb0 q0
  have p1 := cell_on hb0 q1
  have p2 := cell_on hb0 q2
  clear q0 q1 q2
  by_cases hsm : a < 65536
  · have ds : decide ((65536 : Int) ≤ (a : Int)) = false := decide_eq_false (by omega)
    have hq0 : (a : Int) % 256 = ((a % 256 : Nat) : Int) := by omega
    have hq1 : (a : Int) / 256 = ((a / 256 : Nat) : Int) := by omega
    have hq2 : (a : Int).tmod 256 = ((a % 256 : Nat) : Int) := by rw [Int.tmod_eq_emod_of_nonneg (by omega)]; omega
    have hq3 : IntKind.u64.wrap ((a / 256 : Nat) : Int) = ((a / 256 : Nat) : Int) := by rw [IntKind.wrap_u64]; omega
    have hq4 : IntKind.u64.wrap ((a % 256 : Nat) : Int) = ((a % 256 : Nat) : Int) := by rw [IntKind.wrap_u64]; omega
    have hz0 : IntKind.i64.wrap ((a % 256 : Nat) : Int) = ((a % 256 : Nat) : Int) := by rw [IntKind.wrap_i64]; omega
    have hz1 : IntKind.i64.wrap ((a / 256 : Nat) : Int) = ((a / 256 : Nat) : Int) := by rw [IntKind.wrap_i64]; omega
    have HDL : Hid (decLay a b d = ⟨((a % 256 : Nat) : Int), bitsL b, ((a / 256 : Nat) : Int), bitsL d⟩) := Lib.hid rfl
    have HOK0 : Hid (decOk a b d = (decLay a b d).right) := Lib.hid (by unfold decOk; rw [decide_eq_true hsm]; rfl)
    generalize hA0 : a % 256 = f0 at *
    generalize hA1 : a / 256 = f1 at *
    clear hA0 hA1
    go_enter Tryd.func12, Tryd.ntmps12
    go_wp2_with fail
    generalize hW0 : w.alloc (.cells #[.int .i64 0, .slice none 0 0, .int .i64 0, .slice none 0 0] 24) = w3 at *
    have HB0 := Lib.hid hb0
    have HR0 := Lib.hid hblk
    have hsz : w.heap.size < w3.heap.size := block_lt hblk
    have HB3 := Lib.hid (Below.refl w3.heap.size w3)
    clear hW0 hb0 hblk
    have B4 := Below.refl w3.heap.size w3
    have HSP1 : Hid (∀ W, Below w3.heap.size w3 W → Calls Tryd.prog 25 #[.int .u64 b] W (OwnPost (bitsL b) W)) := Lib.hid (fun W _ => places_any b hb W)
    have HSP2 : Hid (∀ W, Below w3.heap.size w3 W → Calls Tryd.prog 25 #[.int .u64 d] W (OwnPost (bitsL d) W)) := Lib.hid (fun W _ => places_any d hd W)
    have HK : Hid (∀ wk, Below w3.heap.size w3 wk → (wk.cell? ⟨B, o, none⟩ = some (.int .u64 a) ∧ wk.cell? ⟨B, o + 1, none⟩ = some (.int .u64 b) ∧ wk.cell? ⟨B, o + 2, none⟩ = some (.int .u64 d)) ∧ Below w3.heap.size w3 wk) := Lib.hid (fun wk h => ⟨⟨cell_on h p0, cell_on h p1, cell_on h p2⟩, h⟩)
    go_region_held3 (fun wk => (wk.cell? ⟨B, o, none⟩ = some (.int .u64 a) ∧ wk.cell? ⟨B, o + 1, none⟩ = some (.int .u64 b) ∧ wk.cell? ⟨B, o + 2, none⟩ = some (.int .u64 d)) ∧ Below w3.heap.size w3 wk) (first | exact HK.out _ (below_drewN B4 1) | exact HK.out _ ((by assumption : _ ∧ Below w3.heap.size w3 _).2.on (below1 _ _)) | exact HK.out _ ((by assumption : _ ∧ Below w3.heap.size w3 _).2.on (by assumption)) | exact HK.out _ (((((by assumption : _ ∧ Below w3.heap.size w3 _).2.setCell (by first | exact Nat.le_refl _ | exact hb4.size) _).setCell (by first | exact Nat.le_refl _ | exact hb4.size) _).setCell (by first | exact Nat.le_refl _ | exact hb4.size) _).setCell (by first | exact Nat.le_refl _ | exact hb4.size) _) | exact HK.out _ (((((below_drewN B4 1).on hb4).on hb5).on (below1 _ _)))) (first | (go_at_call 25; first | (refine (HSP1.out _ (by assumption : _ ∧ Below w3.heap.size w3 _).2).mono ?_; rintro e w4 ⟨v4, rfl, hv4, hb4⟩; clear HSP1; obtain ⟨A4, c4, e4, hc4, -⟩ := own_slice encI 0 (fun _ => rfl) hv4; subst e4; try (have zb := one_blk' hb4; have z0 := (blk_cells zb 0).trans rfl; have z1 := (blk_cells zb 1).trans rfl; have z2 := (blk_cells zb 2).trans rfl; have z3 := (blk_cells zb 3).trans rfl; have t0 := blk_thaw zb 0; have t1 := blk_thaw zb 1; have t2 := blk_thaw zb 2; have t3 := blk_thaw zb 3)) | (refine (HSP2.out _ (by assumption : _ ∧ Below w3.heap.size w3 _).2).mono ?_; rintro e w5 ⟨v5, rfl, hv5, hb5⟩; obtain ⟨A5, c5, e5, hc5, -⟩ := own_slice encI 0 (fun _ => rfl) hv5; subst e5; first | (have zb5 := (hb5.block _ (block_lt zb)).trans zb; have z0 := (blk_cells zb5 0).trans rfl; have z1 := (blk_cells zb5 1).trans rfl; have z2 := (blk_cells zb5 2).trans rfl; have z3 := (blk_cells zb5 3).trans rfl; have t0 := blk_thaw zb5 0; have t1 := blk_thaw zb5 1; have t2 := blk_thaw zb5 2; have t3 := blk_thaw zb5 3) | (have zb5 := one_blk hb5; have z0 := (blk_cells zb5 0).trans rfl; have z1 := (blk_cells zb5 1).trans rfl; have z2 := (blk_cells zb5 2).trans rfl; have z3 := (blk_cells zb5 3).trans rfl; have t0 := blk_thaw zb5 0; have t1 := blk_thaw zb5 1; have t2 := blk_thaw zb5 2; have t3 := blk_thaw zb5 3) | skip)))
    · have hXB := (by assumption : _ ∧ Below w3.heap.size w3 (w5.alloc _)).2
      have hk := heap_alloc_new w5 (.cells #[.int .i64 f0, .slice A4 (bitsL b).length c4, .int .i64 f1, .slice A5 (bitsL d).length c5] 24)
      have hO4 := own_on (own_on hv4 hb5) (below1 w5 (.cells #[.int .i64 f0, .slice A4 (bitsL b).length c4, .int .i64 f1, .slice A5 (bitsL d).length c5] 24))
      have hO5 := own_on hv5 (below1 w5 (.cells #[.int .i64 f0, .slice A4 (bitsL b).length c4, .int .i64 f1, .slice A5 (bitsL d).length c5] 24))
      have hkw : w.heap.size < w5.heap.size := by have h1 := HB3.out.size; have h2 : w3.heap.size ≤ w4.heap.size := hb4.size; have h3 := hb5.size; omega
      generalize w5.alloc (.cells #[.int .i64 f0, .slice A4 (bitsL b).length c4, .int .i64 f1, .slice A5 (bitsL d).length c5] 24) = X at *
      generalize w5.heap.size = k at *
      have HXB := Lib.hid (HB3.out.on hXB)
      have hr := (HXB.out.block _ hsz).trans HR0.out
      clear hb4 hb5 p0 p1 p2 HK B4 HSP2
      try clear zb
      try clear zb5
      have k0 := (blk_cells hk 0).trans rfl
      have k1 := (blk_cells hk 1).trans rfl
      have k2 := (blk_cells hk 2).trans rfl
      have k3 := (blk_cells hk 3).trans rfl
      have r0 := (blk_cells hr 0).trans rfl
      have r1 := (blk_cells hr 1).trans rfl
      have r2 := (blk_cells hr 2).trans rfl
      have r3 := (blk_cells hr 3).trans rfl
      have t0 := blk_thaw hr 0
      have t1 := blk_thaw hr 1
      have t2 := blk_thaw hr 2
      have t3 := blk_thaw hr 3
      have HO4 := Lib.hid hO4
      have HO5 := Lib.hid hO5
      have HHK := Lib.hid hk
      have HHR := Lib.hid hr
      clear hO4 hO5 hk hr hXB hv4 hv5 hc4 hc5
      have HRT : Hid (∀ Y, LayIs Y (decLay a b d) A4 c4 A5 c5 → Calls Tryd.prog 7 #[.agg #[.int .i64 f0, .slice A4 (bitsL b).length c4, .int .i64 (f1 : Nat), .slice A5 (bitsL d).length c5]] Y fun e w' => e = .returned (.bool (decLay a b d).right) ∧ Below Y.heap.size Y w') := Lib.hid (fun Y hY => by
        have := refright_any (decLay a b d) A4 c4 A5 c5 Y hY
        rw [HDL.out] at this ⊢
        exact this)
      have HLY : Hid (LayIs X (decLay a b d) A4 c4 A5 c5) := Lib.hid (by rw [HDL.out]; exact lay_of_own HO4.out HO5.out (bits_len b) (bits_len d))
      have HOK := HOK0
      clear HOK0
      go_wp2_with fail
      refine (HRT.out _ HLY.out).mono ?_
      rintro e w6 ⟨rfl, hb6⟩
      have hk6 := (hb6.block _ (block_lt HHK.out)).trans HHK.out
      have hr6 := (hb6.block _ (block_lt HHR.out)).trans HHR.out
      have HB6 := Lib.hid (HB0.out.on (HXB.out.on hb6))
      have HO46 := Lib.hid (own_on HO4.out hb6)
      have HO56 := Lib.hid (own_on HO5.out hb6)
      clear hb6 k0 k1 k2 k3 r0 r1 r2 r3 t0 t1 t2 t3 HO4 HO5 HHK HHR HXB HRT HLY
      have k0 := (blk_cells hk6 0).trans rfl
      have k1 := (blk_cells hk6 1).trans rfl
      have k2 := (blk_cells hk6 2).trans rfl
      have k3 := (blk_cells hk6 3).trans rfl
      have r0 := (blk_cells hr6 0).trans rfl
      have r1 := (blk_cells hr6 1).trans rfl
      have r2 := (blk_cells hr6 2).trans rfl
      have r3 := (blk_cells hr6 3).trans rfl
      have t0 := blk_thaw hr6 0
      have t1 := blk_thaw hr6 1
      have t2 := blk_thaw hr6 2
      have t3 := blk_thaw hr6 3
      have HR6 := Lib.hid hr6
      clear hk6 hr6
      cases hrt : (decLay a b d).right with
      | true =>
        rw [hrt] at HOK
        go_wp2
        (try simp only [Exit.inBlock, Exit.then])
        refine bodyPost_ret (v := .tuple #[.agg #[.int .i64 f0, .slice A4 (bitsL b).length c4, .int .i64 (f1 : Nat), .slice A5 (bitsL d).length c5], .bool true]) ?_ rfl (.inl ⟨HOK.out, A4, c4, A5, c5, by rw [HDL.out]; rfl, ?_, ?_⟩)
        · rw [results_cell_tmp rfl]
          go_simp
          (try rfl)
        · rw [HDL.out]
          exact lay_of_own (HO46.out.kept (four_grown w6 w.heap.size _ _ _ _) (.inr (own_x HO46.out HR6.out (by decide)))) (HO56.out.kept (four_grown w6 w.heap.size _ _ _ _) (.inr (own_x HO56.out HR6.out (by decide)))) (bits_len b) (bits_len d)
        · exact (((HB6.out.setCell (Nat.le_refl _) _).setCell (Nat.le_refl _) _).setCell (Nat.le_refl _) _).setCell (Nat.le_refl _) _
      | false =>
        rw [hrt] at HOK
        go_wp2
        (try simp only [Exit.inBlock, Exit.then])
        refine bodyPost_ret (v := .tuple #[.agg #[.int .i64 0, .slice none 0 0, .int .i64 0, .slice none 0 0], .bool false]) ?_ rfl (.inr ⟨HOK.out, rfl, ?_⟩)
        · rw [results_cell_tmp rfl]
          go_simp
          (try rfl)
        · exact (((HB6.out.setCell (Nat.le_refl _) _).setCell (Nat.le_refl _) _).setCell (Nat.le_refl _) _).setCell (Nat.le_refl _) _
    · have hXB := (by assumption : _ ∧ Below w3.heap.size w3 ((((w5.setCell ⟨w4.heap.size, 0, none⟩ (.int .i64 f0)).setCell ⟨w4.heap.size, 1, none⟩ (.slice A4 (bitsL b).length c4)).setCell ⟨w4.heap.size, 2, none⟩ (.int .i64 f1)).setCell ⟨w4.heap.size, 3, none⟩ (.slice A5 (bitsL d).length c5))).2
      have hk := four_set (.int .i64 f0) (.slice A4 (bitsL b).length c4) (.int .i64 f1) (.slice A5 (bitsL d).length c5) zb5
      have hO4 := (own_on (own_on hv4 (below1 w4 _)) hb5).kept (four_grown w5 (w4.heap.size) (.int .i64 f0) (.slice A4 (bitsL b).length c4) (.int .i64 f1) (.slice A5 (bitsL d).length c5)) (.inr (own_x (own_on (own_on hv4 (below1 w4 _)) hb5) zb5 (by decide)))
      have hO5 := hv5.kept (four_grown w5 (w4.heap.size) (.int .i64 f0) (.slice A4 (bitsL b).length c4) (.int .i64 f1) (.slice A5 (bitsL d).length c5)) (.inr (own_x hv5 zb5 (by decide)))
      have hkw : w.heap.size < w4.heap.size := by have h1 := HB3.out.size; have h2 : w3.heap.size ≤ w4.heap.size := Nat.le_trans (by simp) hb4.size; omega
      clear z0 z1 z2 z3 t0 t1 t2 t3
      generalize (((w5.setCell ⟨w4.heap.size, 0, none⟩ (.int .i64 f0)).setCell ⟨w4.heap.size, 1, none⟩ (.slice A4 (bitsL b).length c4)).setCell ⟨w4.heap.size, 2, none⟩ (.int .i64 f1)).setCell ⟨w4.heap.size, 3, none⟩ (.slice A5 (bitsL d).length c5) = X at *
      generalize w4.heap.size = k at *
      have HXB := Lib.hid (HB3.out.on hXB)
      have hr := (HXB.out.block _ hsz).trans HR0.out
      clear hb4 hb5 p0 p1 p2 HK B4 HSP2
      try clear zb
      try clear zb5
      have k0 := (blk_cells hk 0).trans rfl
      have k1 := (blk_cells hk 1).trans rfl
      have k2 := (blk_cells hk 2).trans rfl
      have k3 := (blk_cells hk 3).trans rfl
      have r0 := (blk_cells hr 0).trans rfl
      have r1 := (blk_cells hr 1).trans rfl
      have r2 := (blk_cells hr 2).trans rfl
      have r3 := (blk_cells hr 3).trans rfl
      have t0 := blk_thaw hr 0
      have t1 := blk_thaw hr 1
      have t2 := blk_thaw hr 2
      have t3 := blk_thaw hr 3
      have HO4 := Lib.hid hO4
      have HO5 := Lib.hid hO5
      have HHK := Lib.hid hk
      have HHR := Lib.hid hr
      clear hO4 hO5 hk hr hXB hv4 hv5 hc4 hc5
      have HRT : Hid (∀ Y, LayIs Y (decLay a b d) A4 c4 A5 c5 → Calls Tryd.prog 7 #[.agg #[.int .i64 f0, .slice A4 (bitsL b).length c4, .int .i64 (f1 : Nat), .slice A5 (bitsL d).length c5]] Y fun e w' => e = .returned (.bool (decLay a b d).right) ∧ Below Y.heap.size Y w') := Lib.hid (fun Y hY => by
        have := refright_any (decLay a b d) A4 c4 A5 c5 Y hY
        rw [HDL.out] at this ⊢
        exact this)
      have HLY : Hid (LayIs X (decLay a b d) A4 c4 A5 c5) := Lib.hid (by rw [HDL.out]; exact lay_of_own HO4.out HO5.out (bits_len b) (bits_len d))
      have HOK := HOK0
      clear HOK0
      go_wp2_with fail
      refine (HRT.out _ HLY.out).mono ?_
      rintro e w6 ⟨rfl, hb6⟩
      have hk6 := (hb6.block _ (block_lt HHK.out)).trans HHK.out
      have hr6 := (hb6.block _ (block_lt HHR.out)).trans HHR.out
      have HB6 := Lib.hid (HB0.out.on (HXB.out.on hb6))
      have HO46 := Lib.hid (own_on HO4.out hb6)
      have HO56 := Lib.hid (own_on HO5.out hb6)
      clear hb6 k0 k1 k2 k3 r0 r1 r2 r3 t0 t1 t2 t3 HO4 HO5 HHK HHR HXB HRT HLY
      have k0 := (blk_cells hk6 0).trans rfl
      have k1 := (blk_cells hk6 1).trans rfl
      have k2 := (blk_cells hk6 2).trans rfl
      have k3 := (blk_cells hk6 3).trans rfl
      have r0 := (blk_cells hr6 0).trans rfl
      have r1 := (blk_cells hr6 1).trans rfl
      have r2 := (blk_cells hr6 2).trans rfl
      have r3 := (blk_cells hr6 3).trans rfl
      have t0 := blk_thaw hr6 0
      have t1 := blk_thaw hr6 1
      have t2 := blk_thaw hr6 2
      have t3 := blk_thaw hr6 3
      have HR6 := Lib.hid hr6
      clear hk6 hr6
      cases hrt : (decLay a b d).right with
      | true =>
        rw [hrt] at HOK
        go_wp2
        (try simp only [Exit.inBlock, Exit.then])
        refine bodyPost_ret (v := .tuple #[.agg #[.int .i64 f0, .slice A4 (bitsL b).length c4, .int .i64 (f1 : Nat), .slice A5 (bitsL d).length c5], .bool true]) ?_ rfl (.inl ⟨HOK.out, A4, c4, A5, c5, by rw [HDL.out]; rfl, ?_, ?_⟩)
        · rw [results_cell_tmp rfl]
          go_simp
          (try rfl)
        · rw [HDL.out]
          exact lay_of_own (HO46.out.kept (four_grown w6 w.heap.size _ _ _ _) (.inr (own_x HO46.out HR6.out (by decide)))) (HO56.out.kept (four_grown w6 w.heap.size _ _ _ _) (.inr (own_x HO56.out HR6.out (by decide)))) (bits_len b) (bits_len d)
        · exact (((HB6.out.setCell (Nat.le_refl _) _).setCell (Nat.le_refl _) _).setCell (Nat.le_refl _) _).setCell (Nat.le_refl _) _
      | false =>
        rw [hrt] at HOK
        go_wp2
        (try simp only [Exit.inBlock, Exit.then])
        refine bodyPost_ret (v := .tuple #[.agg #[.int .i64 0, .slice none 0 0, .int .i64 0, .slice none 0 0], .bool false]) ?_ rfl (.inr ⟨HOK.out, rfl, ?_⟩)
        · rw [results_cell_tmp rfl]
          go_simp
          (try rfl)
        · exact (((HB6.out.setCell (Nat.le_refl _) _).setCell (Nat.le_refl _) _).setCell (Nat.le_refl _) _).setCell (Nat.le_refl _) _
    · have hXB := (by assumption : _ ∧ Below w3.heap.size w3 ((((w5.setCell ⟨w3.heap.size, 0, none⟩ (.int .i64 f0)).setCell ⟨w3.heap.size, 1, none⟩ (.slice A4 (bitsL b).length c4)).setCell ⟨w3.heap.size, 2, none⟩ (.int .i64 f1)).setCell ⟨w3.heap.size, 3, none⟩ (.slice A5 (bitsL d).length c5))).2
      have hk := four_set (.int .i64 f0) (.slice A4 (bitsL b).length c4) (.int .i64 f1) (.slice A5 (bitsL d).length c5) zb5
      have hO4 := (own_on hv4 hb5).kept (four_grown w5 (w3.heap.size) (.int .i64 f0) (.slice A4 (bitsL b).length c4) (.int .i64 f1) (.slice A5 (bitsL d).length c5)) (.inr (own_x (own_on hv4 hb5) zb5 (by decide)))
      have hO5 := hv5.kept (four_grown w5 (w3.heap.size) (.int .i64 f0) (.slice A4 (bitsL b).length c4) (.int .i64 f1) (.slice A5 (bitsL d).length c5)) (.inr (own_x hv5 zb5 (by decide)))
      have hkw : w.heap.size < w3.heap.size := by have h1 := HB3.out.size; have h2 : w3.heap.size ≤ w4.heap.size := Nat.le_trans (by simp) hb4.size; omega
      clear z0 z1 z2 z3 t0 t1 t2 t3
      generalize (((w5.setCell ⟨w3.heap.size, 0, none⟩ (.int .i64 f0)).setCell ⟨w3.heap.size, 1, none⟩ (.slice A4 (bitsL b).length c4)).setCell ⟨w3.heap.size, 2, none⟩ (.int .i64 f1)).setCell ⟨w3.heap.size, 3, none⟩ (.slice A5 (bitsL d).length c5) = X at *
      have HXB := Lib.hid (HB3.out.on hXB)
      have hr := (HXB.out.block _ hsz).trans HR0.out
      clear hb4 hb5 p0 p1 p2 HK B4 HSP2
      try clear zb
      try clear zb5
      have k0 := (blk_cells hk 0).trans rfl
      have k1 := (blk_cells hk 1).trans rfl
      have k2 := (blk_cells hk 2).trans rfl
      have k3 := (blk_cells hk 3).trans rfl
      have r0 := (blk_cells hr 0).trans rfl
      have r1 := (blk_cells hr 1).trans rfl
      have r2 := (blk_cells hr 2).trans rfl
      have r3 := (blk_cells hr 3).trans rfl
      have t0 := blk_thaw hr 0
      have t1 := blk_thaw hr 1
      have t2 := blk_thaw hr 2
      have t3 := blk_thaw hr 3
      have HO4 := Lib.hid hO4
      have HO5 := Lib.hid hO5
      have HHK := Lib.hid hk
      have HHR := Lib.hid hr
      clear hO4 hO5 hk hr hXB hv4 hv5 hc4 hc5
      have HRT : Hid (∀ Y, LayIs Y (decLay a b d) A4 c4 A5 c5 → Calls Tryd.prog 7 #[.agg #[.int .i64 f0, .slice A4 (bitsL b).length c4, .int .i64 (f1 : Nat), .slice A5 (bitsL d).length c5]] Y fun e w' => e = .returned (.bool (decLay a b d).right) ∧ Below Y.heap.size Y w') := Lib.hid (fun Y hY => by
        have := refright_any (decLay a b d) A4 c4 A5 c5 Y hY
        rw [HDL.out] at this ⊢
        exact this)
      have HLY : Hid (LayIs X (decLay a b d) A4 c4 A5 c5) := Lib.hid (by rw [HDL.out]; exact lay_of_own HO4.out HO5.out (bits_len b) (bits_len d))
      have HOK := HOK0
      clear HOK0
      go_wp2_with fail
      refine (HRT.out _ HLY.out).mono ?_
      rintro e w6 ⟨rfl, hb6⟩
      have hk6 := (hb6.block _ (block_lt HHK.out)).trans HHK.out
      have hr6 := (hb6.block _ (block_lt HHR.out)).trans HHR.out
      have HB6 := Lib.hid (HB0.out.on (HXB.out.on hb6))
      have HO46 := Lib.hid (own_on HO4.out hb6)
      have HO56 := Lib.hid (own_on HO5.out hb6)
      clear hb6 k0 k1 k2 k3 r0 r1 r2 r3 t0 t1 t2 t3 HO4 HO5 HHK HHR HXB HRT HLY
      have k0 := (blk_cells hk6 0).trans rfl
      have k1 := (blk_cells hk6 1).trans rfl
      have k2 := (blk_cells hk6 2).trans rfl
      have k3 := (blk_cells hk6 3).trans rfl
      have r0 := (blk_cells hr6 0).trans rfl
      have r1 := (blk_cells hr6 1).trans rfl
      have r2 := (blk_cells hr6 2).trans rfl
      have r3 := (blk_cells hr6 3).trans rfl
      have t0 := blk_thaw hr6 0
      have t1 := blk_thaw hr6 1
      have t2 := blk_thaw hr6 2
      have t3 := blk_thaw hr6 3
      have HR6 := Lib.hid hr6
      clear hk6 hr6
      cases hrt : (decLay a b d).right with
      | true =>
        rw [hrt] at HOK
        go_wp2
        (try simp only [Exit.inBlock, Exit.then])
        refine bodyPost_ret (v := .tuple #[.agg #[.int .i64 f0, .slice A4 (bitsL b).length c4, .int .i64 (f1 : Nat), .slice A5 (bitsL d).length c5], .bool true]) ?_ rfl (.inl ⟨HOK.out, A4, c4, A5, c5, by rw [HDL.out]; rfl, ?_, ?_⟩)
        · rw [results_cell_tmp rfl]
          go_simp
          (try rfl)
        · rw [HDL.out]
          exact lay_of_own (HO46.out.kept (four_grown w6 w.heap.size _ _ _ _) (.inr (own_x HO46.out HR6.out (by decide)))) (HO56.out.kept (four_grown w6 w.heap.size _ _ _ _) (.inr (own_x HO56.out HR6.out (by decide)))) (bits_len b) (bits_len d)
        · exact (((HB6.out.setCell (Nat.le_refl _) _).setCell (Nat.le_refl _) _).setCell (Nat.le_refl _) _).setCell (Nat.le_refl _) _
      | false =>
        rw [hrt] at HOK
        go_wp2
        (try simp only [Exit.inBlock, Exit.then])
        refine bodyPost_ret (v := .tuple #[.agg #[.int .i64 0, .slice none 0 0, .int .i64 0, .slice none 0 0], .bool false]) ?_ rfl (.inr ⟨HOK.out, rfl, ?_⟩)
        · rw [results_cell_tmp rfl]
          go_simp
          (try rfl)
        · exact (((HB6.out.setCell (Nat.le_refl _) _).setCell (Nat.le_refl _) _).setCell (Nat.le_refl _) _).setCell (Nat.le_refl _) _
  · have ds : decide ((65536 : Int) ≤ (a : Int)) = true := decide_eq_true (by omega)
    have HOK : Hid (decOk a b d = false) := Lib.hid (by unfold decOk; rw [decide_eq_false hsm]; rfl)
    have r0 := (blk_cells hblk 0).trans rfl
    have r1 := (blk_cells hblk 1).trans rfl
    have r2 := (blk_cells hblk 2).trans rfl
    have r3 := (blk_cells hblk 3).trans rfl
    have HB0 := Lib.hid hb0
    go_enter Tryd.func12, Tryd.ntmps12
    go_wp2
    (try simp only [Exit.inBlock, Exit.then])
    refine bodyPost_ret (v := .tuple #[.agg #[.int .i64 0, .slice none 0 0, .int .i64 0, .slice none 0 0], .bool false]) ?_ rfl (.inr ⟨HOK.out, rfl, ?_⟩)
    · rw [results_cell_tmp rfl]
      go_simp
      (try rfl)
    · first | exact HB0.out | exact (((HB0.out.setCell (Nat.le_refl _) _).setCell (Nat.le_refl _) _).setCell (Nat.le_refl _) _).setCell (Nat.le_refl _) _
end Go.Proofs.YtcffenekomiakaaDoor
