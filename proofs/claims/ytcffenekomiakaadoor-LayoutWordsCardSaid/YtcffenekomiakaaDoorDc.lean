/- Words decoded: walks. -/
import Derived.Test.YtcffenekomiakaaDoorDe
import Derived.Laws.ResultCell
namespace Go.Proofs.YtcffenekomiakaaDoor
open Go.RowKit
set_option linter.unusedVariables false
set_option linter.unusedSimpArgs false
variable {w w' : World}
theorem sizes_slice (X : World) : SliceOf (X.alloc (.cells #[.int .i64 0, .int .i64 8, .int .i64 8, .int .i64 8, .int .i64 16, .int .i64 48] 56)) (some ⟨X.heap.size, 0, none⟩) 2 enc2 (0, 0) [(0, 8), (8, 8), (16, 48)] := fun i hi => by
  have hb := heap_alloc_new X (.cells #[.int .i64 0, .int .i64 8, .int .i64 8, .int .i64 8, .int .i64 16, .int .i64 48] 56)
  refine ⟨_, _, rfl, fun j v hv => ?_⟩
  have hi' : i < 3 := hi
  rcases i with _ | _ | _ | i
  · rcases j with _ | _ | j
    · exact ((blk_cells hb 0).trans rfl).trans hv
    · exact ((blk_cells hb 1).trans rfl).trans hv
    · simp [enc2] at hv
  · rcases j with _ | _ | j
    · exact ((blk_cells hb 2).trans rfl).trans hv
    · exact ((blk_cells hb 3).trans rfl).trans hv
    · simp [enc2] at hv
  · rcases j with _ | _ | j
    · exact ((blk_cells hb 4).trans rfl).trans hv
    · exact ((blk_cells hb 5).trans rfl).trans hv
    · simp [enc2] at hv
  · omega
theorem sizes_slice' (X : World) : SliceOf (X.alloc (.cells #[.int .i64 0, .int .i64 8, .int .i64 8, .int .i64 8, .int .i64 16, .int .i64 48] 56)).drew (some ⟨X.heap.size, 0, none⟩) 2 enc2 (0, 0) [(0, 8), (8, 8), (16, 48)] := (sizes_slice X).on (below_drewN (Below.refl _ _) 1)
theorem decode_len (A : Option Addr) (n c : Nat) (hn : n ≠ 3) (w : World) : Calls Tryd.prog 11 #[.slice A n c] w fun e w' => e = .returned (.tuple #[layV ⟨0, [], 0, []⟩ none 0 none 0, .int .i64 4]) ∧ Below w.heap.size w w' := by
  have d : ((n : Int) != 3) = true := by simp; omega
  go_enter Tryd.func11, Tryd.ntmps11
  go_wp2
  (try simp only [Exit.inBlock, Exit.then])
  refine bodyPost_ret (v := .tuple #[layV ⟨0, [], 0, []⟩ none 0 none 0, .int .i64 4]) ?_ rfl ⟨rfl, ?_⟩
  · rw [results_cell_tmp rfl]
    go_simp
    rfl
  · exact below1 _ _
theorem bits_len (v : Nat) : (bitsL v).length ≤ 64 := bitsTo_len v 64
theorem own_x {base k n : Nat} {t : TypeId} {v : Value} {xs : List Value} {cs : Array Value} (h : w.ownsRow base 3 1 v n xs) (hk : w.heap[k]? = some (.cells cs t (0, 0))) (ht : t ≠ 3) : v.ownBlock ≠ some k := by
  rcases h.2 with ⟨rfl, _⟩ | ⟨g, cap, cur, rfl, _, hg, _⟩
  · simp [Value.ownBlock]
  · intro e
    obtain rfl : g = k := by simpa [Value.ownBlock] using e
    rw [hk] at hg
    cases hg
    exact ht rfl
theorem four_set {k : Nat} {t : TypeId} {a b c d : Value} (a' b' c' d' : Value) (h : w.heap[k]? = some (.cells #[a, b, c, d] t (0, 0))) :
    ((((w.setCell ⟨k, 0, none⟩ a').setCell ⟨k, 1, none⟩ b').setCell ⟨k, 2, none⟩ c').setCell ⟨k, 3, none⟩ d').heap[k]? = some (.cells #[a', b', c', d'] t (0, 0)) :=
  blk_set (blk_set (blk_set (blk_set h 0 a') 1 b') 2 c') 3 d'
theorem four_grown (w : World) (k : Nat) (a' b' c' d' : Value) : w.grownBy ((((w.setCell ⟨k, 0, none⟩ a').setCell ⟨k, 1, none⟩ b').setCell ⟨k, 2, none⟩ c').setCell ⟨k, 3, none⟩ d') (some k) :=
  ⟨rfl, rfl, rfl, by simp [World.setCell], fun j _ hj => by
    have hne : j ≠ k := fun e => hj (by rw [e])
    rw [Below.heap_setCell _ _ _ _ hne, Below.heap_setCell _ _ _ _ hne, Below.heap_setCell _ _ _ _ hne, Below.heap_setCell _ _ _ _ hne]⟩
theorem at_world {P : World → Prop} {n : Nat} {b X : World} (h : Below n b X) (hp : P X) : P X := hp
theorem one_blk {X Y : World} {cs : Array Value} {t : TypeId} (hb : Below (X.alloc (.cells cs t)).heap.size (X.alloc (.cells cs t)) Y) : Y.heap[X.heap.size]? = some (.cells cs t (0, 0)) := (hb.block _ (by simp)).trans (heap_alloc_new X _)
theorem one_blk' {X Y : World} {cs : Array Value} {t : TypeId} (hb : Below (X.alloc (.cells cs t)).drew.heap.size (X.alloc (.cells cs t)).drew Y) : Y.heap[X.heap.size]? = some (.cells cs t (0, 0)) := (hb.block _ (show X.heap.size < (X.alloc (.cells cs t)).heap.size by simp)).trans (heap_alloc_new X _)
theorem lay_of_own {y : Lay} {A1 A2 : Option Addr} {c1 c2 b1 b2 : Nat} (h1 : w.ownsRow b1 3 1 (.slice A1 y.refs.length c1) y.refs.length (y.refs.flatMap encI)) (h2 : w.ownsRow b2 3 1 (.slice A2 y.recs.length c2) y.recs.length (y.recs.flatMap encI)) (m1 : y.refs.length ≤ 64) (m2 : y.recs.length ≤ 64) : LayIs w y A1 c1 A2 c2 := by
  obtain ⟨A, c, e, hc, hs⟩ := own_slice encI 0 (fun _ => rfl) h1
  cases e
  obtain ⟨A, c, e, hc', hs'⟩ := own_slice encI 0 (fun _ => rfl) h2
  cases e
  exact ⟨hs, hc, by unfold maxLen; omega, hs', hc', by unfold maxLen; omega⟩
set_option maxRecDepth 100000 in
set_option maxHeartbeats 2000000 in
theorem decode_any (A : Option Addr) (cc a b d : Nat) (w : World) (hW : Words w A a b d) (ha : a < 18446744073709551616) (hb : b < 18446744073709551616) (hd : d < 18446744073709551616) (hT : Tab w) (hcc : 3 ≤ cc) :
    Calls Tryd.prog 11 #[.slice A 3 cc] w (DecPost a b d w) := by
  obtain ⟨B, o, rfl, q0, q1, q2⟩ := hW
  have hb0 := below1 w (.cells #[.int .i64 0, .slice none 0 0, .int .i64 0, .slice none 0 0] 24)
  have hblk := heap_alloc_new w (.cells #[.int .i64 0, .slice none 0 0, .int .i64 0, .slice none 0 0] 24)
  have p0 := cell_on hb0 q0
  have p1 := cell_on hb0 q1
  have p2 := cell_on hb0 q2
  have HT := Lib.hid (hT.on hb0)
  have h0 := hT.lt
  clear hT q0 q1 q2
  go_enter Tryd.func11, Tryd.ntmps11
  go_wp2_with fail
  generalize hW0 : w.alloc (.cells #[.int .i64 0, .slice none 0 0, .int .i64 0, .slice none 0 0] 24) = W0 at *
  have HB0 := Lib.hid hb0
  have HR0 := Lib.hid hblk
  have hsz : w.heap.size < W0.heap.size := block_lt hblk
  clear hW0 hb0 hblk
  have B0 := Below.refl W0.heap.size W0
  go_region_held3 (fun wk => (wk.cell? ⟨B, o, none⟩ = some (.int .u64 a) ∧ wk.cell? ⟨B, o + 1, none⟩ = some (.int .u64 b) ∧ wk.cell? ⟨B, o + 2, none⟩ = some (.int .u64 d)) ∧ Below W0.heap.size W0 wk) (first | exact kp3_drew ⟨⟨p0, p1, p2⟩, B0⟩ | exact kp3_alloc _ (by assumption) | exact kp3_call (by assumption) (by assumption)) (first | (go_at_call 19; refine (sizes_any _).mono ?_; rintro e w2 ⟨rfl, rfl⟩) | (go_at_call 23; refine (unpack_sizes a ha _ _ (by first | exact sizes_slice _ | exact sizes_slice' _)).mono ?_; rintro e w3 ⟨B', o', n', rfl, hn', ⟨x0, x1, x2⟩, hb3⟩))
  have hh := (by assumption : _ ∧ Below W0.heap.size W0 w3)
  obtain ⟨⟨y0, y1, y2⟩, B3⟩ := hh
  have HB3 := Lib.hid B3
  have HSP1 : Hid (∀ W, Below w3.heap.size w3 W → Calls Tryd.prog 24 #[.int .u64 b] W (OwnPost (bitsL b) W)) := Lib.hid (fun W hW => spread_any b hb W (HT.out.on (HB3.out.on hW)))
  have HSP2 : Hid (∀ W, Below w3.heap.size w3 W → Calls Tryd.prog 24 #[.int .u64 d] W (OwnPost (bitsL d) W)) := Lib.hid (fun W hW => spread_any d hd W (HT.out.on (HB3.out.on hW)))
  clear hb3 p0 p1 p2 B0 B3 y0
  have B4 := Below.refl w3.heap.size w3
  have hz0 : IntKind.i64.wrap ((a % 256 : Nat) : Int) = ((a % 256 : Nat) : Int) := by rw [IntKind.wrap_i64]; omega
  have hz1 : IntKind.i64.wrap ((a / 256 % 256 : Nat) : Int) = ((a / 256 % 256 : Nat) : Int) := by rw [IntKind.wrap_i64]; omega
  have HZ : Hid (∀ z : Nat, z = a / 65536 → ((z : Int) != 0) = decide (¬ a < 65536)) := Lib.hid (fun z hz => by
    rw [Bool.eq_iff_iff]; simp; omega)
  have HDL : Hid (decLay a b d = ⟨((a % 256 : Nat) : Int), bitsL b, ((a / 256 : Nat) : Int), bitsL d⟩) := Lib.hid rfl
  have HLO : Hid (a < 65536 → a / 256 % 256 = a / 256) := Lib.hid (fun h => by omega)
  generalize hA0 : a % 256 = f0 at *
  generalize hA1 : a / 256 % 256 = f1 at *
  generalize hA2 : a / 65536 = f2 at *
  have HA2 := Lib.hid hA2
  clear hA0 hA1 hA2
  have HK : Hid (∀ wk, Below w3.heap.size w3 wk → (wk.cell? ⟨B, o + 1, none⟩ = some (.int .u64 b) ∧ wk.cell? ⟨B, o + 2, none⟩ = some (.int .u64 d) ∧ wk.cell? ⟨B', o', none⟩ = some (.int .u64 f0) ∧ wk.cell? ⟨B', o' + 1, none⟩ = some (.int .u64 f1) ∧ wk.cell? ⟨B', o' + 2, none⟩ = some (.int .u64 f2)) ∧ Below w3.heap.size w3 wk) := Lib.hid (fun wk h => ⟨⟨cell_on h y1, cell_on h y2, cell_on h x0, cell_on h x1, cell_on h x2⟩, h⟩)
  go_wp2_with fail
  go_region_held3 (fun wk => (wk.cell? ⟨B, o + 1, none⟩ = some (.int .u64 b) ∧ wk.cell? ⟨B, o + 2, none⟩ = some (.int .u64 d) ∧ wk.cell? ⟨B', o', none⟩ = some (.int .u64 f0) ∧ wk.cell? ⟨B', o' + 1, none⟩ = some (.int .u64 f1) ∧ wk.cell? ⟨B', o' + 2, none⟩ = some (.int .u64 f2)) ∧ Below w3.heap.size w3 wk) (first | exact HK.out _ (below_drewN B4 1) | exact HK.out _ ((by assumption : _ ∧ Below w3.heap.size w3 _).2.on (below1 _ _)) | exact HK.out _ ((by assumption : _ ∧ Below w3.heap.size w3 _).2.on (by assumption)) | exact HK.out _ (((((by assumption : _ ∧ Below w3.heap.size w3 _).2.setCell (by first | exact Nat.le_refl _ | exact hb4.size) _).setCell (by first | exact Nat.le_refl _ | exact hb4.size) _).setCell (by first | exact Nat.le_refl _ | exact hb4.size) _).setCell (by first | exact Nat.le_refl _ | exact hb4.size) _) | exact HK.out _ (((((below_drewN B4 1).on hb4).on hb5).on (below1 _ _)))) (first | (go_at_call 24; first | (refine (HSP1.out _ (by assumption : _ ∧ Below w3.heap.size w3 _).2).mono ?_; rintro e w4 ⟨v4, rfl, hv4, hb4⟩; clear HSP1; obtain ⟨A4, c4, e4, hc4, -⟩ := own_slice encI 0 (fun _ => rfl) hv4; subst e4; try (have zb := one_blk' hb4; have z0 := (blk_cells zb 0).trans rfl; have z1 := (blk_cells zb 1).trans rfl; have z2 := (blk_cells zb 2).trans rfl; have z3 := (blk_cells zb 3).trans rfl; have t0 := blk_thaw zb 0; have t1 := blk_thaw zb 1; have t2 := blk_thaw zb 2; have t3 := blk_thaw zb 3)) | (refine (HSP2.out _ (by assumption : _ ∧ Below w3.heap.size w3 _).2).mono ?_; rintro e w5 ⟨v5, rfl, hv5, hb5⟩; obtain ⟨A5, c5, e5, hc5, -⟩ := own_slice encI 0 (fun _ => rfl) hv5; subst e5; first | (have zb5 := (hb5.block _ (block_lt zb)).trans zb; have z0 := (blk_cells zb5 0).trans rfl; have z1 := (blk_cells zb5 1).trans rfl; have z2 := (blk_cells zb5 2).trans rfl; have z3 := (blk_cells zb5 3).trans rfl; have t0 := blk_thaw zb5 0; have t1 := blk_thaw zb5 1; have t2 := blk_thaw zb5 2; have t3 := blk_thaw zb5 3) | (have zb5 := one_blk hb5; have z0 := (blk_cells zb5 0).trans rfl; have z1 := (blk_cells zb5 1).trans rfl; have z2 := (blk_cells zb5 2).trans rfl; have z3 := (blk_cells zb5 3).trans rfl; have t0 := blk_thaw zb5 0; have t1 := blk_thaw zb5 1; have t2 := blk_thaw zb5 2; have t3 := blk_thaw zb5 3) | skip)))
  · have hXB := (by assumption : _ ∧ Below w3.heap.size w3 (w5.alloc _)).2
    have hk := heap_alloc_new w5 (.cells #[.int .i64 f0, .slice A4 (bitsL b).length c4, .int .i64 f1, .slice A5 (bitsL d).length c5] 24)
    have hO4 := own_on (own_on hv4 hb5) (below1 w5 (.cells #[.int .i64 f0, .slice A4 (bitsL b).length c4, .int .i64 f1, .slice A5 (bitsL d).length c5] 24))
    have hO5 := own_on hv5 (below1 w5 (.cells #[.int .i64 f0, .slice A4 (bitsL b).length c4, .int .i64 f1, .slice A5 (bitsL d).length c5] 24))
    have hkw : w.heap.size < w5.heap.size := by have h1 := HB3.out.size; have h2 : w3.heap.size ≤ w4.heap.size := hb4.size; have h3 := hb5.size; omega
    generalize w5.alloc (.cells #[.int .i64 f0, .slice A4 (bitsL b).length c4, .int .i64 f1, .slice A5 (bitsL d).length c5] 24) = X at *
    generalize w5.heap.size = k at *
    have HXB := Lib.hid (HB3.out.on hXB)
    have x2' := cell_on hXB x2
    have hr := (HXB.out.block _ hsz).trans HR0.out
    clear hb4 hb5 x0 x1 x2 y1 y2 HK B4 HSP2
    try clear zb
    try clear zb5
    have k0 := (blk_cells hk 0).trans rfl
    have k1 := (blk_cells hk 1).trans rfl
    have k2 := (blk_cells hk 2).trans rfl
    have k3 := (blk_cells hk 3).trans rfl
    have r0 := (blk_cells hr 0).trans rfl
    have r1 := (blk_cells hr 1).trans rfl
    have r2 := (blk_cells hr 2).trans rfl
    have r3 := (blk_cells hr 3).trans rfl
    have t0 := blk_thaw hr 0
    have t1 := blk_thaw hr 1
    have t2 := blk_thaw hr 2
    have t3 := blk_thaw hr 3
    have HO4 := Lib.hid hO4
    have HO5 := Lib.hid hO5
    have HHK := Lib.hid hk
    have HHR := Lib.hid hr
    clear hO4 hO5 hk hr hXB hv4 hv5 hc4 hc5
    by_cases hsm : a < 65536
    · have hf1 := HLO.out hsm
      have hf2 : f2 = 0 := by have := HA2.out; omega
      subst hf1 hf2
      have HRT : Hid (∀ Y, LayIs Y (decLay a b d) A4 c4 A5 c5 → Calls Tryd.prog 9 #[.agg #[.int .i64 f0, .slice A4 (bitsL b).length c4, .int .i64 (a / 256 : Nat), .slice A5 (bitsL d).length c5]] Y fun e w' => e = .returned (.bool (decLay a b d).right) ∧ Below Y.heap.size Y w') := Lib.hid (fun Y hY => by
        have := right_lay (decLay a b d) A4 c4 A5 c5 Y hY
        rw [HDL.out] at this ⊢
        exact this)
      have HLY : Hid (LayIs X (decLay a b d) A4 c4 A5 c5) := Lib.hid (by rw [HDL.out]; exact lay_of_own HO4.out HO5.out (bits_len b) (bits_len d))
      have HOK : Hid (decOk a b d = (decLay a b d).right) := Lib.hid (by unfold decOk; rw [decide_eq_true hsm]; rfl)
      clear HZ HA2 HLO
      go_wp2_with fail
      refine (HRT.out _ HLY.out).mono ?_
      rintro e w6 ⟨rfl, hb6⟩
      have hk6 := (hb6.block _ (block_lt HHK.out)).trans HHK.out
      have hr6 := (hb6.block _ (block_lt HHR.out)).trans HHR.out
      have HB6 := Lib.hid (HB0.out.on (HXB.out.on hb6))
      have HO46 := Lib.hid (own_on HO4.out hb6)
      have HO56 := Lib.hid (own_on HO5.out hb6)
      clear hb6 k0 k1 k2 k3 r0 r1 r2 r3 t0 t1 t2 t3 HO4 HO5 HHK HHR HXB x2' HRT HLY
      have k0 := (blk_cells hk6 0).trans rfl
      have k1 := (blk_cells hk6 1).trans rfl
      have k2 := (blk_cells hk6 2).trans rfl
      have k3 := (blk_cells hk6 3).trans rfl
      have r0 := (blk_cells hr6 0).trans rfl
      have r1 := (blk_cells hr6 1).trans rfl
      have r2 := (blk_cells hr6 2).trans rfl
      have r3 := (blk_cells hr6 3).trans rfl
      have t0 := blk_thaw hr6 0
      have t1 := blk_thaw hr6 1
      have t2 := blk_thaw hr6 2
      have t3 := blk_thaw hr6 3
      have HR6 := Lib.hid hr6
      clear hk6 hr6
      cases hrt : (decLay a b d).right with
      | true =>
        rw [hrt] at HOK
        go_wp2
        (try simp only [Exit.inBlock, Exit.then])
        refine bodyPost_ret (v := .tuple #[.agg #[.int .i64 f0, .slice A4 (bitsL b).length c4, .int .i64 (a / 256 : Nat), .slice A5 (bitsL d).length c5], .int .i64 0]) ?_ rfl (.inl ⟨HOK.out, A4, c4, A5, c5, by rw [HDL.out]; rfl, ?_, ?_⟩)
        · rw [results_cell_tmp rfl]
          go_simp
          (try rfl)
        · rw [HDL.out]
          exact lay_of_own (HO46.out.kept (four_grown w6 w.heap.size _ _ _ _) (.inr (own_x HO46.out HR6.out (by decide)))) (HO56.out.kept (four_grown w6 w.heap.size _ _ _ _) (.inr (own_x HO56.out HR6.out (by decide)))) (bits_len b) (bits_len d)
        · exact (((HB6.out.setCell (Nat.le_refl _) _).setCell (Nat.le_refl _) _).setCell (Nat.le_refl _) _).setCell (Nat.le_refl _) _
      | false =>
        rw [hrt] at HOK
        go_wp2
        (try simp only [Exit.inBlock, Exit.then])
        refine bodyPost_ret (v := .tuple #[.agg #[.int .i64 0, .slice none 0 0, .int .i64 0, .slice none 0 0], .int .i64 4]) ?_ rfl (.inr ⟨HOK.out, rfl, ?_⟩)
        · rw [results_cell_tmp rfl]
          go_simp
          (try rfl)
        · exact (((HB6.out.setCell (Nat.le_refl _) _).setCell (Nat.le_refl _) _).setCell (Nat.le_refl _) _).setCell (Nat.le_refl _) _
    · have hzz : ((f2 : Int) != 0) = true := by have := HA2.out; simp; omega
      have HOK : Hid (decOk a b d = false) := Lib.hid (by unfold decOk; rw [decide_eq_false hsm]; rfl)
      clear HZ HA2 HLO
      go_wp2
      (try simp only [Exit.inBlock, Exit.then])
      refine bodyPost_ret (v := .tuple #[.agg #[.int .i64 0, .slice none 0 0, .int .i64 0, .slice none 0 0], .int .i64 4]) ?_ rfl (.inr ⟨HOK.out, rfl, ?_⟩)
      · rw [results_cell_tmp rfl]
        go_simp
        (try rfl)
      · exact ((((HB0.out.on HXB.out).setCell (Nat.le_refl _) _).setCell (Nat.le_refl _) _).setCell (Nat.le_refl _) _).setCell (Nat.le_refl _) _
  · have hXB := (by assumption : _ ∧ Below w3.heap.size w3 ((((w5.setCell ⟨w4.heap.size, 0, none⟩ (.int .i64 f0)).setCell ⟨w4.heap.size, 1, none⟩ (.slice A4 (bitsL b).length c4)).setCell ⟨w4.heap.size, 2, none⟩ (.int .i64 f1)).setCell ⟨w4.heap.size, 3, none⟩ (.slice A5 (bitsL d).length c5))).2
    have hk := four_set (.int .i64 f0) (.slice A4 (bitsL b).length c4) (.int .i64 f1) (.slice A5 (bitsL d).length c5) zb5
    have hO4 := (own_on (own_on hv4 (below1 w4 _)) hb5).kept (four_grown w5 (w4.heap.size) (.int .i64 f0) (.slice A4 (bitsL b).length c4) (.int .i64 f1) (.slice A5 (bitsL d).length c5)) (.inr (own_x (own_on (own_on hv4 (below1 w4 _)) hb5) zb5 (by decide)))
    have hO5 := hv5.kept (four_grown w5 (w4.heap.size) (.int .i64 f0) (.slice A4 (bitsL b).length c4) (.int .i64 f1) (.slice A5 (bitsL d).length c5)) (.inr (own_x hv5 zb5 (by decide)))
    have hkw : w.heap.size < w4.heap.size := by have h1 := HB3.out.size; have h2 : w3.heap.size ≤ w4.heap.size := Nat.le_trans (by simp) hb4.size; omega
    clear z0 z1 z2 z3 t0 t1 t2 t3
    generalize (((w5.setCell ⟨w4.heap.size, 0, none⟩ (.int .i64 f0)).setCell ⟨w4.heap.size, 1, none⟩ (.slice A4 (bitsL b).length c4)).setCell ⟨w4.heap.size, 2, none⟩ (.int .i64 f1)).setCell ⟨w4.heap.size, 3, none⟩ (.slice A5 (bitsL d).length c5) = X at *
    generalize w4.heap.size = k at *
    have HXB := Lib.hid (HB3.out.on hXB)
    have x2' := cell_on hXB x2
    have hr := (HXB.out.block _ hsz).trans HR0.out
    clear hb4 hb5 x0 x1 x2 y1 y2 HK B4 HSP2
    try clear zb
    try clear zb5
    have k0 := (blk_cells hk 0).trans rfl
    have k1 := (blk_cells hk 1).trans rfl
    have k2 := (blk_cells hk 2).trans rfl
    have k3 := (blk_cells hk 3).trans rfl
    have r0 := (blk_cells hr 0).trans rfl
    have r1 := (blk_cells hr 1).trans rfl
    have r2 := (blk_cells hr 2).trans rfl
    have r3 := (blk_cells hr 3).trans rfl
    have t0 := blk_thaw hr 0
    have t1 := blk_thaw hr 1
    have t2 := blk_thaw hr 2
    have t3 := blk_thaw hr 3
    have HO4 := Lib.hid hO4
    have HO5 := Lib.hid hO5
    have HHK := Lib.hid hk
    have HHR := Lib.hid hr
    clear hO4 hO5 hk hr hXB hv4 hv5 hc4 hc5
    by_cases hsm : a < 65536
    · have hf1 := HLO.out hsm
      have hf2 : f2 = 0 := by have := HA2.out; omega
      subst hf1 hf2
      have HRT : Hid (∀ Y, LayIs Y (decLay a b d) A4 c4 A5 c5 → Calls Tryd.prog 9 #[.agg #[.int .i64 f0, .slice A4 (bitsL b).length c4, .int .i64 (a / 256 : Nat), .slice A5 (bitsL d).length c5]] Y fun e w' => e = .returned (.bool (decLay a b d).right) ∧ Below Y.heap.size Y w') := Lib.hid (fun Y hY => by
        have := right_lay (decLay a b d) A4 c4 A5 c5 Y hY
        rw [HDL.out] at this ⊢
        exact this)
      have HLY : Hid (LayIs X (decLay a b d) A4 c4 A5 c5) := Lib.hid (by rw [HDL.out]; exact lay_of_own HO4.out HO5.out (bits_len b) (bits_len d))
      have HOK : Hid (decOk a b d = (decLay a b d).right) := Lib.hid (by unfold decOk; rw [decide_eq_true hsm]; rfl)
      clear HZ HA2 HLO
      go_wp2_with fail
      refine (HRT.out _ HLY.out).mono ?_
      rintro e w6 ⟨rfl, hb6⟩
      have hk6 := (hb6.block _ (block_lt HHK.out)).trans HHK.out
      have hr6 := (hb6.block _ (block_lt HHR.out)).trans HHR.out
      have HB6 := Lib.hid (HB0.out.on (HXB.out.on hb6))
      have HO46 := Lib.hid (own_on HO4.out hb6)
      have HO56 := Lib.hid (own_on HO5.out hb6)
      clear hb6 k0 k1 k2 k3 r0 r1 r2 r3 t0 t1 t2 t3 HO4 HO5 HHK HHR HXB x2' HRT HLY
      have k0 := (blk_cells hk6 0).trans rfl
      have k1 := (blk_cells hk6 1).trans rfl
      have k2 := (blk_cells hk6 2).trans rfl
      have k3 := (blk_cells hk6 3).trans rfl
      have r0 := (blk_cells hr6 0).trans rfl
      have r1 := (blk_cells hr6 1).trans rfl
      have r2 := (blk_cells hr6 2).trans rfl
      have r3 := (blk_cells hr6 3).trans rfl
      have t0 := blk_thaw hr6 0
      have t1 := blk_thaw hr6 1
      have t2 := blk_thaw hr6 2
      have t3 := blk_thaw hr6 3
      have HR6 := Lib.hid hr6
      clear hk6 hr6
      cases hrt : (decLay a b d).right with
      | true =>
        rw [hrt] at HOK
        go_wp2
        (try simp only [Exit.inBlock, Exit.then])
        refine bodyPost_ret (v := .tuple #[.agg #[.int .i64 f0, .slice A4 (bitsL b).length c4, .int .i64 (a / 256 : Nat), .slice A5 (bitsL d).length c5], .int .i64 0]) ?_ rfl (.inl ⟨HOK.out, A4, c4, A5, c5, by rw [HDL.out]; rfl, ?_, ?_⟩)
        · rw [results_cell_tmp rfl]
          go_simp
          (try rfl)
        · rw [HDL.out]
          exact lay_of_own (HO46.out.kept (four_grown w6 w.heap.size _ _ _ _) (.inr (own_x HO46.out HR6.out (by decide)))) (HO56.out.kept (four_grown w6 w.heap.size _ _ _ _) (.inr (own_x HO56.out HR6.out (by decide)))) (bits_len b) (bits_len d)
        · exact (((HB6.out.setCell (Nat.le_refl _) _).setCell (Nat.le_refl _) _).setCell (Nat.le_refl _) _).setCell (Nat.le_refl _) _
      | false =>
        rw [hrt] at HOK
        go_wp2
        (try simp only [Exit.inBlock, Exit.then])
        refine bodyPost_ret (v := .tuple #[.agg #[.int .i64 0, .slice none 0 0, .int .i64 0, .slice none 0 0], .int .i64 4]) ?_ rfl (.inr ⟨HOK.out, rfl, ?_⟩)
        · rw [results_cell_tmp rfl]
          go_simp
          (try rfl)
        · exact (((HB6.out.setCell (Nat.le_refl _) _).setCell (Nat.le_refl _) _).setCell (Nat.le_refl _) _).setCell (Nat.le_refl _) _
    · have hzz : ((f2 : Int) != 0) = true := by have := HA2.out; simp; omega
      have HOK : Hid (decOk a b d = false) := Lib.hid (by unfold decOk; rw [decide_eq_false hsm]; rfl)
      clear HZ HA2 HLO
      go_wp2
      (try simp only [Exit.inBlock, Exit.then])
      refine bodyPost_ret (v := .tuple #[.agg #[.int .i64 0, .slice none 0 0, .int .i64 0, .slice none 0 0], .int .i64 4]) ?_ rfl (.inr ⟨HOK.out, rfl, ?_⟩)
      · rw [results_cell_tmp rfl]
        go_simp
        (try rfl)
      · exact ((((HB0.out.on HXB.out).setCell (Nat.le_refl _) _).setCell (Nat.le_refl _) _).setCell (Nat.le_refl _) _).setCell (Nat.le_refl _) _
  · have hXB := (by assumption : _ ∧ Below w3.heap.size w3 ((((w5.setCell ⟨w3.heap.size, 0, none⟩ (.int .i64 f0)).setCell ⟨w3.heap.size, 1, none⟩ (.slice A4 (bitsL b).length c4)).setCell ⟨w3.heap.size, 2, none⟩ (.int .i64 f1)).setCell ⟨w3.heap.size, 3, none⟩ (.slice A5 (bitsL d).length c5))).2
    have hk := four_set (.int .i64 f0) (.slice A4 (bitsL b).length c4) (.int .i64 f1) (.slice A5 (bitsL d).length c5) zb5
    have hO4 := (own_on hv4 hb5).kept (four_grown w5 (w3.heap.size) (.int .i64 f0) (.slice A4 (bitsL b).length c4) (.int .i64 f1) (.slice A5 (bitsL d).length c5)) (.inr (own_x (own_on hv4 hb5) zb5 (by decide)))
    have hO5 := hv5.kept (four_grown w5 (w3.heap.size) (.int .i64 f0) (.slice A4 (bitsL b).length c4) (.int .i64 f1) (.slice A5 (bitsL d).length c5)) (.inr (own_x hv5 zb5 (by decide)))
    have hkw : w.heap.size < w3.heap.size := by have h1 := HB3.out.size; have h2 : w3.heap.size ≤ w4.heap.size := Nat.le_trans (by simp) hb4.size; omega
    clear z0 z1 z2 z3 t0 t1 t2 t3
    generalize (((w5.setCell ⟨w3.heap.size, 0, none⟩ (.int .i64 f0)).setCell ⟨w3.heap.size, 1, none⟩ (.slice A4 (bitsL b).length c4)).setCell ⟨w3.heap.size, 2, none⟩ (.int .i64 f1)).setCell ⟨w3.heap.size, 3, none⟩ (.slice A5 (bitsL d).length c5) = X at *
    have HXB := Lib.hid (HB3.out.on hXB)
    have x2' := cell_on hXB x2
    have hr := (HXB.out.block _ hsz).trans HR0.out
    clear hb4 hb5 x0 x1 x2 y1 y2 HK B4 HSP2
    try clear zb
    try clear zb5
    have k0 := (blk_cells hk 0).trans rfl
    have k1 := (blk_cells hk 1).trans rfl
    have k2 := (blk_cells hk 2).trans rfl
    have k3 := (blk_cells hk 3).trans rfl
    have r0 := (blk_cells hr 0).trans rfl
    have r1 := (blk_cells hr 1).trans rfl
    have r2 := (blk_cells hr 2).trans rfl
    have r3 := (blk_cells hr 3).trans rfl
    have t0 := blk_thaw hr 0
    have t1 := blk_thaw hr 1
    have t2 := blk_thaw hr 2
    have t3 := blk_thaw hr 3
    have HO4 := Lib.hid hO4
    have HO5 := Lib.hid hO5
    have HHK := Lib.hid hk
    have HHR := Lib.hid hr
    clear hO4 hO5 hk hr hXB hv4 hv5 hc4 hc5
    by_cases hsm : a < 65536
    · have hf1 := HLO.out hsm
      have hf2 : f2 = 0 := by have := HA2.out; omega
      subst hf1 hf2
      have HRT : Hid (∀ Y, LayIs Y (decLay a b d) A4 c4 A5 c5 → Calls Tryd.prog 9 #[.agg #[.int .i64 f0, .slice A4 (bitsL b).length c4, .int .i64 (a / 256 : Nat), .slice A5 (bitsL d).length c5]] Y fun e w' => e = .returned (.bool (decLay a b d).right) ∧ Below Y.heap.size Y w') := Lib.hid (fun Y hY => by
        have := right_lay (decLay a b d) A4 c4 A5 c5 Y hY
        rw [HDL.out] at this ⊢
        exact this)
      have HLY : Hid (LayIs X (decLay a b d) A4 c4 A5 c5) := Lib.hid (by rw [HDL.out]; exact lay_of_own HO4.out HO5.out (bits_len b) (bits_len d))
      have HOK : Hid (decOk a b d = (decLay a b d).right) := Lib.hid (by unfold decOk; rw [decide_eq_true hsm]; rfl)
      clear HZ HA2 HLO
      go_wp2_with fail
      refine (HRT.out _ HLY.out).mono ?_
      rintro e w6 ⟨rfl, hb6⟩
      have hk6 := (hb6.block _ (block_lt HHK.out)).trans HHK.out
      have hr6 := (hb6.block _ (block_lt HHR.out)).trans HHR.out
      have HB6 := Lib.hid (HB0.out.on (HXB.out.on hb6))
      have HO46 := Lib.hid (own_on HO4.out hb6)
      have HO56 := Lib.hid (own_on HO5.out hb6)
      clear hb6 k0 k1 k2 k3 r0 r1 r2 r3 t0 t1 t2 t3 HO4 HO5 HHK HHR HXB x2' HRT HLY
      have k0 := (blk_cells hk6 0).trans rfl
      have k1 := (blk_cells hk6 1).trans rfl
      have k2 := (blk_cells hk6 2).trans rfl
      have k3 := (blk_cells hk6 3).trans rfl
      have r0 := (blk_cells hr6 0).trans rfl
      have r1 := (blk_cells hr6 1).trans rfl
      have r2 := (blk_cells hr6 2).trans rfl
      have r3 := (blk_cells hr6 3).trans rfl
      have t0 := blk_thaw hr6 0
      have t1 := blk_thaw hr6 1
      have t2 := blk_thaw hr6 2
      have t3 := blk_thaw hr6 3
      have HR6 := Lib.hid hr6
      clear hk6 hr6
      cases hrt : (decLay a b d).right with
      | true =>
        rw [hrt] at HOK
        go_wp2
        (try simp only [Exit.inBlock, Exit.then])
        refine bodyPost_ret (v := .tuple #[.agg #[.int .i64 f0, .slice A4 (bitsL b).length c4, .int .i64 (a / 256 : Nat), .slice A5 (bitsL d).length c5], .int .i64 0]) ?_ rfl (.inl ⟨HOK.out, A4, c4, A5, c5, by rw [HDL.out]; rfl, ?_, ?_⟩)
        · rw [results_cell_tmp rfl]
          go_simp
          (try rfl)
        · rw [HDL.out]
          exact lay_of_own (HO46.out.kept (four_grown w6 w.heap.size _ _ _ _) (.inr (own_x HO46.out HR6.out (by decide)))) (HO56.out.kept (four_grown w6 w.heap.size _ _ _ _) (.inr (own_x HO56.out HR6.out (by decide)))) (bits_len b) (bits_len d)
        · exact (((HB6.out.setCell (Nat.le_refl _) _).setCell (Nat.le_refl _) _).setCell (Nat.le_refl _) _).setCell (Nat.le_refl _) _
      | false =>
        rw [hrt] at HOK
        go_wp2
        (try simp only [Exit.inBlock, Exit.then])
        refine bodyPost_ret (v := .tuple #[.agg #[.int .i64 0, .slice none 0 0, .int .i64 0, .slice none 0 0], .int .i64 4]) ?_ rfl (.inr ⟨HOK.out, rfl, ?_⟩)
        · rw [results_cell_tmp rfl]
          go_simp
          (try rfl)
        · exact (((HB6.out.setCell (Nat.le_refl _) _).setCell (Nat.le_refl _) _).setCell (Nat.le_refl _) _).setCell (Nat.le_refl _) _
    · have hzz : ((f2 : Int) != 0) = true := by have := HA2.out; simp; omega
      have HOK : Hid (decOk a b d = false) := Lib.hid (by unfold decOk; rw [decide_eq_false hsm]; rfl)
      clear HZ HA2 HLO
      go_wp2
      (try simp only [Exit.inBlock, Exit.then])
      refine bodyPost_ret (v := .tuple #[.agg #[.int .i64 0, .slice none 0 0, .int .i64 0, .slice none 0 0], .int .i64 4]) ?_ rfl (.inr ⟨HOK.out, rfl, ?_⟩)
      · rw [results_cell_tmp rfl]
        go_simp
        (try rfl)
      · exact ((((HB0.out.on HXB.out).setCell (Nat.le_refl _) _).setCell (Nat.le_refl _) _).setCell (Nat.le_refl _) _).setCell (Nat.le_refl _) _
end Go.Proofs.YtcffenekomiakaaDoor
