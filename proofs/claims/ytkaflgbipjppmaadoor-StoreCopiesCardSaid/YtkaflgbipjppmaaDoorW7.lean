/- StoreCopies: a walk. -/
import Derived.Test.YtkaflgbipjppmaaDoorW5
import Derived.Deep.RegionHeld3
namespace Go.Proofs.YtkaflgbipjppmaaDoor
open Go.RowKit
set_option linter.unusedVariables false
set_option linter.unusedSimpArgs false
variable {w w' : World} {B Wb Ob p q G Wg Og size : Nat} {W W' own own' : List Int} {c : Nat}
theorem own_beside {w w' : World} {b1 b2 : Nat} {t1 t2 : TypeId} {s1 s2 n1 n2 : Nat} {v1 v2 : Value} {xs1 xs2 : List Value} (h1 : w.ownsRow b1 t1 s1 v1 n1 xs1) (h2 : w.ownsRow b2 t2 s2 v2 n2 xs2) (hne : t2 ≠ t1) (hg : w.grownBy w' v1.ownBlock) : w'.ownsRow b2 t2 s2 v2 n2 xs2 := by
  refine own_mod h2 (P := fun k => v1.ownBlock = some k) ⟨hg.os, hg.tape, hg.output, hg.size, fun k hk hn => hg.block k hk (fun e => hn e.symm)⟩ (fun k hk e => ?_)
  rcases h1.2 with ⟨g1, _⟩ | ⟨g, cap, cur, hv, hgb, hh, r⟩
  · rw [g1] at e; cases e
  · rw [hv] at e
    have e' : some g = some k := e
    injection e' with e'
    subst e'
    exact own_type h2 hh hne hk
theorem okW_succ (own : List Int) (size b j : Nat) : okW own size b (j + 1) = (okW own size b j && decide (own.getD ((b + j) / size) 0 ≠ 0)) := by unfold okW; rw [List.range_succ, List.all_append]; simp
/-- Which of the first k words may be read. -/
def okB (own : List Int) (n k : Nat) : List Bool := (List.range k).map fun i => decide (own.getD (i / n) 0 ≠ 0)
theorem okB_succ (own : List Int) (n k : Nat) : okB own n (k + 1) = okB own n k ++ [decide (own.getD (k / n) 0 ≠ 0)] := by unfold okB; rw [List.range_succ]; simp
theorem okB_len (own : List Int) (n k : Nat) : (okB own n k).length = k := by simp [okB]
theorem okB_get {own : List Int} {n k i : Nat} (h : i < k) : (okB own n k).getD i false = decide (own.getD (i / n) 0 ≠ 0) := by unfold okB; rw [List.getD_eq_getElem?_getD, List.getElem?_map, List.getElem?_range h]; rfl
set_option maxRecDepth 100000 in
set_option maxHeartbeats 4000000 in
theorem copies3_walk (zc zw : Int) (A : Option Addr) (l : List Act3) (cp : Nat) (a0 a1 a2 : Int) (hz1 : i64B zc) (hz2 : i64B zw) (hl : l.length ≤ cp) (hm : l.length ≤ maxLen) (hS : SliceOf w A 5 act3Enc act30 l) (hg : ∀ x ∈ l, good3 x) (hT : Tab w) :
    Calls Tryd.prog 4 #[.agg #[.int .i64 zc, .int .i64 zw], .slice A l.length cp, .agg #[.int .i64 a0, .int .i64 a1, .int .i64 a2]] w fun e w' => e = .returned (.bool true) ∧ Below w.heap.size w w' := by
  obtain ⟨c, hc, hc1, hc2⟩ := size_n zc hz1
  obtain ⟨n, hn, hn1, hn2⟩ := size_n zw hz2
  have hb0 := (below1 w (.cells #[.int .i64 zc, .int .i64 zw] 36)).on (below1 _ (.cells #[.int .i64 a0, .int .i64 a1, .int .i64 a2] 38))
  have HG : Hid (∀ Y, Below ((w.alloc (.cells #[.int .i64 zc, .int .i64 zw] 36)).alloc (.cells #[.int .i64 a0, .int .i64 a1, .int .i64 a2] 38)).heap.size ((w.alloc (.cells #[.int .i64 zc, .int .i64 zw] 36)).alloc (.cells #[.int .i64 a0, .int .i64 a1, .int .i64 a2] 38)) Y → Calls Tryd.prog 21 #[.agg #[.int .i64 zc, .int .i64 zw], .slice A l.length cp] Y (GrownPost3 c n l.length Y)) := Lib.hid (fun Y hY => grown3_any (w := Y) zc zw c n hc hc1 hc2 hn hn1 hn2 A l cp hl hm ((hS.on hb0).on hY) hg ((hT.on hb0).on hY))
  have HB0 := Lib.hid hb0
  have hz0 : ((w.alloc (.cells #[.int .i64 zc, .int .i64 zw] 36)).alloc (.cells #[.int .i64 a0, .int .i64 a1, .int .i64 a2] 38)).heap.size = w.heap.size + 2 := by simp
  have hbx2 := heap_alloc_new (w.alloc (.cells #[.int .i64 zc, .int .i64 zw] 36)) (.cells #[.int .i64 a0, .int .i64 a1, .int .i64 a2] 38)
  rw [World.size_alloc] at hbx2
  have HBX2 := Lib.hid hbx2
  have hlT := lt_of_cell (hT 0 (by decide))
  have HTT : Hid (∀ Y, Below w.heap.size w Y → Tab Y) := Lib.hid (fun Y hY j hj => (hY.cell (p := ⟨0, j, none⟩) hlT).trans (hT j hj))
  have HAL : Hid (∀ Y, Below w.heap.size w Y → Calls Tryd.prog 22 #[] Y fun e w' => e = .returned (.bool true) ∧ Below Y.heap.size Y w') := Lib.hid (fun Y hY => alive3_any (HTT.out Y hY))
  unfold maxLen at hm
  clear hb0 hc hn hS hg hT hz1 hz2 hbx2
  go_enter Tryd.func4, Tryd.ntmps4
  go_wp2_with fail
  have HBQ := Lib.hid HB0.out
  refine (HG.out _ (Below.refl _ _)).mono ?_
  rintro e w1 (⟨hlen, B, Wb, Ob, p, q, G, Wg, Og, W, own, rfl, hP, ⟨hown, hBN⟩, hb1, hF⟩ | ⟨hlen, rfl, hb1⟩)
  case inr =>
    have hl' : decide ((80 : Int) < (l.length : Int)) = true := decide_eq_true (by omega)
    have hB1 := HBQ.out.on hb1
    clear hb1 HG
    go_wp2_with fail
    refine (HAL.out _ hB1).mono ?_
    rintro e w2 ⟨rfl, hb2⟩
    have hB2 := hB1.on hb2
    clear hb2
    go_wp2_with fail
    refine (HAL.out _ hB2).mono ?_
    rintro e w3 ⟨rfl, hb3⟩
    go_wp2
    go_ret
    exact ⟨rfl, hB2.on hb3⟩
  case inl =>
    subst hown
    have HBN := Lib.hid hBN
    clear hBN
    have HB1 := Lib.hid (HBQ.out.on hb1)
    have HF : Hid (Fresh8 w.heap.size B Wb Ob p q G Wg Og) := Lib.hid (fun k e => by have h9 := hF k e; have h8 := HBQ.out.size; omega)
    have HP1 := Lib.hid hP
    have hol := hP.rf.o2
    have ho1 := hP.rf.o1
    have hwl := hP.rf.wlen
    have HWL := Lib.hid hP.rf.hW
    have HBY1 := Lib.hid ((hb1.block _ (block_lt HBX2.out)).trans HBX2.out)
    clear hP hb1 hF HG
    go_wp2_with fail
    refine (HAL.out _ HB1.out).mono ?_
    rintro e w2 ⟨rfl, hb2⟩
    have HP2 := Lib.hid (HP1.out.on hb2)
    have HB2 := Lib.hid (HB1.out.on hb2)
    have HBY2 := Lib.hid ((hb2.block _ (block_lt HBY1.out)).trans HBY1.out)
    clear hb2 HP1 HB1 HBY1
    have k0 := HP2.out.rf.c0
    obtain ⟨i0, hi, hz0', hz1', hz2'⟩ := info_parts info64
    have HI := Lib.hid hi
    have HZ0 := Lib.hid hz0'
    have HZ1 := Lib.hid hz1'
    have HZ2 := Lib.hid hz2'
    obtain ⟨j0, hj, jz0, jz1, jz2⟩ := info_parts infoB
    have JI := Lib.hid hj
    have JZ0 := Lib.hid jz0
    have JZ1 := Lib.hid jz1
    have JZ2 := Lib.hid jz2
    clear hi hz0' hz1' hz2' hj jz0 jz1 jz2
    have hall : W.length ≤ 144 := by rw [HWL.out]; exact Nat.le_trans (Nat.mul_le_mul hc2 hn2) (by decide)
    have hall1 : 1 ≤ W.length := by rw [HWL.out]; exact Nat.mul_le_mul hc1 hn1
    go_wp2
    go_loopw [10, 11, 49] (fun v10 v11 v49 wr => ∃ k : Nat, k ≤ W.length ∧ v49 = .int .i64 k ∧ Hid (wr.ownsRow w2.heap.size 46 1 v10 k ((rowL (fun i => readV W own n i) k).map wordV)) ∧ Hid (wr.ownsRow w2.heap.size 4 1 v11 k ((okB own n k).flatMap encB)) ∧ Hid (Below w2.heap.size w2 wr)) (fun _ _ v49 _ => W.length - (intOf v49).toNat)
    case atStart => exact ⟨0, by omega, rfl, Lib.hid (World.ownsRow_nil _ _ _ _), Lib.hid (World.ownsRow_nil _ _ _ _), Lib.hid (Below.refl _ _)⟩
    case round =>
      obtain ⟨k, hk, rfl, HR1, HR2, HB⟩ := hrel
      by_cases hlt : k < W.length
      · have hRD := read_in (HP2.out.on HB.out).st k hlt
        have HSU := Lib.hid (rowL_succ (fun i => readV W own n i) k)
        have HOU := Lib.hid (okB_succ own n k)
        have hce : ((chE own (k / n) : Int) == 0) = decide (own.getD (k / n) 0 ≠ 0) := by
          unfold chE
          by_cases e : own.getD (k / n) 0 = 0
          · rw [if_pos e, decide_eq_false (fun g => g e)]; rfl
          · rw [if_neg e, decide_eq_true e]; rfl
        generalize decide (own.getD (k / n) 0 ≠ 0) = bb at *
        generalize readV W own n k = v at *
        generalize chE own (k / n) = ce at *
        have HRD := Lib.hid hRD
        have hsz := HB.out.size
        have hs9 : w2.heap.size ≤ (wr.alloc (.cells #[.int .u64 v] 46)).heap.size := by rw [World.size_alloc]; omega
        have HS9 := Lib.hid hs9
        have HML := Lib.hid (show k + 1 ≤ maxLen by unfold maxLen; omega)
        have HL9 := Lib.hid (show (k + 1) * 8 ≤ 140737488355328 by omega)
        have HL8 := Lib.hid (show (k + 1) * 1 ≤ 140737488355328 by omega)
        have HBA := Lib.hid (HB.out.on (below1 wr (.cells #[.int .u64 v] 46)))
        clear hRD hs9
        go_wp2_with fail
        refine HRD.out.mono ?_
        rintro e w4 ⟨rfl, rfl⟩
        go_wp2_with (first
          | (at_builtin; go_loud (refine wpList_append_own _ rfl _ _ 45 rfl w2.heap.size 4 j0 (.bool false) 1 1 Tryd.underlying45 JI.out JZ0.out JZ1.out JZ2.out rfl (by decide) _ _ _ rfl (own_on HR2n.out (below1 w5 (.cells #[.bool bb] 4))) ⟨_, 0, none⟩ 1 1 [.bool bb] rfl rfl (World.news_of_block (heap_alloc_new w5 (.cells #[.bool bb] 4))) (by simp [Value.oneCell']) HML.out HL8.out HS10.out ?_; intro v2' w6 hown2 hgrow2 _; obtain ⟨g2', cap2', rfl⟩ := ownsRow_succ hown2))
          | (at_builtin; go_loud (refine wpList_append_own _ rfl _ _ 42 rfl w2.heap.size 46 i0 (.int .u64 0) 1 8 Tryd.underlying42 HI.out HZ0.out HZ1.out HZ2.out rfl (by decide) _ _ _ rfl (own_on HR1.out (below1 wr (.cells #[.int .u64 v] 46))) ⟨_, 0, none⟩ 1 1 [.int .u64 v] rfl rfl (World.news_of_block (heap_alloc_new wr (.cells #[.int .u64 v] 46))) (by simp [Value.oneCell']) HML.out HL9.out HS9.out ?_; intro v' w5 hown' hgrow _; obtain ⟨g', cap', rfl⟩ := ownsRow_succ hown'; have HOWN1 := Lib.hid hown'; have HR2n := Lib.hid (own_beside (own_on HR1.out (below1 wr (.cells #[.int .u64 v] 46))) (own_on HR2.out (below1 wr (.cells #[.int .u64 v] 46))) (by decide) hgrow); have HB5 := Lib.hid (HBA.out.grown hgrow HBA.out.size (fun z e => (HR1.out.lt z e).1)); have HS10 := Lib.hid (show w2.heap.size ≤ (w5.alloc (.cells #[.bool bb] 4)).heap.size by rw [World.size_alloc]; have := HB5.out.size; omega); clear hown' hgrow)))
        go_roundw
        case rel =>
          have hb5 := HB5.out.on (below1 w5 (.cells #[.bool bb] 4))
          refine ⟨k + 1, by omega, by go_num, Lib.hid ?_, Lib.hid ?_, Lib.hid (hb5.grown hgrow2 hb5.size (fun z e => (HR2n.out.lt z e).1))⟩
          · rw [HSU.out, List.map_append]
            exact own_beside (own_on HR2n.out (below1 w5 (.cells #[.bool bb] 4))) (own_on HOWN1.out (below1 w5 (.cells #[.bool bb] 4))) (by decide) hgrow2
          · rw [HOU.out, List.flatMap_append]
            exact hown2
        case measure => simp [intOf]; omega
      · obtain rfl : k = W.length := by omega
        obtain ⟨wo, rfl⟩ : ∃ wo : World, wo = wr := ⟨_, rfl⟩
        have hrow := HR1.out
        rw [words_of] at hrow
        have hlt9 := hrow.lt
        have hrow2 : wo.ownsRow w2.heap.size 46 1 u10 (rowL (fun i => readV W own n i) W.length).length ((rowL (fun i => readV W own n i) W.length).flatMap encW) := by rw [rowL_len]; exact hrow
        obtain ⟨A4, c4, e4, hc4, hS4⟩ := own_slice encW 0 (fun _ => rfl) hrow2
        rw [rowL_len] at e4
        subst e4
        have HAB : Hid (∀ b o', A4 = some ⟨b, o', none⟩ → ¬ Four3 Wb Ob p q b) := Lib.hid (fun b o' e h => by
          have h1 := (hlt9 b (by rw [e]; rfl)).1
          have h2 := HP2.out.lt b (.inl (.inr h))
          omega)
        have hrow3 : wo.ownsRow w2.heap.size 4 1 u11 (okB own n W.length).length ((okB own n W.length).flatMap encB) := by rw [okB_len]; exact HR2.out
        have hlt8 := hrow3.lt
        obtain ⟨A5, c5, e5, hc5, hS5⟩ := own_slice encB false (fun _ => rfl) hrow3
        rw [okB_len] at e5
        subst e5
        have HAC : Hid (∀ b o', A5 = some ⟨b, o', none⟩ → ¬ Four3 Wb Ob p q b) := Lib.hid (fun b o' e h => by
          have h1 := (hlt8 b (by rw [e]; rfl)).1
          have h2 := HP2.out.lt b (.inl (.inr h))
          omega)
        have HS4 := Lib.hid hS4
        have HS5 := Lib.hid hS5
        have HP4 := Lib.hid (HP2.out.on HB.out)
        have HB4 := Lib.hid (HB2.out.on HB.out)
        have hbx4 := (HB.out.block _ (block_lt HBY2.out)).trans HBY2.out
        have b0 := (blk_cells hbx4 0).trans rfl
        have b1 := (blk_cells hbx4 1).trans rfl
        have b2 := (blk_cells hbx4 2).trans rfl
        have HBX4 := Lib.hid hbx4
        clear hrow hrow2 hrow3 hS4 hS5 HR1 HR2 HB hc4 hc5 hlt9 hlt8 hbx4 k0
        obtain ⟨T, hT, hTN⟩ := rem_nat a0 W.length hall1
        obtain ⟨F, hF, hFN⟩ := rem_nat a1 W.length hall1
        obtain ⟨M, hM⟩ : ∃ M, M = max T F := ⟨_, rfl⟩
        obtain ⟨N, hN, hNN⟩ := rem_nat a2 (W.length - M + 1) (by omega)
        have hTi : IntKind.i64.wrap (T : Int) = (T : Int) := by rw [IntKind.wrap_i64]; omega
        have hFi : IntKind.i64.wrap (F : Int) = (F : Int) := by rw [IntKind.wrap_i64]; omega
        have hWu : IntKind.u64.wrap (W.length : Int) = (W.length : Int) := by rw [IntKind.wrap_u64]; omega
        have hnz : ¬ (W.length : Int) = 0 := by omega
        have hmx : (if (T : Int) < (F : Int) then (F : Int) else (T : Int)) = (M : Int) := by omega
        have hmx2 : (if T < F then (F : Int) else (T : Int)) = (M : Int) := by by_cases h : T < F; (rw [if_pos h]; omega); (rw [if_neg h]; omega)
        have hd : ((W.length - M + 1 : Nat) : Int) = (W.length : Int) - M + 1 := by omega
        rw [hd] at hN
        have hw3 : IntKind.u64.wrap ((W.length : Int) - M + 1) = (W.length : Int) - M + 1 := by rw [IntKind.wrap_u64]; omega
        have hnz2 : ¬ ((W.length : Int) - M + 1) = 0 := by omega
        have hTM : T + N ≤ W.length := by omega
        have hFM : F + N ≤ W.length := by omega
        have hMW : M ≤ W.length := by omega
        clear hd hM
        go_wp2_with fail
        go_quiet (fail)
        have hbq := below_drewN (Below.refl wo.heap.size wo) nq
        have HP5 := Lib.hid (HP4.out.on hbq)
        have HB5 := Lib.hid (HB4.out.on hbq)
        have HV4 := Lib.hid (HS4.out.on hbq)
        have HV5 := Lib.hid (HS5.out.on hbq)
        have hbx5 := (hbq.block _ (block_lt HBX4.out)).trans HBX4.out
        have d2 := (blk_cells hbx5 2).trans rfl
        generalize wo.drewN nq = w5 at *
        clear hbq hbx5 HP4 HB4 HS4 HS5 b0 b1 b2 hT hF hTi hFi hnz HBX4
        go_wp2
        clear hmx hmx2 hN hw3 hnz2 hWu d2
        go_loopw [18, 95] (fun v18 v95 wr => ∃ i : Nat, i ≤ N ∧ v95 = .int .i64 i ∧ v18 = .bool (okW own n T i && okW own n F i) ∧ wr = w5) (fun _ v95 _ => N - (intOf v95).toNat)
        case atStart => exact ⟨0, by omega, rfl, rfl, rfl⟩
        case round =>
          obtain ⟨i, hi, rfl, rfl, rfl⟩ := hrel
          by_cases hlt2 : i < N
          · have HST := Lib.hid (okW_succ own n T i)
            have HSF := Lib.hid (okW_succ own n F i)
            obtain ⟨b5, o5, rfl, hx0⟩ := HV5.out (T + i) (by rw [okB_len]; omega)
            have hx := hx0 0 _ rfl
            rw [okB_get (by omega), Nat.add_zero, Nat.mul_one] at hx
            obtain ⟨b6, o6, h6, hy0⟩ := HV5.out (F + i) (by rw [okB_len]; omega)
            cases h6
            have hy := hy0 0 _ rfl
            rw [okB_get (by omega), Nat.add_zero, Nat.mul_one] at hy
            have e1 : IntKind.i64.wrap ((T : Int) + (i : Int)) = ((T + i : Nat) : Int) := by rw [IntKind.wrap_i64]; omega
            have e2 : IntKind.i64.wrap ((F : Int) + (i : Int)) = ((F + i : Nat) : Int) := by rw [IntKind.wrap_i64]; omega
            generalize decide (own.getD ((T + i) / n) 0 ≠ 0) = p1 at *
            generalize decide (own.getD ((F + i) / n) 0 ≠ 0) = p2 at *
            generalize okW own n T i = r1 at *
            generalize okW own n F i = r2 at *
            clear hx0 hy0
            cases r1 <;> cases r2 <;> cases p1
            all_goals
              simp only [Bool.true_and, Bool.false_and, Bool.and_false, Bool.and_true]
              go_wp2
              go_roundw
              case rel => exact ⟨i + 1, by omega, by go_num, by rw [HST.out, HSF.out]; simp, trivial⟩
              case measure => simp [intOf]; omega
          · obtain rfl : i = N := by omega
            by_cases hmay : okW own n T i = true ∧ okW own n F i = true
            · have hand : (okW own n T i && okW own n F i) = true := by rw [hmay.1, hmay.2]; rfl
              rw [hand]
              have HC := Lib.hid (copy_in HP5.out.st T F i hTM hFM hmay.1 hmay.2)
              have HOT := Lib.hid (okW_iff.1 hmay.1)
              have HOF := Lib.hid (okW_iff.1 hmay.2)
              clear hmay hand
              go_wp2_with fail
              refine HC.out.mono ?_
              rintro e w6 ⟨rfl, hS6, hM6⟩
              have HB6 := Lib.hid (Mod.below HB5.out hM6 (fun k e => HF.out k (.inl (.inr e))) HB5.out.size)
              have HT6 := Lib.hid hS6
              have HV4' := Lib.hid (slice_mod HV4.out hM6 (fun b o' e _ => HAB.out b o' e))
              have HV5' := Lib.hid (slice_mod HV5.out hM6 (fun b o' e _ => HAC.out b o' e))
              have HCL : Hid ((copyW W T F i).length = W.length) := Lib.hid (length_splice _ _ _ (by simp; omega))
              clear hS6 hM6 HC HV4 HV5
              go_wp2
              go_loopw [134] (fun v134 wr2 => ∃ j : Nat, j ≤ W.length ∧ v134 = .int .i64 j ∧ wr2 = w6) (fun v134 _ => W.length - (intOf v134).toNat)
              case atStart => exact ⟨0, by omega, rfl, rfl⟩
              case round =>
                obtain ⟨j, hj, rfl, rfl⟩ := hrel
                by_cases hlt3 : j < W.length
                · have hRD := read_in HT6.out j (by rw [HCL.out]; exact hlt3)
                  have hcg := copyW_get (W := W) (t := T) (f := F) (n := i) hTM hFM j
                  obtain ⟨b5, o5, rfl, hx0⟩ := HV4'.out j (by rw [rowL_len]; exact hlt3)
                  have hx := hx0 0 _ rfl
                  rw [rowL_get hlt3, Nat.add_zero, Nat.mul_one] at hx
                  obtain ⟨b6, o6, rfl, hy0⟩ := HV5'.out j (by rw [okB_len]; exact hlt3)
                  have hy := hy0 0 _ rfl
                  rw [okB_get hlt3, Nat.add_zero, Nat.mul_one] at hy
                  have hce : ((chE own (j / n) : Int) == 0) = decide (own.getD (j / n) 0 ≠ 0) := by
                    unfold chE
                    by_cases e : own.getD (j / n) 0 = 0
                    · rw [if_pos e, decide_eq_false (fun g => g e)]; rfl
                    · rw [if_neg e, decide_eq_true e]; rfl
                  by_cases hin : T ≤ j ∧ j < T + i
                  · obtain ⟨hin1, hin2⟩ := hin
                    have hd3 : T + (j - T) = j := by omega
                    have ho1 : own.getD (j / n) 0 ≠ 0 := by have := HOT.out (j - T) (by omega); rwa [hd3] at this
                    have ho2 : own.getD ((F + (j - T)) / n) 0 ≠ 0 := HOF.out (j - T) (by omega)
                    have g1 : readV (copyW W T F i) own n j = W.getD (F + (j - T)) 0 := by unfold readV; rw [if_neg ho1, hcg, if_pos ⟨hin1, hin2⟩]
                    have g2 : readV W own n (F + (j - T)) = W.getD (F + (j - T)) 0 := by unfold readV; rw [if_neg ho2]
                    obtain ⟨b7, o7, h7, hz0⟩ := HV4'.out (F + (j - T)) (by rw [rowL_len]; omega)
                    cases h7
                    have hz := hz0 0 _ rfl
                    rw [rowL_get (by omega), Nat.add_zero, Nat.mul_one, g2] at hz
                    rw [g1] at hRD
                    generalize decide (own.getD (j / n) 0 ≠ 0) = bb at *
                    generalize chE own (j / n) = ce at *
                    generalize W.getD (F + (j - T)) 0 = v at *
                    generalize readV W own n j = u at *
                    have vv : (v != v) = false := by simp
                    have bbb : (bb != bb) = false := by simp
                    have e2 : IntKind.i64.wrap ((T : Int) + (i : Int)) = ((T + i : Nat) : Int) := by rw [IntKind.wrap_i64]; omega
                    have e3 : IntKind.i64.wrap ((F : Int) + (j : Int)) = ((F + j : Nat) : Int) := by rw [IntKind.wrap_i64]; omega
                    have e4 : IntKind.i64.wrap ((F : Int) + (j : Int) - (T : Int)) = ((F + (j - T) : Nat) : Int) := by rw [IntKind.wrap_i64]; omega
                    have e5 : (F : Int) + (j : Int) - (T : Int) = ((F + (j - T) : Nat) : Int) := by omega
                    have HRD := Lib.hid hRD
                    clear hcg hx0 hy0 hz0 ho1 ho2 g1 g2 hRD hd3
                    go_wp2_with fail
                    refine HRD.out.mono ?_
                    rintro e w7 ⟨rfl, rfl⟩
                    go_wp2
                    go_roundw
                    case rel => exact ⟨j + 1, by omega, by go_num, trivial⟩
                    case measure => simp [intOf]; omega
                  · have g1 : readV (copyW W T F i) own n j = readV W own n j := by unfold readV; rw [hcg, if_neg hin]
                    rw [g1] at hRD
                    generalize decide (own.getD (j / n) 0 ≠ 0) = bb at *
                    generalize chE own (j / n) = ce at *
                    generalize readV W own n j = u at *
                    have vv : (u != u) = false := by simp
                    have bbb : (bb != bb) = false := by simp
                    have e2 : IntKind.i64.wrap ((T : Int) + (i : Int)) = ((T + i : Nat) : Int) := by rw [IntKind.wrap_i64]; omega
                    have HRD := Lib.hid hRD
                    have hcs : (¬ T ≤ j) ∨ (T ≤ j ∧ ¬ j < T + i) := by omega
                    clear hcg hx0 hy0 g1 hRD hin
                    rcases hcs with q1 | ⟨q1, q2⟩
                    · go_wp2_with fail
                      refine HRD.out.mono ?_
                      rintro e w7 ⟨rfl, rfl⟩
                      go_wp2
                      go_roundw
                      case rel => exact ⟨j + 1, by omega, by go_num, trivial⟩
                      case measure => simp [intOf]; omega
                    · go_wp2_with fail
                      refine HRD.out.mono ?_
                      rintro e w7 ⟨rfl, rfl⟩
                      go_wp2
                      go_roundw
                      case rel => exact ⟨j + 1, by omega, by go_num, trivial⟩
                      case measure => simp [intOf]; omega
                · obtain rfl : j = W.length := by omega
                  go_wp2
                  go_ret
                  exact ⟨rfl, HB6.out⟩
            · have hand : (okW own n T i && okW own n F i) = false := by
                rw [Bool.eq_false_iff]; intro e; rw [Bool.and_eq_true] at e; exact hmay e
              rw [hand]
              have HC : Hid (Calls Tryd.prog 24 #[.pointer (some ⟨B, 0, none⟩), .int .i64 T, .int .i64 F, .int .i64 i] wr fun e w' => e = .returned (.int .i64 17) ∧ wr = w') := Lib.hid ((copy_bad HP5.out.st T F i (fun e => hmay ⟨by simpa using e.2.2.1, by simpa using e.2.2.2⟩)).mono fun e Y' ⟨⟨x, he, hcc, hx⟩, hw⟩ => ⟨by
                rcases hcc with ⟨h3, h4⟩ | ⟨h3, _⟩ | ⟨h3, _⟩
                · exfalso
                  rcases h4 with h4 | h4
                  · exact h4 ⟨by omega, by omega, by omega, by omega⟩
                  · exact h4 ⟨by omega, by omega, by omega, by omega⟩
                · rw [he, h3]
                · exact absurd h3 hx, hw⟩)
              clear hmay hand
              go_wp2_with fail
              refine HC.out.mono ?_
              rintro e w6 ⟨rfl, rfl⟩
              go_wp2
              go_loopw [134] (fun v134 wr2 => ∃ j : Nat, j ≤ W.length ∧ v134 = .int .i64 j ∧ wr2 = wr) (fun v134 _ => W.length - (intOf v134).toNat)
              case atStart => exact ⟨0, by omega, rfl, rfl⟩
              case round =>
                obtain ⟨j, hj, rfl, rfl⟩ := hrel
                by_cases hlt3 : j < W.length
                · have hRD := read_in HP5.out.st j hlt3
                  obtain ⟨b5, o5, rfl, hx0⟩ := HV4.out j (by rw [rowL_len]; exact hlt3)
                  have hx := hx0 0 _ rfl
                  rw [rowL_get hlt3, Nat.add_zero, Nat.mul_one] at hx
                  obtain ⟨b6, o6, rfl, hy0⟩ := HV5.out j (by rw [okB_len]; exact hlt3)
                  have hy := hy0 0 _ rfl
                  rw [okB_get hlt3, Nat.add_zero, Nat.mul_one] at hy
                  have hce : ((chE own (j / n) : Int) == 0) = decide (own.getD (j / n) 0 ≠ 0) := by
                    unfold chE
                    by_cases e : own.getD (j / n) 0 = 0
                    · rw [if_pos e, decide_eq_false (fun g => g e)]; rfl
                    · rw [if_neg e, decide_eq_true e]; rfl
                  generalize decide (own.getD (j / n) 0 ≠ 0) = bb at *
                  generalize chE own (j / n) = ce at *
                  generalize readV W own n j = u at *
                  have vv : (u != u) = false := by simp
                  have bbb : (bb != bb) = false := by simp
                  have HRD := Lib.hid hRD
                  clear hx0 hy0 hRD
                  go_wp2_with fail
                  refine HRD.out.mono ?_
                  rintro e w7 ⟨rfl, rfl⟩
                  go_wp2
                  go_roundw
                  case rel => exact ⟨j + 1, by omega, by go_num, trivial⟩
                  case measure => simp [intOf]; omega
                · obtain rfl : j = W.length := by omega
                  go_wp2
                  go_ret
                  exact ⟨rfl, HB5.out⟩
end Go.Proofs.YtkaflgbipjppmaaDoor
