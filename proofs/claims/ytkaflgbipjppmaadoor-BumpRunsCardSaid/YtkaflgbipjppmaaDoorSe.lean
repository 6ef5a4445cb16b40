/- same: are the owners and the words the document's?: a walk. -/
import Derived.Test.YtkaflgbipjppmaaDoorDo
namespace Go.Proofs.YtkaflgbipjppmaaDoor
open Go.RowKit
set_option linter.unusedVariables false
set_option linter.unusedSimpArgs false
variable {w w' : World} {B Wb Ob p q G Wg Og size : Nat} {W W' own own' : List Int}
set_option maxRecDepth 100000 in
set_option maxHeartbeats 2000000 in
theorem same3_any (h : Pair w B Wb Ob p q G Wg Og size W own) (hT : Tab w) :
    Calls Tryd.prog 37 #[.pointer (some ⟨B, 0, none⟩), .pointer (some ⟨G, 0, none⟩)] w fun e w' => e = .returned (.bool true) ∧ Below w.heap.size w w' := by
  have HP : Hid (∀ Y, Below w.heap.size w Y → Pair Y B Wb Ob p q G Wg Og size W own) := Lib.hid (fun Y hY => h.on hY)
  have HT : Hid (∀ Y, Below w.heap.size w Y → Tab Y) := Lib.hid (fun Y hY => hT.on hY)
  have HF : Hid (∀ Y, Below w.heap.size w Y → Calls Tryd.prog 20 #[.pointer (some ⟨B, 0, none⟩)] Y fun e w' => e = .returned (.int .i64 (freeN own : Nat)) ∧ Below Y.heap.size Y w') := Lib.hid (fun Y hY => free_any (h.on hY).st)
  have HRF : Hid (∀ Y, Below w.heap.size w Y → Calls Tryd.prog 53 #[.pointer (some ⟨G, 0, none⟩)] Y fun e w' => e = .returned (.int .i64 (freeN own : Nat)) ∧ Y = w') := Lib.hid (fun Y hY => rfree_any (h.on hY).rf)
  have HC : Hid (∀ Y, Below w.heap.size w Y → Calls Tryd.prog 38 #[.pointer (some ⟨B, 0, none⟩)] Y fun e w' => e = .returned (.int .i64 own.length) ∧ Y = w') := Lib.hid (fun Y hY => chunks_any (h.on hY).st)
  have HW : Hid (∀ Y, Below w.heap.size w Y → Calls Tryd.prog 39 #[.pointer (some ⟨B, 0, none⟩)] Y fun e w' => e = .returned (.int .i64 size) ∧ Y = w') := Lib.hid (fun Y hY => words_any (h.on hY).st)
  have hol := h.rf.o2
  have hwl := h.rf.wlen
  have hs1 := h.rf.s1
  have hsz2 := h.rf.s2
  have HWL := Lib.hid h.rf.hW
  have k1 := h.rf.c1
  have k2 := h.rf.c2
  generalize freeN own = f at HF HRF
  have f1 : ((f : Int) != (f : Int)) = false := by simp
  have f2 : ((own.length : Int) != (own.length : Int)) = false := by simp
  have f3 : ((size : Int) != (size : Int)) = false := by simp
  clear h hT
  go_enter Tryd.func37, Tryd.ntmps37
  go_wp2_with fail
  go_region_held3 (fun wk => (wk.cell? ⟨G, 1, none⟩ = some (.int .i64 size) ∧ wk.cell? ⟨G, 2, none⟩ = some (.slice (some ⟨Og, 0, none⟩) own.length own.length)) ∧ Below w.heap.size w wk) (first | assumption | exact kp2_call (by assumption) (by assumption) | exact ⟨⟨k1, k2⟩, Below.drew (Below.refl _ _)⟩) (first | (go_at_call 20; refine (HF.out _ (And.right (by assumption))).mono ?_; rintro e w9 ⟨rfl, hb9⟩) | (go_at_call 53; refine (HRF.out _ (And.right (by assumption))).mono ?_; rintro e w8 ⟨rfl, rfl⟩) | (go_at_call 38; refine (HC.out _ (And.right (by assumption))).mono ?_; rintro e w8 ⟨rfl, rfl⟩) | (go_at_call 39; refine (HW.out _ (And.right (by assumption))).mono ?_; rintro e w8 ⟨rfl, rfl⟩))
  have hB9 : Below w.heap.size w w9 := by
    have h9 : (w9.cell? ⟨G, 1, none⟩ = some (.int .i64 size) ∧ w9.cell? ⟨G, 2, none⟩ = some (.slice (some ⟨Og, 0, none⟩) own.length own.length)) ∧ Below w.heap.size w w9 := by assumption
    exact h9.2
  have q2 := (HP.out _ hB9).rf.c2
  have HB9 := Lib.hid hB9
  clear hB9 HF HRF HC HW f1 f2 f3 k1 k2
  go_wp2_with fail
  go_loopw [40] (fun v40 wr => ∃ k : Nat, k ≤ own.length ∧ v40 = .int .i64 k ∧ Hid (Below w.heap.size w wr)) (fun v40 _ => own.length - (intOf v40).toNat)
  case atStart => exact ⟨0, by omega, rfl, HB9⟩
  case round =>
    obtain ⟨k, hk, rfl, HB⟩ := hrel
    clear q2
    have hP := HP.out _ HB.out
    have hT := HT.out _ HB.out
    by_cases hlt : k < own.length
    · have hcell := hP.rf.own_cell k hlt
      have HO := Lib.hid (owner_in hP.st k hlt)
      by_cases hpos : 0 < own.getD k 0
      · have HOW := Lib.hid (owned_any hP.st hT (own.getD k 0))
        have HRO := Lib.hid (fun Y hY => rowned_any (HP.out Y hY).rf (own.getD k 0) hpos)
        generalize own.getD k 0 = y at *
        have hy : (y != y) = false := by simp
        have c1 : ((0 : Int) < y) := hpos
        clear hP hT
        go_wp2_with fail
        refine HO.out.mono ?_
        rintro e w1 ⟨rfl, rfl⟩
        go_wp2_with fail
        refine HOW.out.mono ?_
        rintro e w1 ⟨v1, rfl, hI1, hb1⟩
        have HB1 := Lib.hid (HB.out.on hb1)
        obtain ⟨A1, c1', e1, hc1, hm1, hs1'⟩ := id hI1
        subst e1
        have HI1 := Lib.hid hI1
        clear hI1 hb1 HO HOW hc1 hm1 hs1'
        go_wp2_with fail
        refine (HRO.out _ HB1.out).mono ?_
        rintro e w2 ⟨v2, rfl, hI2, hb2⟩
        have HB2 := Lib.hid (HB1.out.on hb2)
        have HI12 := Lib.hid (HI1.out.on hb2)
        obtain ⟨A2, c2', e2, hc2, hm2, hs2'⟩ := id hI2
        subst e2
        have HI2 := Lib.hid hI2
        clear hI2 hb2 hc2 hm2 hs2' HI1
        go_wp2_with fail
        refine (same_any HI12.out HI2.out).mono ?_
        rintro e w3 ⟨rfl, hb3⟩
        rw [decide_eq_true rfl]
        have HB3 := Lib.hid (HB2.out.on hb3)
        clear hb3
        go_wp2
        go_roundw
        case rel => exact ⟨k + 1, by omega, by go_num, HB3⟩
        case measure => simp [intOf]; omega
      · generalize own.getD k 0 = y at *
        have hy : (y != y) = false := by simp
        clear hP hT
        go_wp2_with fail
        refine HO.out.mono ?_
        rintro e w1 ⟨rfl, rfl⟩
        go_wp2
        go_roundw
        case rel => exact ⟨k + 1, by omega, by go_num, HB⟩
        case measure => simp [intOf]; omega
    · obtain rfl : k = own.length := by omega
      have q0 := hP.rf.c0
      clear hP hT
      go_wp2
      go_loopw [70] (fun v70 wx => ∃ i : Nat, i ≤ W.length ∧ v70 = .int .i64 i ∧ Hid (Below w.heap.size w wx)) (fun v70 _ => W.length - (intOf v70).toNat)
      case atStart => exact ⟨0, by omega, rfl, HB⟩
      case round =>
        obtain ⟨i, hi, rfl, HBx⟩ := hrel
        clear q0
        have hP := HP.out _ HBx.out
        by_cases hlt2 : i < W.length
        · have hcell := hP.rf.word_cell i hlt2
          have hq : i / size < own.length := by
            rw [Nat.div_lt_iff_lt_mul (by omega)]
            have := HWL.out
            omega
          have hoc := hP.rf.own_cell (i / size) hq
          have HR0 := read_in hP.st i hlt2
          have d1 := hP.rf.c1
          have d2 := hP.rf.c2
          have c6 : ¬ (size : Int) = 0 := by omega
          by_cases hz : own.getD (i / size) 0 = 0
          · have g1 : readV W own size i = 0 := if_pos hz
            have g2 : chE own (i / size) = 17 := if_pos hz
            rw [g1, g2] at HR0
            rw [hz] at hoc
            have HR := Lib.hid HR0
            obtain ⟨q1, hq1⟩ : ∃ q1, q1 = i / size := ⟨_, rfl⟩
            have e1 : (i : Int).tdiv (size : Int) = (q1 : Int) := by rw [Int.tdiv_eq_ediv_of_nonneg (by omega), hq1]; simp
            have e2 : (i : Int) / (size : Int) = (q1 : Int) := by rw [hq1]; simp
            rw [← hq1] at hoc hq
            clear hP HR0 hz g1 g2 hq1
            generalize W.getD i 0 = x at hcell
            go_wp2_with fail
            refine HR.out.mono ?_
            rintro e w1 ⟨rfl, rfl⟩
            go_wp2_with fail
            go_quiet (fail)
            go_wp2
            go_roundw
            case rel => exact ⟨i + 1, by omega, by go_num, Lib.hid (below_drewN HBx.out _)⟩
            case measure => simp [intOf]; omega
          · have g1 : readV W own size i = W.getD i 0 := if_neg hz
            have g2 : chE own (i / size) = 0 := if_neg hz
            rw [g1, g2] at HR0
            have HR := Lib.hid HR0
            have hzb : (own.getD (i / size) 0 == 0) = false := by simpa using hz
            obtain ⟨q1, hq1⟩ : ∃ q1, q1 = i / size := ⟨_, rfl⟩
            have e1 : (i : Int).tdiv (size : Int) = (q1 : Int) := by rw [Int.tdiv_eq_ediv_of_nonneg (by omega), hq1]; simp
            have e2 : (i : Int) / (size : Int) = (q1 : Int) := by rw [hq1]; simp
            rw [← hq1] at hoc hq hzb
            clear hP HR0 hz g1 g2 hq1
            generalize W.getD i 0 = x at *
            generalize own.getD q1 0 = y at hoc hzb
            have hx : (x != x) = false := by simp
            go_wp2_with fail
            refine HR.out.mono ?_
            rintro e w1 ⟨rfl, rfl⟩
            go_wp2_with fail
            go_quiet (fail)
            go_wp2
            go_roundw
            case rel => exact ⟨i + 1, by omega, by go_num, Lib.hid (below_drewN HBx.out _)⟩
            case measure => simp [intOf]; omega
        · obtain rfl : i = W.length := by omega
          clear hP
          go_wp2
          go_ret
          exact ⟨rfl, HBx.out⟩
end Go.Proofs.YtkaflgbipjppmaaDoor
