/- StoreRuns: a walk. -/
import Derived.Test.YtkaflgbipjppmaaDoorPl
import Derived.Deep.RegionHeld3
namespace Go.Proofs.YtkaflgbipjppmaaDoor
open Go.RowKit
set_option linter.unusedVariables false
set_option linter.unusedSimpArgs false
variable {w w' : World} {B Wb Ob p q G Wg Og size : Nat} {W W' own own' : List Int} {c : Nat}
theorem infoB : (Tryd.prog.info? 4).map (fun i => (i.zero, i.size, i.bytes)) = some (some (.bool false), 1, 1) := by kernel_rfl
set_option maxRecDepth 100000 in
set_option maxHeartbeats 4000000 in
theorem runs3_walk (zc zw : Int) (A : Option Addr) (l : List Act3) (cp : Nat) (kk : Int) (hz1 : i64B zc) (hz2 : i64B zw) (hl : l.length ≤ cp) (hm : l.length ≤ maxLen) (hS : SliceOf w A 5 act3Enc act30 l) (hg : ∀ x ∈ l, good3 x) (hT : Tab w) :
    Calls Tryd.prog 7 #[.agg #[.int .i64 zc, .int .i64 zw], .slice A l.length cp, .int .i64 kk] w fun e w' => e = .returned (.bool true) ∧ Below w.heap.size w w' := by
  obtain ⟨c, hc, hc1, hc2⟩ := size_n zc hz1
  obtain ⟨n, hn, hn1, hn2⟩ := size_n zw hz2
  have hb0 := below1 w (.cells #[.int .i64 zc, .int .i64 zw] 36)
  have HG : Hid (∀ Y, Below (w.alloc (.cells #[.int .i64 zc, .int .i64 zw] 36)).heap.size (w.alloc (.cells #[.int .i64 zc, .int .i64 zw] 36)) Y → Calls Tryd.prog 21 #[.agg #[.int .i64 zc, .int .i64 zw], .slice A l.length cp] Y (GrownPost3 c n l.length Y)) := Lib.hid (fun Y hY => grown3_any (w := Y) zc zw c n hc hc1 hc2 hn hn1 hn2 A l cp hl hm ((hS.on hb0).on hY) hg ((hT.on hb0).on hY))
  have HB0 := Lib.hid hb0
  have hz0 : (w.alloc (.cells #[.int .i64 zc, .int .i64 zw] 36)).heap.size = w.heap.size + 1 := by simp
  have hlT := lt_of_cell (hT 0 (by decide))
  have HTT : Hid (∀ Y, Below w.heap.size w Y → Tab Y) := Lib.hid (fun Y hY j hj => (hY.cell (p := ⟨0, j, none⟩) hlT).trans (hT j hj))
  have HAL : Hid (∀ Y, Below w.heap.size w Y → Calls Tryd.prog 22 #[] Y fun e w' => e = .returned (.bool true) ∧ Below Y.heap.size Y w') := Lib.hid (fun Y hY => alive3_any (HTT.out Y hY))
  unfold maxLen at hm
  clear hb0 hc hn hS hg hT hz1 hz2
  go_enter Tryd.func7, Tryd.ntmps7
  go_wp2_with fail
  have HBQ := Lib.hid HB0.out
  refine (HG.out _ (Below.refl _ _)).mono ?_
  rintro e w1 (⟨hlen, B, Wb, Ob, p, q, G, Wg, Og, W, own, rfl, hP, ⟨hown, hBN⟩, hb1, hF⟩ | ⟨hlen, rfl, hb1⟩)
  case inr =>
    have hl' : decide ((80 : Int) < (l.length : Int)) = true := decide_eq_true (by omega)
    have hB1 := HBQ.out.on hb1
    clear hb1 HG
    go_wp2_with fail
    refine (HAL.out _ hB1).mono ?_
    rintro e w2 ⟨rfl, hb2⟩
    have hB2 := hB1.on hb2
    clear hb2
    go_wp2_with fail
    refine (HAL.out _ hB2).mono ?_
    rintro e w3 ⟨rfl, hb3⟩
    go_wp2
    go_ret
    exact ⟨rfl, hB2.on hb3⟩
  case inl =>
    subst hown
    have HBN := Lib.hid hBN
    clear hBN
    have HB1 := Lib.hid (HBQ.out.on hb1)
    have HF : Hid (Fresh8 w.heap.size B Wb Ob p q G Wg Og) := Lib.hid (fun k e => by have h9 := hF k e; have h8 := HBQ.out.size; omega)
    have HP1 := Lib.hid hP
    have hol := hP.rf.o2
    have ho1 := hP.rf.o1
    have hwl := hP.rf.wlen
    have HWL := Lib.hid hP.rf.hW

    clear hP hb1 hF HG
    go_wp2_with fail
    refine (HAL.out _ HB1.out).mono ?_
    rintro e w2 ⟨rfl, hb2⟩
    have HP2 := Lib.hid (HP1.out.on hb2)
    have HB2 := Lib.hid (HB1.out.on hb2)

    clear hb2 HP1 HB1
    have k2 := HP2.out.rf.c2
    have HK2 := Lib.hid HP2.out.rf
    obtain ⟨K, hK, hK1, hK2⟩ := run_n kk
    obtain ⟨i0, hi, hz0', hz1', hz2'⟩ := info_parts infoB
    have HI := Lib.hid hi
    have HZ0 := Lib.hid hz0'
    have HZ1 := Lib.hid hz1'
    have HZ2 := Lib.hid hz2'
    have hmax : (if (0 : Int) < kk then kk else 0) = max 0 kk := by omega
    have htm : (max 0 kk).tmod 6 = max 0 kk % 6 := Int.tmod_eq_emod_of_nonneg (by omega)
    have hw6 : wrap64 (1 + max 0 kk % 6) = (K : Int) := by rw [hK]; simp only [wrap64]; omega
    have hs6 : 1 + max 0 kk % 6 = (K : Int) := hK.symm
    clear hi hz0' hz1' hz2' hK
    go_wp2_with fail
    clear hmax htm hw6 hs6 k2
    go_loopw [10, 50] (fun v10 v50 wr => ∃ k : Nat, k ≤ own.length ∧ v50 = .int .i64 k ∧ Hid (wr.ownsRow w2.heap.size 4 1 v10 k ((freeB own k).flatMap encB)) ∧ Hid (Below w2.heap.size w2 wr)) (fun _ v50 _ => own.length - (intOf v50).toNat)
    case atStart => exact ⟨0, by omega, rfl, Lib.hid (World.ownsRow_nil _ _ _ _), Lib.hid (Below.refl _ _)⟩
    case round =>
      obtain ⟨k, hk, rfl, HR, HB⟩ := hrel
      by_cases hlt : k < own.length
      · have HO := Lib.hid (owner_in (HP2.out.on HB.out).st k hlt)
        have HTK := Lib.hid (freeB_succ (own := own) hlt)
        generalize own.getD k 0 = y at *
        obtain ⟨bb, hbb⟩ : ∃ bb, (y == 0) = bb := ⟨_, rfl⟩
        rw [hbb] at HTK
        have hsz := HB.out.size
        have hs9 : w2.heap.size ≤ (wr.alloc (.cells #[.bool bb] 4)).heap.size := by rw [World.size_alloc]; omega
        have HML := Lib.hid (show k + 1 ≤ maxLen by unfold maxLen; omega)
        have HL9 := Lib.hid (show (k + 1) * 1 ≤ 140737488355328 by omega)
        go_wp2_with fail
        refine HO.out.mono ?_
        rintro e w4 ⟨rfl, rfl⟩
        go_wp2_with (at_builtin; go_loud (refine wpList_append_own _ rfl _ _ 45 rfl w2.heap.size 4 i0 (.bool false) 1 1 Tryd.underlying45 HI.out HZ0.out HZ1.out HZ2.out rfl (by decide) _ _ _ rfl (own_on HR.out (below1 _ _)) ⟨_, 0, none⟩ 1 1 [.bool bb] rfl rfl (World.news_of_block (heap_alloc_new _ (.cells #[.bool bb] 4))) (by simp [Value.oneCell']) HML.out HL9.out hs9 ?_; intro v' w5 hown' hgrow _; obtain ⟨g', cap', rfl⟩ := ownsRow_succ hown'))
        go_roundw
        case rel =>
          have hba := HB.out.on (below1 wr (.cells #[.bool bb] 4))
          refine ⟨k + 1, by omega, by go_num, Lib.hid ?_, Lib.hid (hba.grown hgrow hba.size (fun z e => (HR.out.lt z e).1))⟩
          rw [HTK.out, List.flatMap_append]
          exact hown'
        case measure => simp [intOf]; omega
      · obtain rfl : k = own.length := by omega
        obtain ⟨wo, rfl⟩ : ∃ wo : World, wo = wr := ⟨_, rfl⟩
        have hrow2 : wo.ownsRow w2.heap.size 4 1 u10 (freeB own own.length).length ((freeB own own.length).flatMap encB) := by rw [freeB_len (Nat.le_refl _)]; exact HR.out
        obtain ⟨A4, c4, e4, hc4, hS4⟩ := own_slice encB false (fun _ => rfl) hrow2
        rw [freeB_len (Nat.le_refl _)] at e4
        subst e4
        have HS4 := Lib.hid hS4
        have HP4 := Lib.hid (HP2.out.on HB.out)
        have HB4 := Lib.hid (HB2.out.on HB.out)
        clear hrow2 hS4 HR HB hc4
        go_wp2
        have hse : IntKind.i64.wrap ((own.length : Int) - (K : Int)) = (own.length : Int) - (K : Int) := by rw [IntKind.wrap_i64]; omega
        go_loopw [12, 13] (fun v12 v13 wr => ∃ cc fv : Int, v13 = .int .i64 cc ∧ v12 = .int .i64 fv ∧ -7 ≤ cc ∧ cc ≤ (own.length : Int) - (K : Int) ∧ Hid (FstR own K (cc + 1) fv) ∧ wr = wo) (fun _ v13 _ => (intOf v13 + 8).toNat)
        case atStart => exact ⟨_, _, rfl, rfl, by omega, by omega, Lib.hid (FstR.start own K), rfl⟩
        case round =>
          obtain ⟨cc, fv, rfl, rfl, hcc1, hcc2, HFS, rfl⟩ := hrel
          by_cases hpos : 0 ≤ cc
          · obtain ⟨m, rfl⟩ : ∃ m : Nat, cc = m := ⟨cc.toNat, by omega⟩
            have hmK : m + K ≤ own.length := by omega
            go_wp2
            go_loopw [14, 69] (fun v14 v69 wr2 => ∃ i : Nat, i ≤ K ∧ v69 = .int .i64 i ∧ v14 = .bool (frB own m i) ∧ wr2 = wr) (fun _ v69 _ => K - (intOf v69).toNat)
            case atStart => exact ⟨0, by omega, rfl, by rw [frB_yes (show FreeRun own m 0 from fun i h1 h2 => by omega)], rfl⟩
            case round =>
              obtain ⟨i, hi, rfl, rfl, rfl⟩ := hrel
              by_cases hlt2 : i < K
              · by_cases hfr : FreeRun own m i
                · have hd := frB_yes hfr
                  rw [hd]
                  obtain ⟨b5, o5, rfl, hx0⟩ := HS4.out (m + i) (by rw [freeB_len (Nat.le_refl _)]; omega)
                  have hx := hx0 0 _ rfl
                  rw [freeB_get (by omega), Nat.add_zero, Nat.mul_one] at hx
                  have e2 : IntKind.i64.wrap ((m : Int) + (i : Int)) = ((m + i : Nat) : Int) := by rw [IntKind.wrap_i64]; omega
                  have HFN := Lib.hid (freeRun_succ (own := own) (j := m) (k := i))
                  clear hx0 hd
                  by_cases hz : own.getD (m + i) 0 = 0
                  · rw [beq_iff_eq.2 hz] at hx
                    have HD : Hid (frB own m (i + 1) = true) := Lib.hid (frB_yes (HFN.out.2 ⟨hfr, hz⟩))
                    clear hfr hz
                    go_wp2
                    go_roundw
                    case rel => exact ⟨i + 1, by omega, by go_num, by rw [HD.out], trivial⟩
                    case measure => simp [intOf]; omega
                  · rw [beq_eq_false_iff_ne.2 hz] at hx
                    have HD : Hid (frB own m (i + 1) = false) := Lib.hid (frB_no (fun e => hz (HFN.out.1 e).2))
                    clear hfr hz
                    go_wp2
                    go_roundw
                    case rel => exact ⟨i + 1, by omega, by go_num, by rw [HD.out], trivial⟩
                    case measure => simp [intOf]; omega
                · have hd := frB_no hfr
                  rw [hd]
                  have HD : Hid (frB own m (i + 1) = false) := Lib.hid (frB_no (fun e => hfr (freeRun_succ.1 e).1))
                  clear hfr hd
                  go_wp2
                  go_roundw
                  case rel => exact ⟨i + 1, by omega, by go_num, by rw [HD.out], trivial⟩
                  case measure => simp [intOf]; omega
              · obtain rfl : i = K := by omega
                by_cases hfr : FreeRun own m i
                · have hd := frB_yes hfr
                  rw [hd]
                  have HN := Lib.hid (HFS.out.yes hfr hmK)
                  clear hfr hd
                  go_wp2
                  go_roundw
                  case rel => exact ⟨(m : Int) - 1, (m : Int), by go_num, rfl, by omega, by omega, Lib.hid (by rw [show (m : Int) - 1 + 1 = (m : Int) by omega]; exact HN.out), trivial⟩
                  case measure => simp [intOf]; omega
                · have hd := frB_no hfr
                  rw [hd]
                  have HN := Lib.hid (HFS.out.no hfr)
                  clear hfr hd
                  go_wp2
                  go_roundw
                  case rel => exact ⟨(m : Int) - 1, fv, by go_num, rfl, by omega, by omega, Lib.hid (by rw [show (m : Int) - 1 + 1 = (m : Int) by omega]; exact HN.out), trivial⟩
                  case measure => simp [intOf]; omega
          · have hng : ¬ 0 ≤ cc := hpos
            have HFR := Lib.hid (free_any HP4.out.st)
            obtain ⟨f, hf⟩ : ∃ f, f = freeN own := ⟨_, rfl⟩
            have HFE := Lib.hid hf
            rw [← hf] at HFR
            have hwf : f ≤ own.length := by rw [hf]; unfold freeN; omega
            clear hf
            go_wp2_with fail
            refine HFR.out.mono ?_
            rintro e w5 ⟨rfl, hb5⟩
            have HP5 := Lib.hid (HP4.out.on hb5)
            have HB5 := Lib.hid (HB4.out.on hb5)
            clear hb5 HFR HP4 HB4
            rcases hrun : runAtO own K with ⟨a, b⟩
            cases b with
            | false =>
              obtain rfl : fv = -1 := HFS.out.none (by omega) hK1 hrun
              obtain rfl : a = 0 := (run_nowhere hrun).1
              have HC := Lib.hid (take_full HP5.out.st (HTT.out _ HB5.out) 7 K (by decide) hK1 hrun)
              have HFR := Lib.hid (free_any HP5.out.st)
              rw [← HFE.out] at HFR
              have ff : ((f : Int) == (f : Int)) = true := by simp
              clear hrun
              go_wp2_with fail
              refine HC.out.mono ?_
              rintro e w6 ⟨rfl, rfl⟩
              go_wp2_with fail
              refine HFR.out.mono ?_
              rintro e w6 ⟨rfl, hb6⟩
              go_wp2
              go_ret
              exact ⟨rfl, HB5.out.on hb6⟩
            | true =>
              obtain rfl : fv = a := HFS.out.some (by omega) hrun
              obtain ⟨ha1, ha2, ha3⟩ := run_first hrun
              have hff := free_fill (own := own) (a := a) (o := 7) (by decide) K ha1 ha2
              rw [← HFE.out] at hff
              have HC := Lib.hid (take_in HP5.out.st (HTT.out _ HB5.out) 7 K a (by decide) hK1 hrun)
              have HZ : Hid (∀ i, i < K * n → a * n + i < W.length ∧ readV (zeroW W (a * n) (K * n)) (fillO own a 7 K) n (a * n + i) = 0 ∧ chE (fillO own a 7 K) ((a * n + i) / n) = 0) := Lib.hid (fun i hi => zero_at (by decide) hn1 HWL.out ha1 hi)
              have HZL : Hid ((zeroW W (a * n) (K * n)).length = W.length) := Lib.hid (zeroW_length _ _ _ (by rw [HWL.out, ← Nat.add_mul]; exact Nat.mul_le_mul_right _ ha1))
              have aa : ((a : Int) != (a : Int)) = false := by simp
              have an : ¬ (a : Int) < 0 := by omega
              have HFF := Lib.hid hff
              have HHALF : Hid (∀ Y, Mod (Four3 Wb Ob p q) w5 Y → RefSt Y G Wg Og W n own) := Lib.hid (fun Y hY => HP5.out.half hY)
              clear hrun ha2 ha3 hff
              go_wp2_with fail
              refine HC.out.mono ?_
              rintro e w6 ⟨rfl, hS6, hM6⟩
              have HB6 := Lib.hid (Mod.below HB5.out hM6 (fun k e => HF.out k (.inl (.inr e))) HB5.out.size)
              have HT6 := Lib.hid hS6
              have HG6 := Lib.hid (HHALF.out _ hM6)
              have HFR : Hid (Calls Tryd.prog 20 #[.pointer (some ⟨B, 0, none⟩)] w6 fun e w' => e = .returned (.int .i64 ((f : Int) - (K : Int))) ∧ Below w6.heap.size w6 w') := Lib.hid (by
                have h9 := free_any hS6
                rw [show ((freeN (fillO own a 7 K) : Nat) : Int) = (f : Int) - (K : Int) by have := HFF.out; omega] at h9
                exact h9)
              have fk : (((f : Int) - (K : Int)) != ((f : Int) - (K : Int))) = false := by simp
              have fw : wrap64 ((f : Int) - (K : Int)) = (f : Int) - (K : Int) := by simp only [wrap64]; omega
              clear hS6 hM6 HC
              go_wp2_with fail
              refine HFR.out.mono ?_
              rintro e w7 ⟨rfl, hb7⟩
              have HT7 := Lib.hid (HT6.out.on hb7)
              have HB7 := Lib.hid (HB6.out.on hb7)
              have HG7 := Lib.hid (HG6.out.on hb7)
              have k1 := HG7.out.c1
              obtain ⟨kn, hkn⟩ : ∃ kn, kn = K * n := ⟨_, rfl⟩
              have HKN := Lib.hid hkn
              have hknb : kn ≤ 72 := by rw [hkn]; exact Nat.le_trans (Nat.mul_le_mul hK2 hn2) (by decide)
              have e4 : (K : Int) * (n : Int) = (kn : Int) := by rw [hkn]; simp
              rw [← hkn] at HZ HZL
              clear hb7 HFR HT6 HB6 HG6 aa fk hkn
              go_wp2
              go_loopw [127] (fun v127 wr => ∃ i : Nat, i ≤ kn ∧ v127 = .int .i64 i ∧ Hid (Below w7.heap.size w7 wr)) (fun v127 _ => kn - (intOf v127).toNat)
              case atStart => exact ⟨0, by omega, rfl, Lib.hid (Below.refl _ _)⟩
              case round =>
                obtain ⟨i, hi, rfl, HBi⟩ := hrel
                clear k1
                have k1 := (HG7.out.on HBi.out).c1
                by_cases hlt4 : i < kn
                · obtain ⟨z1, z2, z3⟩ := HZ.out i hlt4
                  have hRD := read_in (HT7.out.on HBi.out) (a * n + i) (by rw [← HKN.out, HZL.out]; exact z1)
                  rw [← HKN.out, z2, z3] at hRD
                  obtain ⟨x, hx⟩ : ∃ x, x = a * n := ⟨_, rfl⟩
                  rw [← hx] at hRD z1
                  have HRD := Lib.hid hRD
                  have e1 : IntKind.i64.wrap ((a : Int) * (n : Int)) = (x : Int) := by
                    rw [show ((a : Int) * (n : Int)) = (x : Int) by rw [hx]; simp, IntKind.wrap_i64]; omega
                  have e2 : IntKind.i64.wrap ((x : Int) + (i : Int)) = ((x + i : Nat) : Int) := by rw [IntKind.wrap_i64]; omega
                  have e3 : (a : Int) * (n : Int) = (x : Int) := by rw [hx]; simp
                  clear z2 z3 hRD hx
                  go_wp2_with fail
                  refine HRD.out.mono ?_
                  rintro e w8 ⟨rfl, rfl⟩
                  go_wp2
                  go_roundw
                  case rel => exact ⟨i + 1, by omega, by go_num, HBi⟩
                  case measure => simp [intOf]; omega
                · obtain rfl : i = kn := by omega
                  go_wp2
                  go_ret
                  exact ⟨rfl, HB7.out.on HBi.out⟩
end Go.Proofs.YtkaflgbipjppmaaDoor
