/- StoreGives: a walk. -/
import Derived.Test.YtkaflgbipjppmaaDoorPl
import Derived.Deep.RegionHeld3
namespace Go.Proofs.YtkaflgbipjppmaaDoor
open Go.RowKit
set_option linter.unusedVariables false
set_option linter.unusedSimpArgs false
variable {w w' : World} {B Wb Ob p q G Wg Og size : Nat} {W W' own own' : List Int} {c : Nat}
set_option maxRecDepth 100000 in
set_option maxHeartbeats 4000000 in
theorem gives3_walk (zc zw : Int) (A : Option Addr) (l : List Act3) (cp : Nat) (a0 a1 : Int) (hz1 : i64B zc) (hz2 : i64B zw) (hl : l.length ≤ cp) (hm : l.length ≤ maxLen) (hS : SliceOf w A 5 act3Enc act30 l) (hg : ∀ x ∈ l, good3 x) (hT : Tab w) :
    Calls Tryd.prog 8 #[.agg #[.int .i64 zc, .int .i64 zw], .slice A l.length cp, .agg #[.int .i64 a0, .int .i64 a1]] w fun e w' => e = .returned (.bool true) ∧ Below w.heap.size w w' := by
  obtain ⟨c, hc, hc1, hc2⟩ := size_n zc hz1
  obtain ⟨n, hn, hn1, hn2⟩ := size_n zw hz2
  have hb0 := (below1 w (.cells #[.int .i64 zc, .int .i64 zw] 36)).on (below1 _ (.cells #[.int .i64 a0, .int .i64 a1] 57))
  have HG : Hid (∀ Y, Below ((w.alloc (.cells #[.int .i64 zc, .int .i64 zw] 36)).alloc (.cells #[.int .i64 a0, .int .i64 a1] 57)).heap.size ((w.alloc (.cells #[.int .i64 zc, .int .i64 zw] 36)).alloc (.cells #[.int .i64 a0, .int .i64 a1] 57)) Y → Calls Tryd.prog 21 #[.agg #[.int .i64 zc, .int .i64 zw], .slice A l.length cp] Y (GrownPost3 c n l.length Y)) := Lib.hid (fun Y hY => grown3_any (w := Y) zc zw c n hc hc1 hc2 hn hn1 hn2 A l cp hl hm ((hS.on hb0).on hY) hg ((hT.on hb0).on hY))
  have HB0 := Lib.hid hb0
  have hz0 : ((w.alloc (.cells #[.int .i64 zc, .int .i64 zw] 36)).alloc (.cells #[.int .i64 a0, .int .i64 a1] 57)).heap.size = w.heap.size + 2 := by simp
  have hbx2 := heap_alloc_new (w.alloc (.cells #[.int .i64 zc, .int .i64 zw] 36)) (.cells #[.int .i64 a0, .int .i64 a1] 57)
  rw [World.size_alloc] at hbx2
  have HBX2 := Lib.hid hbx2
  have hlT := lt_of_cell (hT 0 (by decide))
  have HTT : Hid (∀ Y, Below w.heap.size w Y → Tab Y) := Lib.hid (fun Y hY j hj => (hY.cell (p := ⟨0, j, none⟩) hlT).trans (hT j hj))
  have HAL : Hid (∀ Y, Below w.heap.size w Y → Calls Tryd.prog 22 #[] Y fun e w' => e = .returned (.bool true) ∧ Below Y.heap.size Y w') := Lib.hid (fun Y hY => alive3_any (HTT.out Y hY))
  unfold maxLen at hm
  clear hb0 hc hn hS hg hT hz1 hz2 hbx2
  go_enter Tryd.func8, Tryd.ntmps8
  go_wp2_with fail
  have k0 := (blk_cells HBX2.out 0).trans rfl
  have k1 := (blk_cells HBX2.out 1).trans rfl
  go_quiet (fail)
  have hBQ := below_drewN (Below.refl ((w.alloc (.cells #[.int .i64 zc, .int .i64 zw] 36)).alloc (.cells #[.int .i64 a0, .int .i64 a1] 57)).heap.size ((w.alloc (.cells #[.int .i64 zc, .int .i64 zw] 36)).alloc (.cells #[.int .i64 a0, .int .i64 a1] 57))) nq
  have HBQ := Lib.hid (HB0.out.on hBQ)
  have HBZ := Lib.hid ((hBQ.block _ (block_lt HBX2.out)).trans HBX2.out)
  clear k0 k1
  go_wp2_with fail
  refine (HG.out _ hBQ).mono ?_
  rintro e w1 (⟨hlen, B, Wb, Ob, p, q, G, Wg, Og, W, own, rfl, hP, ⟨hown, hBN⟩, hb1, hF⟩ | ⟨hlen, rfl, hb1⟩)
  case inr =>
    have hl' : decide ((80 : Int) < (l.length : Int)) = true := decide_eq_true (by omega)
    have hB1 := HBQ.out.on hb1
    clear hb1 HG
    go_wp2_with fail
    refine (HAL.out _ hB1).mono ?_
    rintro e w2 ⟨rfl, hb2⟩
    have hB2 := hB1.on hb2
    clear hb2
    go_wp2_with fail
    refine (HAL.out _ hB2).mono ?_
    rintro e w3 ⟨rfl, hb3⟩
    go_wp2
    go_ret
    exact ⟨rfl, hB2.on hb3⟩
  case inl =>
    subst hown
    have HBN := Lib.hid hBN
    clear hBN
    have HB1 := Lib.hid (HBQ.out.on hb1)
    have HF : Hid (Fresh8 w.heap.size B Wb Ob p q G Wg Og) := Lib.hid (fun k e => by have h9 := hF k e; have h8 := HBQ.out.size; omega)
    have HP1 := Lib.hid hP
    have hol := hP.rf.o2
    have ho1 := hP.rf.o1
    have hwl := hP.rf.wlen
    have HWL := Lib.hid hP.rf.hW
    have HBY1 := Lib.hid ((hb1.block _ (block_lt HBZ.out)).trans HBZ.out)
    clear hP hb1 hF HG
    go_wp2_with fail
    refine (HAL.out _ HB1.out).mono ?_
    rintro e w2 ⟨rfl, hb2⟩
    have HP2 := Lib.hid (HP1.out.on hb2)
    have HB2 := Lib.hid (HB1.out.on hb2)
    have HBY2 := Lib.hid ((hb2.block _ (block_lt HBY1.out)).trans HBY1.out)
    clear hb2 HP1 HB1 HBY1
    have k1 := HP2.out.rf.c1
    have k2 := HP2.out.rf.c2
    obtain ⟨o, ho, ho1', ho2'⟩ := owner_n a1
    obtain ⟨R, hR, hRN⟩ := rem_nat a0 own.length ho1
    obtain ⟨i0, hi, hz0', hz1', hz2'⟩ := info_parts info64
    have HI := Lib.hid hi
    have HZ0 := Lib.hid hz0'
    have HZ1 := Lib.hid hz1'
    have HZ2 := Lib.hid hz2'
    have hmax : (if (0 : Int) < a1 then a1 else 0) = max 0 a1 := by omega
    have htm : (max 0 a1).tmod 1000 = max 0 a1 % 1000 := Int.tmod_eq_emod_of_nonneg (by omega)
    have hnz : ¬ (own.length : Int) = 0 := by omega
    have HOW := Lib.hid ho
    obtain ⟨f, hf⟩ : ∃ f, f = freeN own := ⟨_, rfl⟩
    have HFE := Lib.hid hf
    obtain ⟨y, hy⟩ : ∃ y, y = own.getD R 0 := ⟨_, rfl⟩
    have HY := Lib.hid hy
    have HOC : Hid (∀ Y, Below w2.heap.size w2 Y → Calls Tryd.prog 25 #[.pointer (some ⟨B, 0, none⟩), .int .i64 R] Y fun e w' => e = .returned (.int .i64 y) ∧ Y = w') := Lib.hid (fun Y hY => by rw [hy]; exact owner_in (HP2.out.on hY).st R hRN)
    have HFC : Hid (∀ Y, Below w2.heap.size w2 Y → Calls Tryd.prog 20 #[.pointer (some ⟨B, 0, none⟩)] Y fun e w' => e = .returned (.int .i64 (f : Nat)) ∧ Below Y.heap.size Y w') := Lib.hid (fun Y hY => by rw [hf]; exact free_any (HP2.out.on hY).st)
    clear hi hz0' hz1' hz2' ho hf hy
    go_wp2_with fail
    refine (HOC.out _ (Below.refl _ _)).mono ?_
    rintro e w3 ⟨rfl, rfl⟩
    rw [← HOW.out]
    clear hmax htm hnz hR
    go_wp2_with fail
    refine (HFC.out _ (Below.refl _ _)).mono ?_
    rintro e w3 ⟨rfl, hb3⟩
    have HP3 := Lib.hid (HP2.out.on hb3)
    have HB3 := Lib.hid (HB2.out.on hb3)
    clear hb3 k1 k2 HOC HFC HP2 HB2
    have k1 := HP3.out.rf.c1
    obtain ⟨x, hx⟩ : ∃ x, x = R * n := ⟨_, rfl⟩
    have HX := Lib.hid hx
    have hxl : x + n ≤ W.length := by
      have h9 : (R + 1) * n ≤ W.length := by rw [HWL.out]; exact Nat.mul_le_mul_right _ hRN
      rw [Nat.add_mul, ← hx] at h9; omega
    have e1 : IntKind.i64.wrap ((R : Int) * (n : Int)) = (x : Int) := by
      rw [show ((R : Int) * (n : Int)) = (x : Int) by rw [hx]; simp, IntKind.wrap_i64]; omega
    have e3 : (R : Int) * (n : Int) = (x : Int) := by rw [hx]; simp
    have HDV : Hid (∀ i, i < n → (x + i) / n = R) := Lib.hid (fun i hi => by rw [hx]; exact (word_in hn1 HWL.out hRN hi).2)
    clear hx
    go_wp2
    go_loopw [15, 74] (fun v15 v74 wr => ∃ k : Nat, k ≤ n ∧ v74 = .int .i64 k ∧ Hid (wr.ownsRow w3.heap.size 46 1 v15 k ((rowL (fun i => readV W own n (x + i)) k).map wordV)) ∧ Hid (Below w3.heap.size w3 wr)) (fun _ v74 _ => n - (intOf v74).toNat)
    case atStart => exact ⟨0, by omega, rfl, Lib.hid (World.ownsRow_nil _ _ _ _), Lib.hid (Below.refl _ _)⟩
    case round =>
      obtain ⟨k, hk, rfl, HR, HB⟩ := hrel
      clear k1
      have k1 := (HP3.out.on HB.out).rf.c1
      by_cases hlt : k < n
      · have hRD := read_in (HP3.out.on HB.out).st (x + k) (by omega)
        have e2 : IntKind.i64.wrap ((x : Int) + (k : Int)) = ((x + k : Nat) : Int) := by rw [IntKind.wrap_i64]; omega
        have HSU := Lib.hid (rowL_succ (fun i => readV W own n (x + i)) k)
        generalize hv : readV W own n (x + k) = v at *
        generalize chE own ((x + k) / n) = ce at *
        have HV := Lib.hid hv
        have HRD := Lib.hid hRD
        have hsz := HB.out.size
        have hs9 : w3.heap.size ≤ (wr.alloc (.cells #[.int .u64 v] 46)).heap.size := by rw [World.size_alloc]; omega
        have HML := Lib.hid (show k + 1 ≤ maxLen by unfold maxLen; omega)
        have HL9 := Lib.hid (show (k + 1) * 8 ≤ 140737488355328 by omega)
        clear hv hRD
        go_wp2_with fail
        refine HRD.out.mono ?_
        rintro e w4 ⟨rfl, rfl⟩
        go_wp2_with (at_builtin; go_loud (refine wpList_append_own _ rfl _ _ 42 rfl w3.heap.size 46 i0 (.int .u64 0) 1 8 Tryd.underlying42 HI.out HZ0.out HZ1.out HZ2.out rfl (by decide) _ _ _ rfl (own_on HR.out (below1 _ _)) ⟨_, 0, none⟩ 1 1 [.int .u64 v] rfl rfl (World.news_of_block (heap_alloc_new _ (.cells #[.int .u64 v] 46))) (by simp [Value.oneCell']) HML.out HL9.out hs9 ?_; intro v' w5 hown' hgrow _; obtain ⟨g', cap', rfl⟩ := ownsRow_succ hown'))
        go_roundw
        case rel =>
          have hba := HB.out.on (below1 wr (.cells #[.int .u64 v] 46))
          refine ⟨k + 1, by omega, by go_num, Lib.hid ?_, Lib.hid (hba.grown hgrow hba.size (fun z e => (HR.out.lt z e).1))⟩
          rw [HSU.out, List.map_append]
          exact hown'
        case measure => simp [intOf]; omega
      · obtain rfl : k = n := by omega
        obtain ⟨wo, rfl⟩ : ∃ wo : World, wo = wr := ⟨_, rfl⟩
        have hrow := HR.out
        rw [words_of] at hrow
        have hlt9 := hrow.lt
        have hrow2 : wo.ownsRow w3.heap.size 46 1 u15 (rowL (fun i => readV W own k (x + i)) k).length ((rowL (fun i => readV W own k (x + i)) k).flatMap encW) := by rw [rowL_len]; exact hrow
        obtain ⟨A4, c4, e4, hc4, hS4⟩ := own_slice encW 0 (fun _ => rfl) hrow2
        rw [rowL_len] at e4
        subst e4
        have HAB : Hid (∀ b o', A4 = some ⟨b, o', none⟩ → ¬ Four3 Wb Ob p q b) := Lib.hid (fun b o' e h => by
          have h1 := (hlt9 b (by rw [e]; rfl)).1
          have h2 := HP3.out.lt b (.inl (.inr h))
          omega)
        have HS4 := Lib.hid hS4
        have HP4 := Lib.hid (HP3.out.on HB.out)
        have HB4 := Lib.hid (HB3.out.on HB.out)
        clear hrow hrow2 hS4 HR HB hc4 hlt9
        by_cases hy0 : y = 0
        · have HC1 := Lib.hid (give_free HP4.out.st R (o : Int) (by omega) hRN (by rw [← HY.out]; exact hy0))
          have HC2 := Lib.hid (owner_in HP4.out.st R hRN)
          rw [← HY.out, hy0] at HC2
          have y1 : (y == 0) = true := by simp [hy0]
          clear hy0
          go_wp2_with fail
          refine HC1.out.mono ?_
          rintro e w5 ⟨rfl, rfl⟩
          go_wp2_with fail
          refine HC2.out.mono ?_
          rintro e w5 ⟨rfl, rfl⟩
          go_wp2
          go_ret
          exact ⟨rfl, HB4.out⟩
        · have y1 : (y == 0) = false := by simpa using hy0
          have HC1 := Lib.hid (give_in HP4.out.st R (o : Int) (by omega) hRN (by rw [← HY.out]; exact hy0))
          have HOG : Hid (∀ j, (own.set R (o : Int)).getD j 0 = if j = R then (o : Int) else own.getD j 0) := Lib.hid (fun j => set_getD R j (o : Int) hRN)
          have HFG := Lib.hid (free_reset (x := (o : Int)) hRN (by rw [← HY.out]; exact hy0) (by omega))
          rw [← HFE.out] at HFG
          have HY0 := Lib.hid hy0
          clear hy0
          go_wp2_with fail
          refine HC1.out.mono ?_
          rintro e w5 ⟨rfl, hS5, hM5⟩
          have HT5 := Lib.hid hS5
          have HB5 := Lib.hid (Mod.below HB4.out hM5 (fun k e => HF.out k (.inl (.inr e))) HB4.out.size)
          have HS5 := Lib.hid (slice_mod HS4.out hM5 (fun b o' e _ => HAB.out b o' e))
          have HK5 : Hid (RefSt w5 G Wg Og W k own) := Lib.hid (HP4.out.half hM5)
          have HC2 := Lib.hid (owner_in hS5 R (by simpa using hRN))
          rw [HOG.out, if_pos rfl] at HC2
          have oo : ((o : Int) != (o : Int)) = false := by simp
          have ff : ((f : Int) != (f : Int)) = false := by simp
          clear hS5 hM5 HC1 HS4
          go_wp2_with fail
          refine HC2.out.mono ?_
          rintro e w6 ⟨rfl, rfl⟩
          have HC3 := Lib.hid (free_any HT5.out)
          rw [HFG.out] at HC3
          go_wp2_with fail
          refine HC3.out.mono ?_
          rintro e w6 ⟨rfl, hb6⟩
          have HT6 := Lib.hid (HT5.out.on hb6)
          have HB6 := Lib.hid (HB5.out.on hb6)
          have HS6 := Lib.hid (HS5.out.on hb6)
          have HK6 := Lib.hid (HK5.out.on hb6)
          clear hb6 HC2 HC3 HT5 HB5 HS5 HK5 y1 oo ff
          go_wp2
          go_loopw [126] (fun v126 wr => ∃ i : Nat, i ≤ k ∧ v126 = .int .i64 i ∧ Hid (Below w6.heap.size w6 wr)) (fun v126 _ => k - (intOf v126).toNat)
          case atStart => exact ⟨0, by omega, rfl, Lib.hid (Below.refl _ _)⟩
          case round =>
            obtain ⟨i, hi, rfl, HBi⟩ := hrel
            clear k1
            have k1 := (HK6.out.on HBi.out).c1
            by_cases hlt2 : i < k
            · have hdv := HDV.out i hlt2
              have hRD := read_in (HT6.out.on HBi.out) (x + i) (by omega)
              have g1 : readV W (own.set R (o : Int)) k (x + i) = readV W own k (x + i) := by
                unfold readV
                rw [hdv, HOG.out, if_pos rfl, if_neg (by omega), if_neg (by rw [← HY.out]; exact HY0.out)]
              have g2 : chE (own.set R (o : Int)) ((x + i) / k) = 0 := by
                unfold chE
                rw [hdv, HOG.out, if_pos rfl, if_neg (by omega)]
              rw [g1, g2] at hRD
              obtain ⟨b5, o5, rfl, hx0⟩ := (HS6.out.on HBi.out) i (by rw [rowL_len]; exact hlt2)
              have hx := hx0 0 _ rfl
              rw [rowL_get hlt2, Nat.add_zero, Nat.mul_one] at hx
              have e2 : IntKind.i64.wrap ((x : Int) + (i : Int)) = ((x + i : Nat) : Int) := by rw [IntKind.wrap_i64]; omega
              generalize readV W own k (x + i) = v at *
              have vv : (v != v) = false := by simp
              have HRD := Lib.hid hRD
              clear hdv g1 g2 hRD hx0
              go_wp2_with fail
              refine HRD.out.mono ?_
              rintro e w7 ⟨rfl, rfl⟩
              go_wp2
              go_roundw
              case rel => exact ⟨i + 1, by omega, by go_num, HBi⟩
              case measure => simp [intOf]; omega
            · obtain rfl : i = k := by omega
              obtain ⟨wp, rfl⟩ : ∃ wp : World, wp = wr := ⟨_, rfl⟩
              have HT7 := Lib.hid (HT6.out.on HBi.out)
              have HB7 := Lib.hid (HB6.out.on HBi.out)
              have HC4 := Lib.hid (owned_any HT7.out (HTT.out _ HB7.out) (o : Int))
              have HM1 : Hid (R ∈ ownedL (own.set R (o : Int)) (o : Int)) := Lib.hid (mem_owned.2 ⟨by simpa using hRN, by rw [HOG.out, if_pos rfl]; omega, by rw [HOG.out, if_pos rfl]⟩)
              have hl1 := owned_le (own.set R (o : Int)) (o : Int)
              rw [List.length_set] at hl1
              generalize ownedL (own.set R (o : Int)) (o : Int) = L at *
              clear HT6 HB6 HS6 HBi k1
              go_wp2_with fail
              refine HC4.out.mono ?_
              rintro e w8 ⟨v8, rfl, hI8, hb8⟩
              obtain ⟨A8, c8, rfl, -, -, hs8⟩ := hI8
              have HS8 := Lib.hid hs8
              have HT8 := Lib.hid (HT7.out.on hb8)
              have HB8 := Lib.hid (HB7.out.on hb8)
              clear hs8 hb8 HC4 HT7 HB7
              go_wp2
              go_loopw [24, 156] (fun v24 v156 wr => ∃ j : Nat, j ≤ L.length ∧ v156 = .int .i64 j ∧ v24 = .bool (decide (R ∈ L.take j)) ∧ wr = w8) (fun _ v156 _ => L.length - (intOf v156).toNat)
              case atStart => exact ⟨0, by omega, rfl, by simp, rfl⟩
              case round =>
                obtain ⟨j, hj, rfl, rfl, rfl⟩ := hrel
                by_cases hlt3 : j < L.length
                · obtain ⟨b9, o9, rfl, hx9⟩ := ints_at HS8.out j hlt3
                  have HMS := Lib.hid (mem_take_succ (L := L) (R := R) hlt3)
                  generalize L.getD j 0 = z at *
                  by_cases hin : R ∈ L.take j
                  · have hd := decide_eq_true hin
                    rw [hd]
                    have HD : Hid (decide (R ∈ L.take (j + 1)) = true) := Lib.hid (decide_eq_true (HMS.out.2 (.inl hin)))
                    clear hin hd
                    go_wp2
                    go_roundw
                    case rel => exact ⟨j + 1, by omega, by go_num, by rw [HD.out], trivial⟩
                    case measure => simp [intOf]; omega
                  · have hd := decide_eq_false hin
                    rw [hd]
                    by_cases hzR : z = R
                    · have HD : Hid (decide (R ∈ L.take (j + 1)) = true) := Lib.hid (decide_eq_true (HMS.out.2 (.inr hzR)))
                      have zz : ((z : Int) == (R : Int)) = true := by simp [hzR]
                      clear hin hd hzR
                      go_wp2
                      go_roundw
                      case rel => exact ⟨j + 1, by omega, by go_num, by rw [HD.out], trivial⟩
                      case measure => simp [intOf]; omega
                    · have HD : Hid (decide (R ∈ L.take (j + 1)) = false) := Lib.hid (decide_eq_false (fun e => (HMS.out.1 e).elim hin hzR))
                      have zz : ((z : Int) == (R : Int)) = false := by simp; omega
                      clear hin hd hzR
                      go_wp2
                      go_roundw
                      case rel => exact ⟨j + 1, by omega, by go_num, by rw [HD.out], trivial⟩
                      case measure => simp [intOf]; omega
                · obtain rfl : j = L.length := by omega
                  rw [List.take_length, decide_eq_true HM1.out]
                  have HC5 := Lib.hid (owned_any HT8.out (HTT.out _ HB8.out) y)
                  have HM2 : Hid (∀ z, z ∈ ownedL (own.set R (o : Int)) y → z = R → y = (o : Int)) := Lib.hid (fun z hz e => by
                    have h9 := (mem_owned.1 hz).2.2
                    rw [e, HOG.out, if_pos rfl] at h9
                    exact h9.symm)
                  have hl2 := owned_le (own.set R (o : Int)) y
                  rw [List.length_set] at hl2
                  generalize ownedL (own.set R (o : Int)) y = L2 at *
                  go_wp2_with fail
                  refine HC5.out.mono ?_
                  rintro e w9 ⟨v9, rfl, hI9, hb9⟩
                  obtain ⟨A9, c9, rfl, -, -, hs9⟩ := hI9
                  have HS9 := Lib.hid hs9
                  have HB9 := Lib.hid (HB8.out.on hb9)
                  clear hs9 hb9 HC5 HT8 HB8 HS8
                  go_wp2
                  go_loopw [171] (fun v171 wr => ∃ j : Nat, j ≤ L2.length ∧ v171 = .int .i64 j ∧ wr = w9) (fun v171 _ => L2.length - (intOf v171).toNat)
                  case atStart => exact ⟨0, by omega, rfl, rfl⟩
                  case round =>
                    obtain ⟨j, hj, rfl, rfl⟩ := hrel
                    by_cases hlt4 : j < L2.length
                    · obtain ⟨b9, o9, rfl, hx9⟩ := ints_at HS9.out j hlt4
                      have hmem : L2.getD j 0 ∈ L2 := by
                        have : L2.getD j 0 = L2[j] := by simp [List.getD, hlt4]
                        rw [this]; exact List.getElem_mem hlt4
                      have hzy := HM2.out _ hmem
                      generalize L2.getD j 0 = z at *
                      clear hmem
                      by_cases hzR : z = R
                      · have zz : ((z : Int) == (R : Int)) = true := by simp [hzR]
                        have yo : (y != (o : Int)) = false := by rw [hzy hzR]; simp
                        clear hzR hzy
                        go_wp2
                        go_roundw
                        case rel => exact ⟨j + 1, by omega, by go_num, trivial⟩
                        case measure => simp [intOf]; omega
                      · have zz : ((z : Int) == (R : Int)) = false := by simp; omega
                        clear hzR hzy
                        go_wp2
                        go_roundw
                        case rel => exact ⟨j + 1, by omega, by go_num, trivial⟩
                        case measure => simp [intOf]; omega
                    · obtain rfl : j = L2.length := by omega
                      go_wp2
                      go_ret
                      exact ⟨rfl, HB9.out⟩
end Go.Proofs.YtkaflgbipjppmaaDoor
