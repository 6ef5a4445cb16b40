/- StoreTakes: a walk. -/
import Derived.Test.YtkaflgbipjppmaaDoorPl
import Derived.Deep.RegionHeld3
namespace Go.Proofs.YtkaflgbipjppmaaDoor
open Go.RowKit
set_option linter.unusedVariables false
set_option linter.unusedSimpArgs false
variable {w w' : World} {B Wb Ob p q G Wg Og size : Nat} {W W' own own' : List Int} {c : Nat}
set_option maxRecDepth 100000 in
set_option maxHeartbeats 4000000 in
theorem takes3_walk (zc zw : Int) (A : Option Addr) (l : List Act3) (cp : Nat) (ow : Int) (hw0 : i64B ow) (hz1 : i64B zc) (hz2 : i64B zw) (hl : l.length ≤ cp) (hm : l.length ≤ maxLen) (hS : SliceOf w A 5 act3Enc act30 l) (hg : ∀ x ∈ l, good3 x) (hT : Tab w) :
    Calls Tryd.prog 6 #[.agg #[.int .i64 zc, .int .i64 zw], .slice A l.length cp, .int .i64 ow] w fun e w' => e = .returned (.bool true) ∧ Below w.heap.size w w' := by
  obtain ⟨c, hc, hc1, hc2⟩ := size_n zc hz1
  obtain ⟨n, hn, hn1, hn2⟩ := size_n zw hz2
  have hb0 := below1 w (.cells #[.int .i64 zc, .int .i64 zw] 36)
  have HG : Hid (∀ Y, Below (w.alloc (.cells #[.int .i64 zc, .int .i64 zw] 36)).heap.size (w.alloc (.cells #[.int .i64 zc, .int .i64 zw] 36)) Y → Calls Tryd.prog 21 #[.agg #[.int .i64 zc, .int .i64 zw], .slice A l.length cp] Y (GrownPost3 c n l.length Y)) := Lib.hid (fun Y hY => grown3_any (w := Y) zc zw c n hc hc1 hc2 hn hn1 hn2 A l cp hl hm ((hS.on hb0).on hY) hg ((hT.on hb0).on hY))
  have HB0 := Lib.hid hb0
  have hz0 : (w.alloc (.cells #[.int .i64 zc, .int .i64 zw] 36)).heap.size = w.heap.size + 1 := by simp
  have hlT := lt_of_cell (hT 0 (by decide))
  have HTT : Hid (∀ Y, Below w.heap.size w Y → Tab Y) := Lib.hid (fun Y hY j hj => (hY.cell (p := ⟨0, j, none⟩) hlT).trans (hT j hj))
  have HAL : Hid (∀ Y, Below w.heap.size w Y → Calls Tryd.prog 22 #[] Y fun e w' => e = .returned (.bool true) ∧ Below Y.heap.size Y w') := Lib.hid (fun Y hY => alive3_any (HTT.out Y hY))
  unfold maxLen at hm
  clear hb0 hc hn hS hg hT hz1 hz2
  go_enter Tryd.func6, Tryd.ntmps6
  go_wp2_with fail
  have HBQ := Lib.hid HB0.out
  refine (HG.out _ (Below.refl _ _)).mono ?_
  rintro e w1 (⟨hlen, B, Wb, Ob, p, q, G, Wg, Og, W, own, rfl, hP, ⟨hown, hBN⟩, hb1, hF⟩ | ⟨hlen, rfl, hb1⟩)
  case inr =>
    have hl' : decide ((80 : Int) < (l.length : Int)) = true := decide_eq_true (by omega)
    have hB1 := HBQ.out.on hb1
    clear hb1 HG
    go_wp2_with fail
    refine (HAL.out _ hB1).mono ?_
    rintro e w2 ⟨rfl, hb2⟩
    have hB2 := hB1.on hb2
    clear hb2
    go_wp2_with fail
    refine (HAL.out _ hB2).mono ?_
    rintro e w3 ⟨rfl, hb3⟩
    go_wp2
    go_ret
    exact ⟨rfl, hB2.on hb3⟩
  case inl =>
    subst hown
    have HBN := Lib.hid hBN
    clear hBN
    have HB1 := Lib.hid (HBQ.out.on hb1)
    have HF : Hid (Fresh8 w.heap.size B Wb Ob p q G Wg Og) := Lib.hid (fun k e => by have h9 := hF k e; have h8 := HBQ.out.size; omega)
    have HP1 := Lib.hid hP
    have hol := hP.rf.o2
    have ho1 := hP.rf.o1
    have hwl := hP.rf.wlen
    have HWL := Lib.hid hP.rf.hW

    clear hP hb1 hF HG
    go_wp2_with fail
    refine (HAL.out _ HB1.out).mono ?_
    rintro e w2 ⟨rfl, hb2⟩
    have HP2 := Lib.hid (HP1.out.on hb2)
    have HB2 := Lib.hid (HB1.out.on hb2)

    clear hb2 HP1 HB1
    go_wp2_with fail
    have k1 := HP2.out.rf.c1
    have k2 := HP2.out.rf.c2
    obtain ⟨o, ho⟩ : ∃ o : Nat, (o : Int) = 1 + max 0 ow % 1000 := ⟨(1 + max 0 ow % 1000).toNat, by have := Int.emod_nonneg (max 0 ow) (show (1000 : Int) ≠ 0 by decide); omega⟩
    have ho1' : 1 ≤ o := by have := Int.emod_nonneg (max 0 ow) (show (1000 : Int) ≠ 0 by decide); omega
    have HOW := Lib.hid ho
    obtain ⟨i0, hi, hz0', hz1', hz2'⟩ := info_parts infoInt
    have HI := Lib.hid hi
    have HZ0 := Lib.hid hz0'
    have HZ1 := Lib.hid hz1'
    have HZ2 := Lib.hid hz2'
    clear hi hz0' hz1' hz2' ho
    go_quiet (fail)
    have HP3 := Lib.hid (HP2.out.on (below_drewN (Below.refl _ _) nq))
    have HB3 := Lib.hid (below_drewN HB2.out nq)
    generalize w2.drewN nq = w3 at *
    clear HP2 HB2 k1 k2
    go_wp2
    go_loopw [11, 48] (fun v11 v48 wr => ∃ k : Nat, k ≤ own.length ∧ v48 = .int .i64 k ∧ Hid (wr.ownsRow w3.heap.size 3 1 v11 (own.take k).length ((own.take k).map ownV)) ∧ Hid (Below w3.heap.size w3 wr)) (fun _ v48 _ => own.length - (intOf v48).toNat)
    case atStart => exact ⟨0, by omega, rfl, Lib.hid (World.ownsRow_nil _ _ _ _), Lib.hid (Below.refl _ _)⟩
    case round =>
      obtain ⟨k, hk, rfl, HR, HB⟩ := hrel
      by_cases hlt : k < own.length
      · have HO := Lib.hid (owner_in (HP3.out.on HB.out).st k hlt)
        have HTK := Lib.hid (show own.take (k + 1) = own.take k ++ [own.getD k 0] by rw [List.take_add_one]; simp [List.getD, hlt])
        have hle : (own.take k).length = k := by simp; omega
        generalize own.getD k 0 = y at *
        have hml : (own.take k).length + 1 ≤ maxLen := by unfold maxLen; omega
        have hl9 : ((own.take k).length + 1) * 8 ≤ 140737488355328 := by omega
        have hsz := HB.out.size
        have hs9 : w3.heap.size ≤ (wr.alloc (.cells #[.int .i64 y] 3)).heap.size := by rw [World.size_alloc]; omega
        have HML := Lib.hid hml
        have HL9 := Lib.hid hl9
        clear hle hml hl9
        go_wp2_with fail
        refine HO.out.mono ?_
        rintro e w4 ⟨rfl, rfl⟩
        go_wp2_with (at_builtin; go_loud (refine wpList_append_own _ rfl _ _ 22 rfl w3.heap.size 3 i0 (.int .i64 0) 1 8 Tryd.underlying22 HI.out HZ0.out HZ1.out HZ2.out rfl (by decide) _ _ _ rfl (own_on HR.out (below1 _ _)) ⟨_, 0, none⟩ 1 1 [.int .i64 y] rfl rfl (World.news_of_block (heap_alloc_new _ (.cells #[.int .i64 y] 3))) (by simp [Value.oneCell']) HML.out HL9.out hs9 ?_; intro v' w5 hown' hgrow _; obtain ⟨g', cap', rfl⟩ := ownsRow_succ hown'))
        go_roundw
        case rel =>
          have hba := HB.out.on (below1 wr (.cells #[.int .i64 y] 3))
          refine ⟨k + 1, by omega, by go_num, Lib.hid ?_, Lib.hid (hba.grown hgrow hba.size (fun z e => (HR.out.lt z e).1))⟩
          have hle : (own.take k).length = k := by simp; omega
          rw [HTK.out, List.length_append, List.map_append, hle]
          rw [hle] at hown'
          exact hown'
        case measure => simp [intOf]; omega
      · obtain rfl : k = own.length := by omega
        have hrow := HR.out
        rw [List.take_length, ints_of] at hrow
        have hlt9 := hrow.lt
        obtain ⟨A4, c4, e4, hc4, hS4⟩ := own_slice encO 0 (fun _ => rfl) hrow
        subst e4
        have HAB : Hid (∀ b o', A4 = some ⟨b, o', none⟩ → ¬ Four3 Wb Ob p q b) := Lib.hid (fun b o' e h => by
          have h1 := (hlt9 b (by rw [e]; rfl)).1
          have h2 := HP3.out.lt b (.inl (.inr h))
          omega)
        have HS4 := Lib.hid hS4
        have HP4 := Lib.hid (HP3.out.on HB.out)
        have HB4 := Lib.hid (HB3.out.on HB.out)
        have HFR := Lib.hid (free_any HP4.out.st)
        clear hrow hS4 HR HB hc4 hlt9
        go_wp2_with fail
        refine HFR.out.mono ?_
        rintro e w5 ⟨rfl, hb5⟩
        have HP5 := Lib.hid (HP4.out.on hb5)
        have HB5 := Lib.hid (HB4.out.on hb5)
        have HS5 := Lib.hid (HS4.out.on hb5)
        clear hb5 HFR HS4 HP4 HB4
        have hmax : (if (0 : Int) < ow then ow else 0) = max 0 ow := by omega
        have htm : (max 0 ow).tmod 1000 = max 0 ow % 1000 := Int.tmod_eq_emod_of_nonneg (by omega)
        go_wp2_with fail
        rw [← HOW.out]
        clear hmax htm
        rcases hrun : runAtO own 1 with ⟨a, b⟩
        cases b with
        | false =>
          have hfz : freeN own = 0 := free_none (fun j hj => by
            obtain ⟨i, h1, h2, h3⟩ := (run_nowhere hrun).2 j (by omega)
            rw [show j = i by omega]; exact h3)
          obtain rfl : a = 0 := (run_nowhere hrun).1
          have HC := Lib.hid (take_any (o : Int) _ (take_full HP5.out.st (HTT.out _ HB5.out) (o : Int) 1 (by omega) (by decide) hrun) (fun e w' h => ⟨_, _, h.1⟩))
          rw [hfz]
          clear hrun hfz
          go_wp2_with fail
          refine HC.out.mono ?_
          rintro e w6 ⟨rfl, rfl⟩
          go_wp2
          go_ret
          exact ⟨rfl, HB5.out⟩
        | true =>
          obtain ⟨ha1, ha2, ha3⟩ := run_first hrun
          have ha0 : own.getD a 0 = 0 := ha2 a (Nat.le_refl _) (by omega)
          have HA3 : Hid (∀ j, j < a → own.getD j 0 ≠ 0) := Lib.hid (fun j hj => by
            obtain ⟨i, h1, h2, h3⟩ := ha3 j hj (by omega)
            rw [show j = i by omega]; exact h3)
          have hfp := free_pos (own := own) (i := a) (by omega) ha0
          have hff := free_fill (own := own) (a := a) (o := (o : Int)) (by omega) 1 ha1 ha2
          have HC := Lib.hid (take_any (o : Int) _ (take_in HP5.out.st (HTT.out _ HB5.out) (o : Int) 1 a (by omega) (by decide) hrun) (fun e w' h => ⟨_, _, h.1⟩))
          have HZ : Hid (∀ i, i < n → a * n + i < W.length ∧ readV (zeroW W (a * n) (1 * n)) (fillO own a (o : Int) 1) n (a * n + i) = 0 ∧ chE (fillO own a (o : Int) 1) ((a * n + i) / n) = 0) := Lib.hid (fun i hi => zero_at (by omega) hn1 HWL.out ha1 (by omega))
          have HOT : Hid (∀ j, j < own.length → (fillO own a (o : Int) 1).getD j 0 = if j = a then (o : Int) else own.getD j 0) := Lib.hid (fun j hj => by
            rw [fillO_getD own a (o : Int) j 1 ha1]
            by_cases h : j = a
            · rw [if_pos h, if_pos (by omega)]
            · rw [if_neg h, if_neg (by omega)])
          have HFZ := Lib.hid (show (fillO own a (o : Int) 1).set a 0 = own from ext_getD (by rw [List.length_set, fillO_length]) (fun i hi => by
            rw [List.length_set, fillO_length] at hi
            rw [set_getD _ _ _ (by rw [fillO_length]; omega)]
            by_cases h : i = a
            · rw [if_pos h, h, ha0]
            · rw [if_neg h, HOT.out i hi, if_neg h]))
          have HZL : Hid ((zeroW W (a * n) (1 * n)).length = W.length) := Lib.hid (zeroW_length _ _ _ (by rw [HWL.out, ← Nat.add_mul]; exact Nat.mul_le_mul_right _ ha1))
          have HA0 := Lib.hid ha0
          obtain ⟨f, hf⟩ : ∃ f, f = freeN own := ⟨_, rfl⟩
          have HFE := Lib.hid hf
          have HFF := Lib.hid (show freeN (fillO own a (o : Int) 1) = f - 1 by omega)
          rw [← hf] at hfp ⊢
          have f1 : ((f : Int) == 0) = false := by simp; omega
          have hwf : f ≤ own.length := by rw [hf]; unfold freeN; omega
          clear hrun ha2 ha3 ha0 hff hf
          go_wp2_with fail
          refine HC.out.mono ?_
          rintro e w6 ⟨rfl, hS6, hM6⟩
          have HB6 := Lib.hid (Mod.below HB5.out hM6 (fun k e => HF.out k (.inl (.inr e))) HB5.out.size)
          have HT6 := Lib.hid hS6
          have HS6 : Hid (SliceOf w6 A4 1 encO 0 own) := Lib.hid (slice_mod HS5.out hM6 (fun b o' e _ => HAB.out b o' e))
          clear hS6 hM6 HC HS5
          obtain ⟨b4, o4, rfl, hx0⟩ := HS6.out a (by omega)
          have hx := hx0 0 _ rfl
          rw [HA0.out, Nat.add_zero, Nat.mul_one] at hx
          have hal : ¬ own.length ≤ a := by omega
          have HFR2 : Hid (Calls Tryd.prog 20 #[.pointer (some ⟨B, 0, none⟩)] w6 fun e w' => e = .returned (.int .i64 ((f : Int) - 1)) ∧ Below w6.heap.size w6 w') := Lib.hid (by
            have h9 := free_any HT6.out
            rw [HFF.out, show ((f - 1 : Nat) : Int) = (f : Int) - 1 by omega] at h9
            exact h9)
          have f2 : (((f : Int) - 1) != ((f : Int) - 1)) = false := by simp
          clear hx0
          go_wp2_with fail
          refine HFR2.out.mono ?_
          rintro e w7 ⟨rfl, hb7⟩
          have HT7 := Lib.hid (HT6.out.on hb7)
          have HB7 := Lib.hid (HB6.out.on hb7)
          have HS7 := Lib.hid (HS6.out.on hb7)
          clear hb7 HFR2 hx HT6 HB6 HS6
          go_wp2
          go_loopw [103] (fun v103 wr => ∃ i : Nat, i ≤ n ∧ v103 = .int .i64 i ∧ Hid (Below w7.heap.size w7 wr)) (fun v103 _ => n - (intOf v103).toNat)
          case atStart => exact ⟨0, by omega, rfl, Lib.hid (Below.refl _ _)⟩
          case round =>
            obtain ⟨i, hi, rfl, HBi⟩ := hrel
            by_cases hlt : i < n
            · obtain ⟨z1, z2, z3⟩ := HZ.out i hlt
              have hRD := read_in (HT7.out.on HBi.out) (a * n + i) (by rw [HZL.out]; exact z1)
              rw [z2, z3] at hRD
              obtain ⟨x, hx⟩ : ∃ x, x = a * n := ⟨_, rfl⟩
              rw [← hx] at hRD z1
              have HRD := Lib.hid hRD
              have e1 : IntKind.i64.wrap ((a : Int) * (n : Int)) = (x : Int) := by
                rw [show ((a : Int) * (n : Int)) = (x : Int) by rw [hx]; simp, IntKind.wrap_i64]; omega
              have e2 : IntKind.i64.wrap ((x : Int) + (i : Int)) = ((x + i : Nat) : Int) := by rw [IntKind.wrap_i64]; omega
              have e3 : (a : Int) * (n : Int) = (x : Int) := by rw [hx]; simp
              clear z2 z3 hRD hx
              go_wp2_with fail
              refine HRD.out.mono ?_
              rintro e w8 ⟨rfl, rfl⟩
              go_wp2
              go_roundw
              case rel => exact ⟨i + 1, by omega, by go_num, HBi⟩
              case measure => simp [intOf]; omega
            · obtain rfl : i = n := by omega
              obtain ⟨wo, rfl⟩ : ∃ wo : World, wo = wr := ⟨_, rfl⟩
              have HT8 := Lib.hid (HT7.out.on HBi.out)
              have HB8 := Lib.hid (HB7.out.on HBi.out)
              have HS8 := Lib.hid (HS7.out.on HBi.out)
              clear HT7 HB7 HS7 HBi
              go_wp2
              go_loopw [124] (fun v124 wr => ∃ j : Nat, j ≤ own.length ∧ v124 = .int .i64 j ∧ Hid (Below wo.heap.size wo wr)) (fun v124 _ => own.length - (intOf v124).toNat)
              case atStart => exact ⟨0, by omega, rfl, Lib.hid (Below.refl _ _)⟩
              case round =>
                obtain ⟨j, hj, rfl, HBj⟩ := hrel
                by_cases hlt2 : j < own.length
                · have HOC : Hid (∀ k, Calls Tryd.prog 25 #[.pointer (some ⟨B, 0, none⟩), .int .i64 j] (wr.drewN k) fun e w' => e = .returned (.int .i64 (if j = a then (o : Int) else own.getD j 0)) ∧ w' = wr.drewN k) := Lib.hid (fun k => by
                    have h9 := owner_in (HT8.out.on (HBj.out.on (below_drewN (Below.refl _ _) k))) j (by rw [fillO_length]; exact hlt2)
                    rw [HOT.out j hlt2] at h9
                    exact h9.mono fun e w' ⟨h1, h2⟩ => ⟨h1, h2.symm⟩)
                  obtain ⟨b5, o5, h5, hx0⟩ := (HS8.out.on HBj.out) j hlt2
                  cases h5
                  have hx := hx0 0 _ rfl
                  rw [Nat.add_zero, Nat.mul_one] at hx
                  by_cases hja : j < a
                  · have hnz := HA3.out j hja
                    have hja2 : ¬ j = a := by omega
                    rw [if_neg hja2] at HOC
                    have c1 : ((j : Int) != (a : Int)) = true := by simp; omega
                    generalize own.getD j 0 = y at *
                    have hyb : (y == 0) = false := by simpa using hnz
                    have hyy : (y != y) = false := by simp
                    clear hx0 hnz
                    go_wp2_with fail
                    go_quiet ((go_at_call 25; exact Calls.quiet_of_same (HOC.out _)))
                    go_wp2
                    go_roundw
                    case rel => exact ⟨j + 1, by omega, by go_num, Lib.hid (below_drewN HBj.out _)⟩
                    case measure => simp [intOf]; omega
                  · by_cases hja2 : j = a
                    · subst hja2
                      have hjd : decide ((j : Int) < (j : Int)) = false := by simp
                      have hjn : ((j : Int) != (j : Int)) = false := by simp
                      generalize own.getD j 0 = y at *
                      clear hx0 HOC
                      go_wp2_with fail
                      go_quiet (fail)
                      go_wp2
                      go_roundw
                      case rel => exact ⟨j + 1, by omega, by go_num, Lib.hid (below_drewN HBj.out _)⟩
                      case measure => simp [intOf]; omega
                    · rw [if_neg hja2] at HOC
                      have c1 : ((j : Int) != (a : Int)) = true := by simp; omega
                      have c2 : decide ((j : Int) < (a : Int)) = false := decide_eq_false (by omega)
                      have c3 : decide (j < a) = false := decide_eq_false (by omega)
                      generalize own.getD j 0 = y at *
                      have hyy : (y != y) = false := by simp
                      clear hx0
                      go_wp2_with fail
                      go_quiet ((go_at_call 25; exact Calls.quiet_of_same (HOC.out _)))
                      go_wp2
                      go_roundw
                      case rel => exact ⟨j + 1, by omega, by go_num, Lib.hid (below_drewN HBj.out _)⟩
                      case measure => simp [intOf]; omega
                · obtain rfl : j = own.length := by omega
                  have HT9 := Lib.hid (HT8.out.on HBj.out)
                  have HB9 := Lib.hid (HB8.out.on HBj.out)
                  have hfa : (fillO own a (o : Int) 1).getD a 0 ≠ 0 := by rw [HOT.out a (by omega), if_pos rfl]; omega
                  have HC1 := Lib.hid (release_in HT9.out a (by rw [fillO_length]; omega) hfa)
                  rw [HFZ.out] at HC1
                  clear HBj HT8 HB8 hfa
                  go_wp2_with fail
                  refine HC1.out.mono ?_
                  rintro e w10 ⟨rfl, hS10, hM10⟩
                  have HS10 := Lib.hid hS10
                  have HB10 := Lib.hid (Mod.below HB9.out hM10 (fun k e => HF.out k (.inl (.inr e))) HB9.out.size)
                  have HC2 := Lib.hid (owner_in hS10 a (by omega))
                  rw [HA0.out] at HC2
                  clear hS10 hM10 HC1
                  go_wp2_with fail
                  refine HC2.out.mono ?_
                  rintro e w11 ⟨rfl, rfl⟩
                  have HC3 := Lib.hid (free_any HS10.out)
                  rw [← HFE.out] at HC3
                  have g1 : ((f : Int) == (f : Int)) = true := by simp
                  go_wp2_with fail
                  refine HC3.out.mono ?_
                  rintro e w12 ⟨rfl, hb12⟩
                  have HB12 := Lib.hid (HB10.out.on hb12)
                  have HC4 := Lib.hid (release_free (HS10.out.on hb12) a (by omega) HA0.out)
                  go_wp2_with fail
                  refine HC4.out.mono ?_
                  rintro e w13 ⟨rfl, rfl⟩
                  go_wp2
                  go_ret
                  exact ⟨rfl, HB12.out⟩
end Go.Proofs.YtkaflgbipjppmaaDoor
