/- StoreParts: a walk. -/
import Derived.Test.YtkaflgbipjppmaaDoorPm
import Derived.Deep.RegionHeld3
namespace Go.Proofs.YtkaflgbipjppmaaDoor
open Go.RowKit
set_option linter.unusedVariables false
set_option linter.unusedSimpArgs false
variable {w w' : World} {B Wb Ob p q G Wg Og size : Nat} {W W' own own' : List Int} {c : Nat}
theorem map_mod {w w' : World} {P : Program} {k : TypeId} {R : Value → Option (DataW Unit × List MemPlace)} {b n : Nat} {D : DataW Unit} {S : Nat → Prop} (h : w.ownsMap P k R b n D) (hm : Mod S w w') (hn : ¬ S b) : w'.ownsMap P k R b n D := by
  obtain ⟨es, clock, hb, F, hs, hD⟩ := h
  exact ⟨es, clock, hm.keeps hb hn, F, hs, hD⟩
theorem map_on {w w' : World} {P : Program} {k : TypeId} {R : Value → Option (DataW Unit × List MemPlace)} {b n : Nat} {D : DataW Unit} (h : w.ownsMap P k R b n D) (hb : Below w.heap.size w w') : w'.ownsMap P k R b n D := map_mod (S := fun _ => False) h (.of_below hb) (fun x => x)
theorem write_free (h : StoreAt w B Wb Ob p q W size own) (a : Nat) (x : Int) (ha : a < W.length) (hz : own.getD (a / size) 0 = 0) : Calls Tryd.prog 26 #[.pointer (some ⟨B, 0, none⟩), .int .i64 a, .int .u64 x] w fun e w' => e = .returned (.int .i64 17) ∧ w = w' := by
  have HC0 := at_some h a 1 (by decide) (by omega)
  unfold atE at HC0
  rw [okW_one, if_neg (by simp [hz, - List.getD_eq_getElem?_getD])] at HC0
  have HC := Lib.hid HC0
  clear HC0 h hz
  go_enter Tryd.func26, Tryd.ntmps26
  go_wp2_with (go_at_call 55; refine HC.out.mono ?_; rintro e w1 ⟨rfl, rfl⟩)
  go_ret
  exact ⟨rfl, rfl⟩
set_option maxRecDepth 100000 in
set_option maxHeartbeats 4000000 in
theorem parts3_walk (zc zw : Int) (A : Option Addr) (l : List Act3) (cp : Nat) (hz1 : i64B zc) (hz2 : i64B zw) (hl : l.length ≤ cp) (hm : l.length ≤ maxLen) (hS : SliceOf w A 5 act3Enc act30 l) (hg : ∀ x ∈ l, good3 x) (hT : Tab w) :
    Calls Tryd.prog 9 #[.agg #[.int .i64 zc, .int .i64 zw], .slice A l.length cp] w fun e w' => e = .returned (.bool true) ∧ Below w.heap.size w w' := by
  obtain ⟨c, hc, hc1, hc2⟩ := size_n zc hz1
  obtain ⟨n, hn, hn1, hn2⟩ := size_n zw hz2
  have hb0 := below1 w (.cells #[.int .i64 zc, .int .i64 zw] 36)
  have HG : Hid (∀ Y, Below (w.alloc (.cells #[.int .i64 zc, .int .i64 zw] 36)).heap.size (w.alloc (.cells #[.int .i64 zc, .int .i64 zw] 36)) Y → Calls Tryd.prog 21 #[.agg #[.int .i64 zc, .int .i64 zw], .slice A l.length cp] Y (GrownPost3 c n l.length Y)) := Lib.hid (fun Y hY => grown3_any (w := Y) zc zw c n hc hc1 hc2 hn hn1 hn2 A l cp hl hm ((hS.on hb0).on hY) hg ((hT.on hb0).on hY))
  have HB0 := Lib.hid hb0
  have hz0 : (w.alloc (.cells #[.int .i64 zc, .int .i64 zw] 36)).heap.size = w.heap.size + 1 := by simp
  have hlT := lt_of_cell (hT 0 (by decide))
  have HTT : Hid (∀ Y, Below w.heap.size w Y → Tab Y) := Lib.hid (fun Y hY j hj => (hY.cell (p := ⟨0, j, none⟩) hlT).trans (hT j hj))
  have HAL : Hid (∀ Y, Below w.heap.size w Y → Calls Tryd.prog 22 #[] Y fun e w' => e = .returned (.bool true) ∧ Below Y.heap.size Y w') := Lib.hid (fun Y hY => alive3_any (HTT.out Y hY))
  unfold maxLen at hm
  have hmm := @run_makeMap Tryd.prog
  clear hb0 hc hn hS hg hT hz1 hz2
  go_enter Tryd.func9, Tryd.ntmps9
  go_wp2_with fail
  have HBQ := Lib.hid HB0.out
  refine (HG.out _ (Below.refl _ _)).mono ?_
  rintro e w1 (⟨hlen, B, Wb, Ob, p, q, G, Wg, Og, W, own, rfl, hP, ⟨hown, hBN⟩, hb1, hF⟩ | ⟨hlen, rfl, hb1⟩)
  case inr =>
    have hl' : decide ((80 : Int) < (l.length : Int)) = true := decide_eq_true (by omega)
    have hB1 := HBQ.out.on hb1
    clear hb1 HG
    go_wp2_with fail
    refine (HAL.out _ hB1).mono ?_
    rintro e w2 ⟨rfl, hb2⟩
    have hB2 := hB1.on hb2
    clear hb2
    go_wp2_with fail
    refine (HAL.out _ hB2).mono ?_
    rintro e w3 ⟨rfl, hb3⟩
    go_wp2
    go_ret
    exact ⟨rfl, hB2.on hb3⟩
  case inl =>
    subst hown
    have HBN := Lib.hid hBN
    clear hBN
    have HB1 := Lib.hid (HBQ.out.on hb1)
    have HF : Hid (Fresh8 w.heap.size B Wb Ob p q G Wg Og) := Lib.hid (fun k e => by have h9 := hF k e; have h8 := HBQ.out.size; omega)
    have HP1 := Lib.hid hP
    have hol := hP.rf.o2
    have ho1 := hP.rf.o1
    have hwl := hP.rf.wlen
    have HWL := Lib.hid hP.rf.hW

    clear hP hb1 hF HG
    go_wp2_with fail
    refine (HAL.out _ HB1.out).mono ?_
    rintro e w2 ⟨rfl, hb2⟩
    have HP2 := Lib.hid (HP1.out.on hb2)
    have HB2 := Lib.hid (HB1.out.on hb2)

    clear hb2 HP1 HB1
    have k1 := HP2.out.rf.c1
    have k2 := HP2.out.rf.c2
    have HFR := Lib.hid (free_any HP2.out.st)
    obtain ⟨f, hf⟩ : ∃ f, f = freeN own := ⟨_, rfl⟩
    have HFE := Lib.hid hf
    rw [← hf] at HFR
    have hwf : f ≤ own.length := by rw [hf]; unfold freeN; omega
    clear hf
    go_wp2_with fail
    refine HFR.out.mono ?_
    rintro e w3 ⟨rfl, hb3⟩
    have HP3 := Lib.hid (HP2.out.on hb3)
    have HB3 := Lib.hid (HB2.out.on hb3)
    clear hb3 HFR HP2 HB2 k1 k2
    have k2 := HP3.out.rf.c2
    have m0 := World.ownsMap_made (H := Unit) w3 Tryd.prog 3 (plainElem Tryd.prog 3)
    have HM0 := Lib.hid m0
    have hb4 := below1 w3 (.map #[] 0)
    have k3 := (HP3.out.on hb4).rf.c2
    have HB4 := Lib.hid hb4
    clear m0 hb4
    go_wp2
    go_loopw [7, 41] (fun v7 v41 wr => ∃ (c m : Nat) (D : DataW Unit), c ≤ own.length ∧ m ≤ c ∧ v41 = .int .i64 c ∧ v7 = .int .i64 ((f + seenN own c : Nat)) ∧ Hid (CntMap D (nzO own c)) ∧ Hid (wr.ownsMap Tryd.prog 3 (plainElem (H := Unit) Tryd.prog 3) w3.heap.size m D) ∧ Hid (Below w3.heap.size w3 wr)) (fun _ v41 _ => own.length - (intOf v41).toNat)
    case atStart => exact ⟨0, 0, _, by omega, by omega, rfl, by rw [seen_zero]; rfl, Lib.hid CntMap.start, HM0, HB4⟩
    case round =>
      obtain ⟨c, m, D, hc, hmc, rfl, rfl, HD, HMP, HB⟩ := hrel
      clear hmm k2 k3
      have hsl := seen_le own c
      by_cases hlt : c < own.length
      · have hPr := HP3.out.on HB.out
        have k1 := hPr.rf.c1
        have HO := Lib.hid (owner_in hPr.st c hlt)
        by_cases hz : own.getD c 0 = 0
        · obtain ⟨x1, x2⟩ := word_in (W := W) (own := own) (size := n) (R := c) (i := 0) hn1 HWL.out hlt (by omega)
          rw [Nat.add_zero] at x1 x2
          have HW := Lib.hid (write_free hPr.st (c * n) 1 x1 (by rw [x2]; exact hz))
          have HS := Lib.hid (seen_old hlt (.inl hz))
          have HN := Lib.hid (nzO_no hlt hz)
          rw [hz] at HO
          obtain ⟨x, hx⟩ : ∃ x, x = c * n := ⟨_, rfl⟩
          rw [← hx] at HW x1
          have e1 : IntKind.i64.wrap ((c : Int) * (n : Int)) = (x : Int) := by
            rw [show ((c : Int) * (n : Int)) = (x : Int) by rw [hx]; simp, IntKind.wrap_i64]; omega
          have e3 : (c : Int) * (n : Int) = (x : Int) := by rw [hx]; simp
          clear hz x2 hPr hx
          go_wp2_with fail
          refine HO.out.mono ?_
          rintro e w5 ⟨rfl, rfl⟩
          go_wp2_with fail
          refine HW.out.mono ?_
          rintro e w5 ⟨rfl, rfl⟩
          go_wp2
          go_roundw
          case rel => exact ⟨c + 1, m, D, by omega, by omega, by go_num, by rw [HS.out]; go_num, by rw [HN.out]; exact HD, HMP, HB⟩
          case measure => simp [intOf]; omega
        · have hown1 := owned_once hlt hz
          have HOW := Lib.hid (owned_any hPr.st (HTT.out _ (HB3.out.on HB.out)) (own.getD c 0))
          have HOW2 : Hid (∀ Y, Below w3.heap.size w3 Y → Calls Tryd.prog 31 #[.pointer (some ⟨B, 0, none⟩), .int .i64 (own.getD c 0)] Y fun e w' => ∃ v, e = .returned v ∧ Ints w' v (ownedL own (own.getD c 0)) ∧ Below Y.heap.size Y w') := Lib.hid (fun Y hY => owned_any (HP3.out.on hY).st (HTT.out _ (HB3.out.on hY)) (own.getD c 0))
          have hol1 := owned_le own (own.getD c 0)
          have HSO := Lib.hid (seen_old (own := own) hlt)
          have HSN := Lib.hid (seen_new (own := own) hlt hz)
          have HN := Lib.hid (nzO_yes hlt hz)
          have hbn : (Lit.int .i64 (own.getD c 0)).wf = true := by
            have hm9 : own.getD c 0 ∈ own := by
              have : own.getD c 0 = own[c] := by simp [List.getD, hlt]
              rw [this]; exact List.getElem_mem hlt
            have h1 := HBN.out _ hm9
            have h2 := hPr.st.pos _ hm9
            exact wf_of h2 h1
          have hkey := Maps.keyOf_int_mk (P := Tryd.prog) Tryd.underlying3 hbn
          have HCN := Lib.hid (nzO_count (own := own) (c := c) hz)
          have hnl := nzO_le own c
          have HSL := Lib.hid (fun c => seen_le own c)
          generalize own.getD c 0 = y at *
          have hyb : (y == 0) = false := by simpa using hz
          have HKEY := Lib.hid hkey
          have HZ := Lib.hid hz
          generalize ownedL own y = L at *
          have HL1 := Lib.hid hown1
          clear hz hPr hown1 hkey hbn
          go_wp2_with fail
          refine HO.out.mono ?_
          rintro e w5 ⟨rfl, rfl⟩
          go_wp2_with fail
          refine HOW.out.mono ?_
          rintro e w6 ⟨v6, rfl, hI6, hb6⟩
          obtain ⟨A6, c6, rfl, -, -, hs6⟩ := hI6
          have HS6 := Lib.hid hs6
          have HMP6 := Lib.hid (map_on HMP.out hb6)
          have HB6 := Lib.hid (HB.out.on hb6)
          clear hs6 hb6 HOW HMP HB
          go_wp2
          go_loopw [12, 63] (fun v12 v63 wr => ∃ j : Nat, j ≤ L.length ∧ v63 = .int .i64 j ∧ v12 = .int .i64 ((L.take j).count c : Nat) ∧ wr = w6) (fun _ v63 _ => L.length - (intOf v63).toNat)
          case atStart => exact ⟨0, by omega, rfl, by simp, rfl⟩
          case round =>
            obtain ⟨j, hj, rfl, rfl, rfl⟩ := hrel
            by_cases hlt3 : j < L.length
            · obtain ⟨b9, o9, rfl, hx9⟩ := ints_at HS6.out j hlt3
              have HMS := Lib.hid (count_take_succ (L := L) (c := c) hlt3)
              have hcl : (L.take j).count c ≤ j := Nat.le_trans List.count_le_length (List.length_take_le _ _)
              generalize L.getD j 0 = z at *
              generalize (L.take j).count c = cn at *
              by_cases hzR : z = c
              · have zz : ((z : Int) == (c : Int)) = true := by simp [hzR]
                have HQ : Hid ((L.take (j + 1)).count c = cn + 1) := Lib.hid (by rw [HMS.out, if_pos hzR])
                clear hzR
                go_wp2
                go_roundw
                case rel => exact ⟨j + 1, by omega, by go_num, by rw [HQ.out]; go_num, trivial⟩
                case measure => simp [intOf]; omega
              · have zz : ((z : Int) == (c : Int)) = false := by simp; omega
                have HQ : Hid ((L.take (j + 1)).count c = cn) := Lib.hid (by rw [HMS.out, if_neg hzR]; rfl)
                clear hzR
                go_wp2
                go_roundw
                case rel => exact ⟨j + 1, by omega, by go_num, by rw [HQ.out], trivial⟩
                case measure => simp [intOf]; omega
            · obtain rfl : j = L.length := by omega
              rw [List.take_length, HL1.out]
              have HML2 := Lib.hid (show m < maxLen by unfold maxLen; omega)
              obtain ⟨cy, d, hcy, hd, hat0, hD1, hat1, hcyl, hd1, hd2, hqb⟩ := HD.out.next y
              obtain ⟨hd2, hsw, hwf9⟩ := hd2 (by omega)
              have HAT := Lib.hid hat0
              have HAT1 := Lib.hid hat1
              have HD1 := Lib.hid hD1
              have HCY := Lib.hid hcy
              have HC63 := Lib.hid hwf9
              subst hd
              clear hat0 hat1 hD1 hcy hwf9 hsw hd1 hd2
              rcases hqb with hc0 | qb
              · have qb : ((cy : Int) + 1 == 1) = true := by rw [hc0]; rfl
                have HSQ := Lib.hid (HSN.out (HCN.out.1 (HCY.out.trans hc0)))
                have hsl2 := HSL.out (c + 1)
                clear hc0
                go_wp2_with (first
                  | (at_lookup; refine wpList_lookup_own_int _ rfl _ _ 61 rfl 3 3 .i64 int_key Tryd.underlying61 Tryd.underlying3 (int_zero _) w3.heap.size (m + 1) _ rfl hown1 _ _ rfl HKEY.out ?_; intro c2 hat hwc; have hc2 : c2 = (cy : Int) + 1 := lit_inj (hat.symm.trans HAT1.out); subst hc2; clear hat hwc)
                  | (at_lookup; refine wpList_lookup_own_int _ rfl _ _ 61 rfl 3 3 .i64 int_key Tryd.underlying61 Tryd.underlying3 (int_zero _) w3.heap.size m _ rfl HMP6.out _ _ rfl HKEY.out ?_; intro c1 hat hwc; have hc1 : c1 = (cy : Int) := lit_inj (hat.symm.trans HAT.out); subst hc1; clear hat hwc)
                  | (at_mapUpdate; refine wpList_mapUpdate_own _ rfl _ _ _ 61 rfl 3 3 int_key Tryd.underlying61 _ w3.heap.size m _ rfl HMP6.out HML2.out _ _ _ rfl rfl HKEY.out (.lit (.int .i64 ((cy : Int) + 1))) [] (plainElem_int Tryd.underlying3 HC63.out) ?_; intro w7 hown1 hgrow1))
                have HB7 := Lib.hid (HB6.out.grown hgrow1 HB6.out.size (fun z e => by cases e; exact Nat.le_refl _))
                have HMP7 := Lib.hid hown1
                clear hown1 hgrow1
                refine (HOW2.out _ HB7.out).mono ?_
                rintro e w8 ⟨v8, rfl, hI8, hb8⟩
                obtain ⟨A8, c8, rfl, -, -, hs8⟩ := hI8
                have HB8 := Lib.hid (HB7.out.on hb8)
                have HMP8 := Lib.hid (map_on HMP7.out hb8)
                clear hs8 hb8
                go_wp2
                go_roundw
                case rel => exact ⟨c + 1, m + 1, _, by omega, by omega, by go_num, by rw [HSQ.out]; go_num, by rw [HN.out]; exact HD1, HMP8, HB8⟩
                case measure => simp [intOf]; omega
              · by_cases hin : y ∈ own.take c
                · have HSQ := Lib.hid (HSO.out (.inr hin))
                  have qb' : ((cy : Int) + 1 == 1) = false := qb
                  clear hin
                  go_wp2_with (first
                    | (at_lookup; refine wpList_lookup_own_int _ rfl _ _ 61 rfl 3 3 .i64 int_key Tryd.underlying61 Tryd.underlying3 (int_zero _) w3.heap.size (m + 1) _ rfl hown1 _ _ rfl HKEY.out ?_; intro c2 hat hwc; have hc2 : c2 = (cy : Int) + 1 := lit_inj (hat.symm.trans HAT1.out); subst hc2; clear hat hwc)
                    | (at_lookup; refine wpList_lookup_own_int _ rfl _ _ 61 rfl 3 3 .i64 int_key Tryd.underlying61 Tryd.underlying3 (int_zero _) w3.heap.size m _ rfl HMP6.out _ _ rfl HKEY.out ?_; intro c1 hat hwc; have hc1 : c1 = (cy : Int) := lit_inj (hat.symm.trans HAT.out); subst hc1; clear hat hwc)
                    | (at_mapUpdate; refine wpList_mapUpdate_own _ rfl _ _ _ 61 rfl 3 3 int_key Tryd.underlying61 _ w3.heap.size m _ rfl HMP6.out HML2.out _ _ _ rfl rfl HKEY.out (.lit (.int .i64 ((cy : Int) + 1))) [] (plainElem_int Tryd.underlying3 HC63.out) ?_; intro w7 hown1 hgrow1))
                  have HB7 := Lib.hid (HB6.out.grown hgrow1 HB6.out.size (fun z e => by cases e; exact Nat.le_refl _))
                  have HMP7 := Lib.hid hown1
                  clear hown1 hgrow1
                  go_roundw
                  case rel => exact ⟨c + 1, m + 1, _, by omega, by omega, by go_num, by rw [HSQ.out]; go_num, by rw [HN.out]; exact HD1, HMP7, HB7⟩
                  case measure => simp [intOf]; omega
                · exfalso
                  have h9 := HCN.out.2 hin
                  rw [HCY.out] at h9
                  rw [h9] at qb
                  exact absurd qb (by decide)
      · obtain rfl : c = own.length := by omega
        have q2 := (HP3.out.on HB.out).rf.c2
        have HSA := Lib.hid (seen_all own)
        have hfin : ((f : Int) + (seenN own own.length : Nat) == (own.length : Int)) = true := by
          rw [beq_iff_eq]; have := HSA.out; have := HFE.out; omega
        go_wp2
        go_ret
        exact ⟨rfl, HB3.out.on HB.out⟩
end Go.Proofs.YtkaflgbipjppmaaDoor
