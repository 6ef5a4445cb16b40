/- BumpRuns: a walk. -/
import Derived.Test.YtkaflgbipjppmaaDoorB4a
namespace Go.Proofs.YtkaflgbipjppmaaDoor
open Go.RowKit
set_option linter.unusedVariables false
set_option linter.unusedSimpArgs false
variable {w : World}
set_option maxRecDepth 100000 in
set_option maxHeartbeats 4000000 in
theorem runsB_walk (wd nn : Int) (A : Option Addr) (al : List Int) (c : Nat) (hc : al.length ≤ c) (hm : al.length ≤ maxLen) (hS : SliceOf w A 1 encI 0 al) (hT : Tab w) :
    Calls Tryd.prog 10 #[.int .i64 wd, .int .i64 nn, .slice A al.length c] w fun e w' => e = .returned (.bool true) ∧ Below w.heap.size w w' := by
  unfold maxLen at hm
  obtain ⟨size, hk⟩ : ∃ k : Nat, (k : Int) = 1 + max 0 wd % 10 := ⟨(1 + max 0 wd % 10).toNat, by have := Int.emod_nonneg (max 0 wd) (show (10 : Int) ≠ 0 by decide); omega⟩
  have hs1 : 1 ≤ size := by have := Int.emod_nonneg (max 0 wd) (show (10 : Int) ≠ 0 by decide); omega
  have hs10 : size ≤ 10 := by have := Int.emod_lt_of_pos (max 0 wd) (show (0 : Int) < 10 by decide); omega
  have HK := Lib.hid hk
  have HT := Lib.hid hT
  have HS := Lib.hid hS
  have h0 : 0 < w.heap.size := lt_of_cell (hT 0 (by decide))
  have HAL : Hid (∀ Y, Below w.heap.size w Y → Calls Tryd.prog 17 #[] Y fun e w' => e = .returned (.bool true) ∧ Below Y.heap.size Y w') := Lib.hid (fun Y hY => alive9_any (fun j hj => (hY.cell (p := ⟨0, j, none⟩) h0).trans (hT j hj)))
  have hmax : (if (0 : Int) < wd then wd else 0) = max 0 wd := by omega
  obtain ⟨L, hL⟩ : ∃ L, L = min al.length 12 := ⟨_, rfl⟩
  have hL1 : L ≤ 12 := by omega
  have hL2 : L ≤ al.length := by omega
  have hLc : L ≤ c := by omega
  have hmin : (if (12 : Int) < (al.length : Int) then (12 : Int) else (al.length : Int)) = (L : Int) := by omega
  have hmin2 : min (al.length : Int) 12 = (L : Int) := by omega
  clear hT hS hk
  go_enter Tryd.func10, Tryd.ntmps10
  go_wp2_with fail
  rw [← HK.out]
  refine (made9 60 size w.heap.size w (by decide) (by decide) hs1 (by omega)).mono ?_
  rintro e w1 ⟨B, Wb, Ob, p, q, P0, P1, rfl, h2, hb, hF, hp0, hp1⟩
  have hTW : TW w w1 B Wb Ob p q (List.replicate (60 * size) 0) size (List.replicate 60 0) P0 P1 (.slice none 0 0) (.slice none 0 0) [] [] 0 0 0 0 := ⟨h2, hb, fun k e => by rcases e with e | e | e; exact hF k e; omega; omega⟩
  have HF0 : Hid (RunSt w B Wb Ob p q size P0 P1 0 w1) := Lib.hid ⟨_, _, 0, 0, 0, hTW, Nat.le_refl _, by omega⟩
  have ha := heap_alloc_new w1 (.cells #[.pointer (some ⟨P0, 0, none⟩), .pointer (some ⟨P1, 0, none⟩)] 25)
  have hba := below1 w1 (.cells #[.pointer (some ⟨P0, 0, none⟩), .pointer (some ⟨P1, 0, none⟩)] 25)
  have hBa := hb.on hba
  have hb1 := hb.size
  clear h2 hb hF hp0 hp1 hTW hmax
  go_wp2_with fail
  refine (HAL.out _ hBa).mono ?_
  rintro e w2 ⟨rfl, hb2⟩
  have hB2 := hBa.on hb2
  have HF2 : Hid (RunSt w B Wb Ob p q size P0 P1 0 w2) := Lib.hid (by
    obtain ⟨W, v0, c, a, e, g1, g2, g3⟩ := HF0.out
    exact ⟨W, v0, c, a, e, (g1.on hba).on hb2, g2, g3⟩)
  have HA2 : Hid (Arr w2 w1.heap.size P0 P1) := Lib.hid ((hb2.block _ (block_lt ha)).trans ha)
  have hz2 := block_lt HA2.out
  clear ha hba hBa hb2 HF0
  go_wp2_with fail
  go_loopw [41] (fun v41 wr => ∃ i : Nat, i ≤ L ∧ v41 = .int .i64 i ∧ Hid (RunSt w B Wb Ob p q size P0 P1 i wr) ∧ Hid (Arr wr w1.heap.size P0 P1)) (fun v41 _ => L - (intOf v41).toNat)
  case atStart => exact ⟨0, by omega, rfl, HF2, HA2⟩
  case round =>
    obtain ⟨i, hi, rfl, HFr, HAr⟩ := hrel
    have ka := (blk_cells HAr.out 0).trans rfl
    have hBr : Below w.heap.size w wr := by
      obtain ⟨W, v0, c, a, e, g1, g2, g3⟩ := HFr.out
      exact g1.below
    by_cases hlt : i < L
    · obtain ⟨b2, o2, rfl, e0⟩ := HS.out.on hBr i (by omega)
      have e1 := e0 0 _ rfl
      rw [Nat.add_zero, Nat.mul_one] at e1
      generalize al.getD i 0 = y at e0 e1
      obtain ⟨n, hn⟩ : ∃ n : Nat, (n : Int) = 1 + max 0 y % (size : Int) := ⟨(1 + max 0 y % (size : Int)).toNat, by have := Int.emod_nonneg (max 0 y) (show (size : Int) ≠ 0 by omega); omega⟩
      have hn1 : 1 ≤ n := by have := Int.emod_nonneg (max 0 y) (show (size : Int) ≠ 0 by omega); omega
      have hnk : n ≤ size := by have := Int.emod_lt_of_pos (max 0 y) (show (0 : Int) < size by omega); omega
      have HN := Lib.hid hn
      have hmax2 : (if (0 : Int) < y then y else 0) = max 0 y := by omega
      obtain ⟨r, hr⟩ : ∃ r : Nat, (r : Int) = max 0 y % (size : Int) := ⟨(max 0 y % (size : Int)).toNat, by have := Int.emod_nonneg (max 0 y) (show (size : Int) ≠ 0 by omega); omega⟩
      have htm : (max 0 y).tmod (size : Int) = (r : Int) := by rw [hr]; exact Int.tmod_eq_emod_of_nonneg (by omega)
      have hnr : n = 1 + r := by omega
      have hk0 : ¬ (size : Int) = 0 := by omega
      have hrw : IntKind.i64.wrap (r : Int) = (r : Int) := k64_nat _ (by omega)
      have hnw : IntKind.i64.wrap (1 + (r : Int)) = (n : Int) := by rw [show 1 + (r : Int) = (n : Int) by omega]; exact k64_nat _ (by omega)
      have HST : Hid (∀ Y, Below wr.heap.size wr Y → Calls Tryd.prog 18 #[.pointer (some ⟨P0, 0, none⟩), .int .i64 n] Y fun e w' => (∃ x : Int, e = .returned (.tuple #[.int .i64 x, .int .i64 0])) ∧ RunSt w B Wb Ob p q size P0 P1 (i + 1) w' ∧ Keeps wr w') := Lib.hid (fun Y hY => by
        have hf : RunSt w B Wb Ob p q size P0 P1 i Y := by
          obtain ⟨W, v0, c, a, e, g1, g2, g3⟩ := HFr.out
          exact ⟨W, v0, c, a, e, g1.on hY, g2, g3⟩
        exact (hf.step HT.out h0 (n := n) (by omega) hn1 hnk hs10).mono fun e w' ⟨h1, h2, h3⟩ => ⟨h1, h2, (Keeps.of_below hY).trans h3⟩)
      clear e0 hn hr hnr
      go_wp2_with fail
      go_region_with (go_at_call 18; refine (HST.out _ (Below.drew (Below.refl _ _))).mono ?_; rintro e w4 ⟨⟨x, rfl⟩, hF4, hK4⟩)
      all_goals
        have HF4 := Lib.hid hF4
        have HA4 : Hid (Arr w4 w1.heap.size P0 P1) := Lib.hid (hK4.1 _ _ _ rfl HAr.out)
        clear hF4 hK4 HST ka e1 hmax2 htm hrw hnw
        go_wp2
        go_roundw
        case rel => exact ⟨i + 1, by omega, by go_num, HF4, HA4⟩
        case measure => simp [intOf]; omega
    · obtain rfl : i = L := by omega
      obtain ⟨W, v0, c9, a, e9, g1, g2, g3⟩ := HFr.out
      obtain ⟨qn, hq⟩ : ∃ q : Nat, (q : Int) = max 0 nn % 40 := ⟨(max 0 nn % 40).toNat, by have := Int.emod_nonneg (max 0 nn) (show (40 : Int) ≠ 0 by decide); omega⟩
      have hq40 : qn < 40 := by have := Int.emod_lt_of_pos (max 0 nn) (show (0 : Int) < 40 by decide); omega
      obtain ⟨kk, hkk⟩ : ∃ kk : Nat, kk = size + 1 + qn := ⟨_, rfl⟩
      have HKK : Hid ((kk : Int) = (size : Int) + 1 + max 0 nn % 40) := Lib.hid (by omega)
      have hmaxn : (if (0 : Int) < nn then nn else 0) = max 0 nn := by omega
      obtain ⟨nd, hnd⟩ : ∃ nd, nd = need size kk := ⟨_, rfl⟩
      have hnd2 : 2 ≤ nd := by
        rw [hnd]; unfold need
        have := (Nat.le_div_iff_mul_le (show 0 < size by omega)).2 (show 1 * size ≤ kk - 1 by omega)
        omega
      have hnd60 : nd ≤ kk := by
        rw [hnd]; unfold need
        have := Nat.div_le_self (kk - 1) size
        omega
      have htd : ((kk : Int) + (size : Int) - 1).tdiv (size : Int) = (nd : Int) := by
        rw [show (kk : Int) + (size : Int) - 1 = ((kk - 1 + size : Nat) : Int) by omega, tdiv_nat, Nat.add_div_right _ (by omega), hnd]; rfl
      have htd2 : ((kk : Int) + (size : Int) - 1) / (size : Int) = (nd : Int) := by rw [← htd]; exact (Int.tdiv_eq_ediv_of_nonneg (by omega)).symm
      have hkb : kk ≤ 60 := by omega
      have hkl : size + 1 ≤ kk := by omega
      have HND := Lib.hid hnd
      have HTW := Lib.hid g1
      have HBR := Lib.hid hBr
      obtain ⟨rm, hrm⟩ : ∃ rm, rm = e9 - a := ⟨_, rfl⟩
      have hrm2 : rm ≤ size := by omega
      have HRM := Lib.hid hrm
      have HC1 : Hid (∀ Y, Below wr.heap.size wr Y → Calls Tryd.prog 19 #[.pointer (some ⟨P0, 0, none⟩)] Y fun e w' => ∃ A c, e = .returned (.slice A c9 c) ∧ Below wr.heap.size wr w') := Lib.hid (fun Y hY => (chunks_sp (HTW.out.on hY).two.s0 (by rw [parts200_len]; omega)).mono fun e w' ⟨A, c, h1, h2, h3⟩ => ⟨A, c, by rw [h1, parts200_chunks], hY.on h3⟩)
      have HR1 : Hid (∀ Y, Below wr.heap.size wr Y → Calls Tryd.prog 32 #[.pointer (some ⟨P0, 0, none⟩)] Y fun e w' => e = .returned (.int .i64 rm) ∧ Below wr.heap.size wr w') := Lib.hid (fun Y hY => by
        have := room_any (HTW.out.on hY).two.s0
        rw [← HRM.out] at this
        exact this.mono fun e w' h => ⟨h.1, hY.on h.2⟩)
      have HKA : Hid (∀ Y, Below wr.heap.size wr Y → Y.cell? ⟨w1.heap.size, 0, none⟩ = some (.pointer (some ⟨P0, 0, none⟩))) := Lib.hid (fun Y hY => (blk_cells ((hY.block _ (block_lt HAr.out)).trans HAr.out) 0).trans rfl)
      have HKE : Hid (∀ Y, Below wr.heap.size wr Y → Y.heap[w1.heap.size]? = some (.cells #[.pointer (some ⟨P0, 0, none⟩), .pointer (some ⟨P1, 0, none⟩)] 25 (0, 0))) := Lib.hid (fun Y hY => (hY.block _ (block_lt HAr.out)).trans HAr.out)
      have hcur : Below wr.heap.size wr wr.drew := Below.drew (Below.refl _ _)
      have kd := HKA.out _ hcur
      have hk0 : ¬ (size : Int) = 0 := by omega
      clear g1 g3 HFr HAr ka hBr hq hrm hnd hlt hkk hq40
      go_wp2_with fail
      go_region_held3 (fun wk => wk.cell? ⟨w1.heap.size, 0, none⟩ = some (.pointer (some ⟨P0, 0, none⟩)) ∧ Below wr.heap.size wr wk) (first | assumption | exact ⟨HKA.out _ (by assumption), by assumption⟩ | exact ⟨kd, hcur⟩) (first | (go_at_call 32; refine (HR1.out _ (And.right (by assumption))).mono ?_; rintro e w7 ⟨rfl, hbn⟩) | (go_at_call 19; refine (HC1.out _ (And.right (by assumption))).mono ?_; rintro e w8 ⟨A8, c8, rfl, hbn⟩))
      all_goals
        have hcur8 : Below wr.heap.size wr w8 := And.right (show w8.cell? ⟨w1.heap.size, 0, none⟩ = some (.pointer (some ⟨P0, 0, none⟩)) ∧ Below wr.heap.size wr w8 by assumption)
        have kn := HKA.out _ hcur8
        have HCUR := Lib.hid hcur8
        clear hcur hcur8 kd HR1 HC1
        by_cases hfit : c9 + nd ≤ 60
        · obtain ⟨X1, hX1⟩ : ∃ X1, X1 = c9 * size := ⟨_, rfl⟩
          have hX1b : X1 ≤ 600 := by rw [hX1]; exact Nat.le_trans (Nat.mul_le_mul (show c9 ≤ 60 by omega) hs10) (by decide)
          have hrem : (X1 : Int) % (size : Int) = 0 := by rw [hX1]; simp
          have hdvn : X1 / size = c9 := by rw [hX1]; exact Nat.mul_div_cancel _ (by omega)
          have hdv : (X1 : Int).tdiv (size : Int) = (c9 : Int) := by rw [tdiv_nat, hdvn]
          have hdv2 : (X1 : Int) / (size : Int) = (c9 : Int) := by rw [← hdv]; exact (Int.tdiv_eq_ediv_of_nonneg (by omega)).symm
          have HX1 := Lib.hid hX1
          have HAF : Hid (∀ Y, Below wr.heap.size wr Y → Calls Tryd.prog 18 #[.pointer (some ⟨P0, 0, none⟩), .int .i64 kk] Y fun e w' => e = .returned (.tuple #[.int .i64 X1, .int .i64 0]) ∧ (∃ W2 v2, TW w w' B Wb Ob p q W2 size (fillO (ones60 c9) c9 1 nd) P0 P1 v2 (.slice none 0 0) (parts200 c9 ++ [(c9, nd)]) [] a e9 0 0) ∧ Keeps Y w') := Lib.hid (fun Y hY => by
            have hY2 := HTW.out.on hY
            refine (hY2.run0 HT.out h0 kk c9 (by omega) (by omega) (by have := HRM.out; omega) (by rw [← HND.out]; exact ones60_run c9 nd (by omega) hfit) (by rw [parts200_len]; omega)).mono ?_
            rintro e w' ⟨rfl, ⟨v', h4⟩, hm⟩
            rw [← HND.out, if_neg (by omega), if_neg (by omega)] at h4
            exact ⟨by rw [HX1.out], ⟨_, v', h4⟩, AllocS_calm hY2.two.s0 hY2.two.st hm⟩)
          have HKE2 := Lib.hid (HKE.out _ HCUR.out)
          clear hX1 hdvn
          go_wp2_with fail
          rw [← HKK.out]
          refine (HAF.out _ HCUR.out).mono ?_
          rintro e wA ⟨rfl, ⟨W2, v2, hT2⟩, hK2⟩
          have HT2 := Lib.hid hT2
          have HAA : Hid (Arr wA w1.heap.size P0 P1) := Lib.hid (hK2.1 _ _ _ rfl HKE2.out)
          have HPL : Hid ((parts200 c9 ++ [(c9, nd)]).length ≤ 1000000) := Lib.hid (by rw [List.length_append, parts200_len]; simp; omega)
          have HC2 : Hid (∀ Y, Below wA.heap.size wA Y → Calls Tryd.prog 19 #[.pointer (some ⟨P0, 0, none⟩)] Y fun e w' => ∃ A c, e = .returned (.slice A (c9 + nd) c) ∧ Below wA.heap.size wA w') := Lib.hid (fun Y hY => (chunks_sp (HT2.out.on hY).two.s0 HPL.out).mono fun e w' ⟨A, c, h1, h2, h3⟩ => ⟨A, c, by rw [h1, chunks_last], hY.on h3⟩)
          have HR2 : Hid (∀ Y, Below wA.heap.size wA Y → Calls Tryd.prog 32 #[.pointer (some ⟨P0, 0, none⟩)] Y fun e w' => e = .returned (.int .i64 rm) ∧ Below wA.heap.size wA w') := Lib.hid (fun Y hY => by
            have := room_any (HT2.out.on hY).two.s0
            rw [← HRM.out] at this
            exact this.mono fun e w' h => ⟨h.1, hY.on h.2⟩)
          have HBG : Hid (∀ (i : Nat) Y, Below wA.heap.size wA Y → Calls Tryd.prog 33 #[.pointer (some ⟨P0, 0, none⟩), .int .i64 ((c9 : Int) + (i : Int))] Y fun e w' => e = .returned (.bool (decide (i < nd))) ∧ Below wA.heap.size wA w') := Lib.hid (fun i Y hY => (big_any (HT2.out.on hY).two.s0 HPL.out _).mono fun e w' h => ⟨by rw [h.1, bigL_last c9 nd i hnd2], hY.on h.2⟩)
          have HOW : Hid (∀ (i : Nat) Y, i < nd → Below wA.heap.size wA Y → Calls Tryd.prog 25 #[.pointer (some ⟨B, 0, none⟩), .int .i64 ((c9 : Int) + (i : Int))] Y fun e w' => e = .returned (.int .i64 1) ∧ Y = w') := Lib.hid (fun i Y hi hY => by
            have := owner_in (HT2.out.on hY).two.st (c9 + i) (by rw [fillO_length, ones60_len _ (by omega)]; omega)
            rw [fillO_getD _ c9 1 _ nd (by rw [ones60_len _ (by omega)]; omega), if_pos (by omega), show ((c9 + i : Nat) : Int) = (c9 : Int) + (i : Int) by omega] at this
            exact this)
          have HDR : Hid (∀ Y, Below wA.heap.size wA Y → Calls Tryd.prog 34 #[.pointer (some ⟨P0, 0, none⟩), .int .i64 c9] Y fun e w' => e = .returned (.int .i64 0) ∧ (∃ v3, SpaceAt w' P0 B w.heap.size 1 v3 (parts200 c9) a e9) ∧ Below w.heap.size w w' ∧ w'.heap[w1.heap.size]? = some (.cells #[.pointer (some ⟨P0, 0, none⟩), .pointer (some ⟨P1, 0, none⟩)] 25 (0, 0))) := Lib.hid (fun Y hY => by
            have hY2 := HT2.out.on hY
            have hAY := (hY.block _ (block_lt HAA.out)).trans HAA.out
            refine (drop_any hY2.two.s0 hY2.two.st HPL.out hY2.below.size c9 c9 nd (findI_last c9 nd) (by rw [List.length_append, parts200_len]; simp) (by simp [List.getD, List.getElem?_append_right, parts200_len]) (fun i hi => ?_) (fun k hk => ?_) (by rw [fillO_length, ones60_len _ (by omega)]; omega)).mono ?_
            · rw [List.getD, List.getElem?_append_left (by rw [parts200_len]; exact hi), parts200_get c9 i hi]
              show i ≠ c9; omega
            · rw [fillO_getD _ c9 1 _ nd (by rw [ones60_len _ (by omega)]; omega), if_pos (by omega)]; decide
            · rintro e w' ⟨rfl, v3, h1, h2, h3, h4⟩
              have e1 : (parts200 c9 ++ [(c9, nd)]).take c9 ++ (parts200 c9 ++ [(c9, nd)]).drop (c9 + 1) = parts200 c9 := by
                rw [List.take_append_of_le_length (by rw [parts200_len]; omega), List.take_of_length_le (by rw [parts200_len]; omega), List.drop_of_length_le (by rw [List.length_append, parts200_len]; simp), List.append_nil]
              have e2 : dropP size e9 c9 nd = false := by unfold dropP; rw [decide_eq_false (by omega)]; rfl
              rw [e1, e2] at h1
              refine ⟨rfl, ⟨v3, h1⟩, Mod.below hY2.below h3 (fun k e => ?_) hY2.below.size, h3.keeps hAY (fun e => ?_)⟩
              · rcases e with e | e
                · exact hY2.hi k (.inl (.inr e))
                · exact hY2.hi k (.inr (.inl e))
              · rcases e with (e | e | e | e) | e
                · exact type_ne hAY hY2.two.st.body (by decide) e
                · exact type_ne hAY hY2.two.st.owners (by decide) e
                · obtain ⟨u, hu⟩ := hY2.two.st.map; exact type_ne hAY hu.head (by decide) e
                · obtain ⟨u, hu⟩ := hY2.two.st.map; exact type_ne hAY hu.body (by decide) e
                · exact type_ne hAY hY2.two.s0.head (by decide) e)
          have HKB : Hid (∀ Y, Below wA.heap.size wA Y → Y.cell? ⟨w1.heap.size, 0, none⟩ = some (.pointer (some ⟨P0, 0, none⟩))) := Lib.hid (fun Y hY => (blk_cells ((hY.block _ (block_lt HAA.out)).trans HAA.out) 0).trans rfl)
          have kA := HKB.out _ (Below.refl _ _)
          clear hT2 hK2 HAF
          go_wp2_with fail
          refine (HR2.out _ (Below.refl _ _)).mono ?_
          rintro e wB ⟨rfl, hbB⟩
          have HBB := Lib.hid hbB
          have kB := HKB.out _ hbB
          clear hbB kA
          go_wp2_with fail
          refine (HC2.out _ HBB.out).mono ?_
          rintro e wC ⟨A9, c9', rfl, hbC⟩
          have HBC := Lib.hid hbC
          have kC := HKB.out _ hbC
          clear hbC kB
          obtain ⟨wo, hwo⟩ : ∃ wo, wo = wr := ⟨_, rfl⟩
          subst hwo
          go_wp2_with fail
          go_loopw [112] (fun v112 wr => ∃ i : Nat, i ≤ nd ∧ v112 = .int .i64 i ∧ Hid (Below wA.heap.size wA wr)) (fun v112 _ => nd - (intOf v112).toNat)
          case atStart => exact ⟨0, by omega, rfl, HBC⟩
          case round =>
            obtain ⟨i, hi, rfl, HBi⟩ := hrel
            clear kC
            have ki := HKB.out _ HBi.out
            have kw1 : IntKind.i64.wrap (c9 : Int) = (c9 : Int) := k64_nat _ (by omega)
            have kw2 : IntKind.i64.wrap ((c9 : Int) + (i : Int)) = (c9 : Int) + (i : Int) := by rw [show (c9 : Int) + (i : Int) = ((c9 + i : Nat) : Int) by omega]; exact k64_nat _ (by omega)
            have hcur : Below wA.heap.size wA wr.drew := Below.drew HBi.out
            have hk1 : ¬ size = 0 := by omega
            have hdw1 : IntKind.i64.wrap ((X1 : Int).tdiv (size : Int)) = (c9 : Int) := by rw [hdv]; exact kw1
            have hdw2 : IntKind.i64.wrap ((X1 : Int) / (size : Int)) = (c9 : Int) := by rw [hdv2]; exact kw1
            by_cases hin : i < nd
            · have HB1 : Hid (∀ Y, Below wA.heap.size wA Y → Calls Tryd.prog 33 #[.pointer (some ⟨P0, 0, none⟩), .int .i64 ((c9 : Int) + (i : Int))] Y fun e w' => e = .returned (.bool true) ∧ Below wA.heap.size wA w') := Lib.hid (fun Y hY => (HBG.out i Y hY).mono fun e w' h => ⟨by rw [h.1, decide_eq_true hin], h.2⟩)
              have HO1 := Lib.hid (fun Y hY => HOW.out i Y hin hY)
              go_wp2_with fail
              go_region_held3 (fun wk => wk.cell? ⟨w1.heap.size, 0, none⟩ = some (.pointer (some ⟨P0, 0, none⟩)) ∧ Below wA.heap.size wA wk) (first | assumption | exact ⟨HKB.out _ (by assumption), by assumption⟩ | exact ⟨ki, hcur⟩) (first | (go_at_call 33; refine (HB1.out _ (And.right (by assumption))).mono ?_; rintro e w8 ⟨rfl, hbn⟩) | (go_at_call 25; refine (HO1.out _ (And.right (by assumption))).mono ?_; rintro e w9 ⟨rfl, rfl⟩))
              all_goals
                have hcur8 : Below wA.heap.size wA w8 := And.right (show w8.cell? ⟨w1.heap.size, 0, none⟩ = some (.pointer (some ⟨P0, 0, none⟩)) ∧ Below wA.heap.size wA w8 by assumption)
                have HCC := Lib.hid hcur8
                clear hcur hcur8 ki kw1 kw2 hk1 hdw1 hdw2
                go_wp2
                go_roundw
                case rel => exact ⟨i + 1, by omega, by go_num, HCC⟩
                case measure => simp [intOf]; omega
            · obtain rfl : nd = i := by omega
              have HB1 : Hid (∀ Y, Below wA.heap.size wA Y → Calls Tryd.prog 33 #[.pointer (some ⟨P0, 0, none⟩), .int .i64 ((c9 : Int) + (nd : Int))] Y fun e w' => e = .returned (.bool false) ∧ Below wA.heap.size wA w') := Lib.hid (fun Y hY => (HBG.out nd Y hY).mono fun e w' h => ⟨by rw [h.1, decide_eq_false (Nat.lt_irrefl _)], h.2⟩)
              go_wp2_with fail
              go_region_with (go_at_call 33; refine (HB1.out _ hcur).mono ?_; rintro e w8 ⟨rfl, hbn⟩; replace hcur := hbn; clear HB1)
              all_goals
                have HCC := Lib.hid hcur
                have k8 := HKB.out _ hcur
                clear hcur ki
                go_wp2_with fail
                go_region_with (go_at_call 34; refine (HDR.out _ (Below.drew HCC.out)).mono ?_; rintro e wD ⟨rfl, ⟨v3, hP3⟩, hbD, hAD⟩)
                all_goals
                  have kD := (blk_cells hAD 0).trans rfl
                  have HPD := Lib.hid hP3
                  have HAD := Lib.hid hAD
                  have HBD := Lib.hid hbD
                  have HCH : Hid (Calls Tryd.prog 19 #[.pointer (some ⟨P0, 0, none⟩)] wD fun e w' => ∃ A c, e = .returned (.slice A c9 c) ∧ Below wD.heap.size wD w') := Lib.hid ((chunks_sp hP3 (by rw [parts200_len]; omega)).mono fun e w' ⟨A, c, h1, h2, h3⟩ => ⟨A, c, by rw [h1, parts200_chunks], h3⟩)
                  clear hP3 hbD hAD k8
                  go_wp2_with fail
                  refine HCH.out.mono ?_
                  rintro e wE ⟨A7, c7, rfl, hbE⟩
                  have kE := (blk_cells ((hbE.block _ (block_lt HAD.out)).trans HAD.out) 0).trans rfl
                  have hroom := room_any (HPD.out.on hbE)
                  rw [← HRM.out] at hroom
                  have HRE := Lib.hid hroom
                  have HBE := Lib.hid (HBD.out.on hbE)
                  clear hbE hroom kD
                  go_wp2_with fail
                  refine HRE.out.mono ?_
                  rintro e wF ⟨rfl, hbF⟩
                  go_wp2
                  go_ret
                  exact ⟨rfl, HBE.out.on hbF⟩
        · have HAF : Hid (∀ Y, Below wr.heap.size wr Y → Calls Tryd.prog 18 #[.pointer (some ⟨P0, 0, none⟩), .int .i64 kk] Y fun e w' => e = .returned (.tuple #[.int .i64 0, .int .i64 11]) ∧ Below Y.heap.size Y w') := Lib.hid (fun Y hY => (HTW.out.on hY).full0 HT.out h0 kk (by omega) (by omega) (by have := HRM.out; omega) (by rw [← HND.out]; exact ones60_full c9 nd (by omega) (by omega) hfit))
          have hde : decide ((60 : Int) < (c9 : Int) + (nd : Int)) = true := decide_eq_true (by omega)
          go_wp2_with fail
          rw [← HKK.out]
          refine (HAF.out _ HCUR.out).mono ?_
          rintro e w9 ⟨rfl, hb9⟩
          have HB9 := Lib.hid ((HBR.out.on HCUR.out).on hb9)
          clear hb9 HAF
          go_wp2
          go_ret
          exact ⟨rfl, HB9.out⟩
end Go.Proofs.YtkaflgbipjppmaaDoor
