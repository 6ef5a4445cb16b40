/- FieldPacks: the walk. -/
import Derived.Test.YtagccnjkgnaimaaL1
import Derived.Test.YtagccnjkgnaimaaE2
namespace Go.Proofs.Ytagccnjkgnaimaa
open Go.RowKit Go.Proofs.YtagccnjkgnaimaaW.PrintWords
set_option linter.unusedVariables false
def enc1 (k : IntKind) (x : Int) : List Value := [.int k x]
theorem slice_of_C {k : IntKind} {w : World} {A : Option Addr} {l : List Int} (h : (Kd.int k).C w A l.length l) : SliceOf w A 1 (enc1 k) 0 l := fun i hi => by
  obtain ⟨ad0, e0, c0⟩ := Kd.at_int h 0 (by omega) (by omega)
  obtain ⟨ad, e, c⟩ := Kd.at_int h i (by omega) (by omega)
  rw [e0] at e
  cases e
  have hspot : ad0.spot = none := by simpa [Addr.add] using World.cell?_spot c0
  obtain ⟨b, o, spot⟩ := ad0
  simp only at hspot
  subst hspot
  refine ⟨b, o, e0, fun j v hv => ?_⟩
  cases j with
  | succ j => simp [enc1] at hv
  | zero =>
    simp [enc1] at hv
    subst hv
    have hadd : (⟨b, o, none⟩ : Addr).add (i : Int).toNat = ⟨b, o + i * 1 + 0, none⟩ := by rw [Int.toNat_natCast]; unfold Addr.add; split <;> simp_all
    rw [hadd] at c
    rw [c]; simp [rd]
theorem SliceOf.u {w : World} {A : Option Addr} {l : List Int} (h : SliceOf w A 1 (enc1 .u64) 0 l) : IsU w A l := fun i hi => by
  obtain ⟨b, o, e, h1⟩ := h i hi
  refine ⟨b, o, e, ?_⟩
  have := h1 0 _ rfl
  simpa using this
theorem IsU.on {w w1 : World} {A : Option Addr} {l : List Int} (h : IsU w A l) (hb : Below w.heap.size w w1) : IsU w1 A l := fun i hi => by
  obtain ⟨b, o, e, h1⟩ := h i hi
  exact ⟨b, o, e, cell_on hb h1⟩
theorem at_one {k : IntKind} {w : World} {A : Option Addr} {l : List Int} (h : SliceOf w A 1 (enc1 k) 0 l) (i : Nat) (hi : i < l.length) : ∃ b o, A = some ⟨b, o, none⟩ ∧ w.cell? ⟨b, o + i, none⟩ = some (.int k (l.getD i 0)) := by
  obtain ⟨b, o, e, h1⟩ := h i hi
  refine ⟨b, o, e, ?_⟩
  have := h1 0 _ rfl
  simpa using this
theorem pack_any (A X : Option Addr) (l : List (Int × Int)) (x : List Int) (c c' : Nat) (w : World) (hl : IsFl w A l) (hx : IsU w X x) (hu : U64 x) (hc : l.length ≤ maxLen) :
    Calls Try.prog 22 #[.slice A l.length c, .slice X x.length c'] w fun e w' => e = .returned (.tuple #[.int .u64 (packI l x).1, .int .i64 (packI l x).2]) ∧ Below w.heap.size w w' := by
  by_cases he : l.length = x.length
  · by_cases ha : apGo 0 l = true
    · exact pack_ok A X l x c c' w hl hx hu hc he ha
    · exact pack_none A X l x c c' w hl hc (.inr (by simpa using ha))
  · exact pack_none A X l x c c' w hl hc (.inl he)
theorem putI_in (w a n x : Int) (hw0 : 0 ≤ w) (hw1 : w < 18446744073709551616) (hr : rightB a n = true) (hx0 : 0 ≤ x) (hx1 : x < 18446744073709551616) (hl : len64 x ≤ n) : 0 ≤ putI w a n x ∧ putI w a n x < 18446744073709551616 := by
  obtain ⟨g0, g1, g2, g3⟩ := rightB_iff.1 hr
  obtain ⟨n, rfl⟩ := Int.eq_ofNat_of_zero_le (Int.le_of_lt g2)
  obtain ⟨a, rfl⟩ := Int.eq_ofNat_of_zero_le g0
  obtain ⟨w, rfl⟩ := Int.eq_ofNat_of_zero_le hw0
  obtain ⟨x, rfl⟩ := Int.eq_ofNat_of_zero_le hx0
  have hlt := (len64_le x n (by omega) (by omega)).1 hl
  rw [putI_nat w a n x (by omega) (by omega) (by omega) hlt]
  have := putN_lt w a n x (by omega) hlt (by omega)
  omega
set_option maxHeartbeats 1000000 in
theorem packs_walk (A X : Option Addr) (c c' : Nat) (l : List (Int × Int)) (x : List Int) (w : World) (hl : SliceOf w A 2 enc2 (0, 0) l) (hx : SliceOf w X 1 (enc1 .u64) 0 x) (hu : U64 x) (hc : l.length ≤ c) (hc' : x.length ≤ c') (hm : l.length ≤ maxLen) (hm' : x.length ≤ maxLen) :
    Calls Try.prog 4 #[.slice A l.length c, .slice X x.length c'] w fun e w' => e = .returned (.bool true) ∧ Below w.heap.size w w' := by
  unfold maxLen at hm hm'
  have HL := Lib.hid (hl.take 70)
  have HX := Lib.hid (hx.take 70)
  have hu' : U64 (x.take 70) := fun y hy => hu y (List.mem_of_mem_take hy)
  have HU := Lib.hid hu'
  clear hl hx hu hu'
  go_enter Try.func4, Try.ntmps4
  go_wp2_with fail
  go_quiet (fail)
  go_wp2_with fail
  have hlen : (min (l.length : Int) 70).toNat = (l.take 70).length := by rw [List.length_take]; omega
  have h70 : (l.take 70).length ≤ 70 := by rw [List.length_take]; omega
  have hlc : (l.take 70).length ≤ c := by rw [List.length_take]; omega
  have hlen' : (min (x.length : Int) 70).toNat = (x.take 70).length := by rw [List.length_take]; omega
  have h70' : (x.take 70).length ≤ 70 := by rw [List.length_take]; omega
  rw [hlen, hlen']
  clear hlen hlen'
  generalize l.take 70 = l' at HL h70 hlc ⊢
  generalize x.take 70 = x' at HX HU h70' ⊢
  have hmx : l'.length ≤ maxLen := by unfold maxLen; omega
  replace HL := Lib.hid (HL.out.on (below_drewN (Below.refl _ w) nq))
  replace HX := Lib.hid (HX.out.on (below_drewN (Below.refl _ w) nq))
  refine (parts_any A c l' _ HL.out h70 hlc).mono ?_
  rintro e w1 ⟨A1, c1, A2, c2, rfl, hc1, hc2, hC1, hC2, hbx⟩
  have B1 : Below w.heap.size w w1 := (below_drewN (Below.refl _ w) nq).on hbx
  have HF := Lib.hid (HL.out.on hbx).fl
  have HXU := Lib.hid (HX.out.on hbx).u
  have HC1 := Lib.hid hC1
  have HC2 := Lib.hid hC2
  clear hC1 hC2 hbx HL HX
  go_wp2_with fail
  refine (pack_any A X l' x' c c' _ HF.out HXU.out HU.out hmx).mono ?_
  rintro e w2 ⟨rfl, hbx⟩
  replace B1 := B1.on hbx
  replace HF := Lib.hid (HF.out.on hbx)
  replace HXU := Lib.hid (HXU.out.on hbx)
  replace HC1 := Lib.hid (Kd.C_below HC1.out hbx)
  replace HC2 := Lib.hid (Kd.C_below HC2.out hbx)
  clear hbx
  go_wp2_with fail
  refine (refapart_any A1 A2 c1 c2 l' _ h70 HC1.out HC2.out hc1 hc2).mono ?_
  rintro e w3 ⟨rfl, hbx⟩
  replace B1 := B1.on hbx
  replace HXU := Lib.hid (HXU.out.on hbx)
  replace HC1 := Lib.hid (Kd.C_below HC1.out hbx)
  replace HC2 := Lib.hid (Kd.C_below HC2.out hbx)
  clear hbx HF
  by_cases ha : apGo 0 l' = true
  · rw [ha]
    by_cases he : l'.length = x'.length
    · have hne : ((l'.length : Int) != (x'.length : Int)) = false := by simp [he]
      have HE := Lib.hid he
      have HP := Lib.hid (show packI l' x' = packGo 0 l' x' by simp [packI, he, ha])
      have HR := Lib.hid (apGo_right l' 0 ha)
      clear he ha
      generalize packI l' x' = p at HP ⊢
      obtain ⟨pw, pe⟩ := p
      have HW := Lib.hid (slice_of_C (l := l'.map (·.2)) (by simpa using HC2.out))
      have HV := Lib.hid (slice_of_C (l := l'.map (·.1)) (by simpa using HC1.out))
      clear HC1 HC2
      go_wp2_with fail
      go_loopw [9, 54] (fun v9 v54 wr => ∃ (m : Int) (k : Nat), k ≤ l'.length ∧ v9 = .int .u64 m ∧ v54 = .int .i64 k ∧ Hid (packGo m (l'.drop k) (x'.drop k) = (pw, pe)) ∧ 0 ≤ m ∧ m < 18446744073709551616 ∧ Below w3.heap.size w3 wr) (fun _ v54 _ => l'.length - (intOf v54).toNat)
      case atStart => exact ⟨0, 0, by omega, rfl, rfl, Lib.hid (by simpa using HP.out.symm), by omega, by omega, Below.refl _ _⟩
      case round =>
        obtain ⟨m, k, hk, rfl, rfl, HG, hm0, hm1, hb⟩ := hrel
        by_cases hlt : k < l'.length
        · have hltx : k < x'.length := by rw [← HE.out]; exact hlt
          obtain ⟨bx, ox, rfl, cx⟩ := HXU.out k hltx
          obtain ⟨bw, ow, rfl, cw⟩ := at_one HW.out k (by simpa using hlt)
          obtain ⟨bv, ov, rfl, cv⟩ := at_one HV.out k (by simpa using hlt)
          have hr := HR.out k hlt
          have hu := HU.out (x'.getD k 0) (by simp [List.getD, hltx])
          have h1 := drop_at l' k (0, 0) hlt
          have h2 := drop_at x' k 0 hltx
          have e1 : (l'.map (·.1)).getD k 0 = (l'.getD k (0, 0)).1 := by simp [List.getD, hlt]
          have e2 : (l'.map (·.2)).getD k 0 = (l'.getD k (0, 0)).2 := by simp [List.getD, hlt]
          rw [e1] at cv
          rw [e2] at cw
          clear e1 e2
          replace cx := cell_on hb cx
          replace cw := cell_on hb cw
          replace cv := cell_on hb cv
          generalize l'.getD k (0, 0) = f at h1 cw cv hr
          generalize x'.getD k 0 = y at h2 cx hu
          obtain ⟨fa, fn⟩ := f
          obtain ⟨hu0, hu1⟩ := hu
          simp only at cw cv
          have HG := HG.out
          rw [h1, h2] at HG
          simp only [packGo] at HG
          clear h1 h2
          obtain ⟨g0, g1, g2, g3⟩ := rightB_iff.1 hr
          simp only at g0 g1 g2 g3
          have HRR := Lib.hid hr
          clear hr
          by_cases hw : fn < len64 y
          · rw [if_pos hw] at HG
            cases HG
            have hd : decide (len64 y ≤ fn) = false := by simp; omega
            go_wp2_with fail
            go_region_held3 (fun wk => (wk.cell? ⟨bx, ox + k, none⟩ = some (.int .u64 y) ∧ wk.cell? ⟨bw, ow + k, none⟩ = some (.int .i64 fn)) ∧ Below w3.heap.size w3 wk) (first | exact kp2_drew ⟨⟨cx, cw⟩, hb⟩ | exact kp2_call (by assumption) (by assumption)) (first | (go_at_call 19; refine (fits_int y fn hu0 hu1 (by omega) (by omega) _).mono ?_; rintro e w4 ⟨rfl, hb4⟩))
            have B2 := (by assumption : _ ∧ Below w3.heap.size w3 _).2
            go_wp2_with (go_at_call 18; refine (alive_any _).mono ?_; rintro e w5 ⟨rfl, hb5⟩; replace B2 := B2.on hb5)
            go_ret
            exact ⟨rfl, B1.on B2⟩
          · rw [if_neg hw] at HG
            replace HG := Lib.hid HG
            have hw' : len64 y ≤ fn := by omega
            have hd : decide (len64 y ≤ fn) = true := by simp; omega
            clear hw
            go_wp2_with fail
            go_region_held3 (fun wk => (wk.cell? ⟨bx, ox + k, none⟩ = some (.int .u64 y) ∧ wk.cell? ⟨bw, ow + k, none⟩ = some (.int .i64 fn) ∧ wk.cell? ⟨bv, ov + k, none⟩ = some (.int .i64 fa)) ∧ Below w3.heap.size w3 wk) (first | exact kp3_drew ⟨⟨cx, cw, cv⟩, hb⟩ | exact kp3_call (by assumption) (by assumption)) (first | (go_at_call 19; refine (fits_int y fn hu0 hu1 (by omega) (by omega) _).mono ?_; rintro e w4 ⟨rfl, hb4⟩))
            go_wp2_with fail
            have hh : (w4.cell? ⟨bx, ox + k, none⟩ = some (.int .u64 y) ∧ w4.cell? ⟨bw, ow + k, none⟩ = some (.int .i64 fn) ∧ w4.cell? ⟨bv, ov + k, none⟩ = some (.int .i64 fa)) ∧ Below w3.heap.size w3 w4 := by assumption
            have hp := putI_in m fa fn y hm0 hm1 HRR.out hu0 hu1 hw'
            go_region_held3 (fun wk => (wk.cell? ⟨bx, ox + k, none⟩ = some (.int .u64 y) ∧ wk.cell? ⟨bw, ow + k, none⟩ = some (.int .i64 fn) ∧ wk.cell? ⟨bv, ov + k, none⟩ = some (.int .i64 fa)) ∧ Below w3.heap.size w3 wk) (first | exact kp3_drew hh | exact kp3_call (by assumption) (by assumption)) (first | (go_at_call 20; refine (refput_int m fa fn y hm0 hm1 hu0 HRR.out hw' hu1 _).mono ?_; rintro e w5 ⟨rfl, hb5⟩))
            have B5 := (by assumption : _ ∧ Below w3.heap.size w3 w5).2
            go_wp2
            go_roundw
            case rel => exact ⟨_, k + 1, by omega, rfl, by go_num, HG, hp.1, hp.2, B5⟩
            case measure => simp [intOf]; omega
        · obtain rfl : k = l'.length := by omega
          have := HG.out
          rw [List.drop_length] at this
          cases this
          replace B1 := B1.on hb
          go_wp2_with (first | (go_at_call 18; refine (alive_any _).mono ?_; rintro e w1 ⟨rfl, hbx⟩; replace B1 := B1.on hbx; clear hbx))
          go_ret
          exact ⟨rfl, B1⟩
    · have hne : ((l'.length : Int) != (x'.length : Int)) = true := by simp; omega
      have hp : packI l' x' = (0, 2) := by simp [packI, he]
      rw [hp]
      clear hp ha he
      go_wp2_with (first | (go_at_call 18; refine (alive_any _).mono ?_; rintro e w1 ⟨rfl, hbx⟩; replace B1 := B1.on hbx; clear hbx))
      go_ret
      exact ⟨rfl, B1⟩
  · have hp : packI l' x' = (0, 2) := by simp [packI, ha]
    rw [Bool.eq_false_iff.2 ha, hp]
    clear hp ha
    go_wp2_with (first | (go_at_call 18; refine (alive_any _).mono ?_; rintro e w1 ⟨rfl, hbx⟩; replace B1 := B1.on hbx; clear hbx))
    go_ret
    exact ⟨rfl, B1⟩
end Go.Proofs.Ytagccnjkgnaimaa
