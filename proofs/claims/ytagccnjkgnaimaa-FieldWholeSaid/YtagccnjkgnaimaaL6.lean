/- FieldBack: the walk. -/
import Derived.Test.YtagccnjkgnaimaaL5
import Derived.Test.YtagccnjkgnaimaaE3
namespace Go.Proofs.Ytagccnjkgnaimaa
open Go.RowKit Go.Proofs.YtagccnjkgnaimaaW.PrintWords
set_option linter.unusedVariables false
theorem pack_back (x : Nat) (hx : x < 18446744073709551616) : ∀ (l : List (Int × Int)) (m : Nat), m < 18446744073709551616 → (∀ f ∈ l, rightB f.1 f.2 = true) →
    ∃ v : Nat, v < 18446744073709551616 ∧ packGo m l (l.map fun f => getI x f.1 f.2) = ((v : Int), 0) ∧ ∀ i : Nat, v.testBit i = if 0 < cnt i l then x.testBit i else m.testBit i
  | [], m, hm, _ => ⟨m, hm, rfl, fun i => by simp [cnt]⟩
  | (a, n) :: t, m, hm, hr => by
    have h0 := hr (a, n) (by simp)
    obtain ⟨g0, g1, g2, g3⟩ := rightB_iff.1 h0
    simp only at g0 g1 g2 g3
    obtain ⟨n, rfl⟩ := Int.eq_ofNat_of_zero_le (Int.le_of_lt g2)
    obtain ⟨a, rfl⟩ := Int.eq_ofNat_of_zero_le g0
    have hlt := getN_lt x a n
    have h64 : getN x a n < 18446744073709551616 := Nat.lt_of_lt_of_le hlt (Nat.pow_le_pow_right (by decide) (by omega) : 2 ^ n ≤ 2 ^ 64)
    have hg := getI_nat x a n hx (by omega) (by omega)
    have hp := putN_lt m a n (getN x a n) (by omega) hlt hm
    have hb := fun i => putN_bit m a n (getN x a n) i (by omega) hlt hm
    have hpi := putI_nat m a n (getN x a n) hm (by omega) (by omega) hlt
    have hle := (len64_le (getN x a n) n h64 (by omega)).2 hlt
    have hgb := fun i => getN_bit x a n i
    generalize getN x a n = y at *
    generalize putN m a n y = p at *
    obtain ⟨v, hv, hgo, hbit⟩ := pack_back x hx t p hp (fun f hf => hr f (by simp [hf]))
    refine ⟨v, hv, ?_, fun i => ?_⟩
    · simp only [List.map_cons, packGo, hg]
      rw [if_neg (by omega), hpi]
      exact hgo
    · have hcnt : cnt i (((a : Int), (n : Int)) :: t) = (if (a : Int) ≤ i ∧ (i : Int) < a + n then 1 else 0) + cnt i t := rfl
      rw [hbit, hb]
      generalize cnt i (((a : Int), (n : Int)) :: t) = q at *
      generalize cnt i t = r at *
      by_cases hc : 0 < r
      · rw [if_pos hc, if_pos (by omega)]
      · rw [if_neg hc]
        by_cases hin : a ≤ i ∧ i < a + n
        · rw [if_pos (by omega)] at hcnt
          rw [if_pos hin, if_pos (by omega), hgb, show a + (i - a) = i by omega]
          simp; omega
        · rw [if_neg (by omega)] at hcnt
          rw [if_neg hin, if_neg (by omega)]
theorem cnt_mem : ∀ (l : List (Int × Int)) (a n b : Int), (a, n) ∈ l → a ≤ b → b < a + n → 0 < cnt b l
  | (a', n') :: t, a, n, b, h, h1, h2 => by
    simp only [cnt]
    rcases List.mem_cons.1 h with e | e
    · cases e; rw [if_pos ⟨h1, h2⟩]; omega
    · have := cnt_mem t a n b e h1 h2; omega
theorem andNot_zero (v x : Nat) (hv : v < 18446744073709551616) (hx : x < 18446744073709551616) (h : ∀ i, v.testBit i = true → x.testBit i = true) : bits .andNot .u64 (v : Int) (x : Int) = 0 := by
  rw [u64_andNot _ _ (by omega) (by omega) (by omega) (by omega)]
  simp only [Int.toNat_natCast]
  have : v &&& (18446744073709551615 - x) = 0 := by
    rw [and_zero_iff]
    intro i
    rw [show 18446744073709551615 - x = 2 ^ 64 - (x + 1) by omega, Nat.testBit_two_pow_sub_succ hx]
    cases hvi : v.testBit i
    · simp
    · simp [h i hvi]
  rw [this]; rfl
/-- What is packed of what was unpacked: the bits of the word that some field has. -/
theorem back_law (x : Int) (l : List (Int × Int)) (hx0 : 0 ≤ x) (hx1 : x < 18446744073709551616) (ha : apGo 0 l = true) :
    ∃ v : Int, 0 ≤ v ∧ v < 18446744073709551616 ∧ packI l (unpackI x l).1 = (v, 0) ∧ (unpackI v l) = (unpackI x l) ∧ bits .andNot .u64 v x = 0 ∧ ((∀ i : Nat, i < 64 → 0 < cnt i l) → v = x) := by
  obtain ⟨x, rfl⟩ := Int.eq_ofNat_of_zero_le hx0
  have hr := ((apGo_iff l 0 (by decide)).1 ha).1
  obtain ⟨v, hv, hgo, hbit⟩ := pack_back x (by omega) l 0 (by omega) hr
  have hu : unpackI x l = (l.map (fun f => getI x f.1 f.2), 0) := by unfold unpackI; rw [if_pos ha]
  have hu2 : unpackI v l = (l.map (fun f => getI v f.1 f.2), 0) := by unfold unpackI; rw [if_pos ha]
  refine ⟨v, by omega, by omega, ?_, ?_, ?_, ?_⟩
  · rw [hu]
    unfold packI
    rw [if_pos (by simp), if_pos ha]
    exact hgo
  · rw [hu, hu2]
    congr 1
    apply List.map_congr_left
    intro f hf
    obtain ⟨a, n⟩ := f
    have h0 := hr _ hf
    obtain ⟨g0, g1, g2, g3⟩ := rightB_iff.1 h0
    simp only at g0 g1 g2 g3 ⊢
    obtain ⟨n, rfl⟩ := Int.eq_ofNat_of_zero_le (Int.le_of_lt g2)
    obtain ⟨a, rfl⟩ := Int.eq_ofNat_of_zero_le g0
    rw [getI_nat v a n hv (by omega) (by omega), getI_nat x a n (by omega) (by omega) (by omega)]
    congr 1
    apply Nat.eq_of_testBit_eq
    intro i
    rw [getN_bit, getN_bit, hbit]
    by_cases hi : i < n
    · rw [if_pos (cnt_mem l a n ((a + i : Nat) : Int) hf (by omega) (by omega))]
    · simp [hi]
  · apply andNot_zero v x hv (by omega)
    intro i hi
    rw [hbit] at hi
    split at hi
    · exact hi
    · simp at hi
  · intro hall
    congr 1
    apply Nat.eq_of_testBit_eq
    intro i
    rw [hbit]
    by_cases hi : i < 64
    · rw [if_pos (hall i hi)]
    · have x0 : x.testBit i = false := Nat.testBit_lt_two_pow (Nat.lt_of_lt_of_le (by omega : x < 2 ^ 64) (Nat.pow_le_pow_right (by decide) (by omega)))
      rw [x0]; simp
theorem unpack_in (x : Int) (l : List (Int × Int)) (hx0 : 0 ≤ x) (hx1 : x < 18446744073709551616) (ha : apGo 0 l = true) : U64 (unpackI x l).1 := by
  obtain ⟨x, rfl⟩ := Int.eq_ofNat_of_zero_le hx0
  have hr := ((apGo_iff l 0 (by decide)).1 ha).1
  unfold unpackI
  rw [if_pos ha]
  intro y hy
  obtain ⟨⟨a, n⟩, hf, rfl⟩ := List.mem_map.1 hy
  obtain ⟨g0, g1, g2, g3⟩ := rightB_iff.1 (hr _ hf)
  simp only at g0 g1 g2 g3 ⊢
  obtain ⟨n, rfl⟩ := Int.eq_ofNat_of_zero_le (Int.le_of_lt g2)
  obtain ⟨a, rfl⟩ := Int.eq_ofNat_of_zero_le g0
  rw [getI_nat x a n (by omega) (by omega) (by omega)]
  have := getN_lt x a n
  have := Nat.lt_of_lt_of_le this (Nat.pow_le_pow_right (by decide) (by omega) : 2 ^ n ≤ 2 ^ 64)
  omega
set_option maxHeartbeats 1000000 in
theorem back_walk (x : Int) (A : Option Addr) (c : Nat) (l : List (Int × Int)) (w : World) (hx0 : 0 ≤ x) (hx1 : x < 18446744073709551616) (hl : SliceOf w A 2 enc2 (0, 0) l) (hc : l.length ≤ c) (hm : l.length ≤ maxLen) :
    Calls Try.prog 8 #[.int .u64 x, .slice A l.length c] w fun e w' => e = .returned (.bool true) ∧ Below w.heap.size w w' := by
  unfold maxLen at hm
  have HL := Lib.hid (hl.take 64)
  clear hl
  go_enter Try.func8, Try.ntmps8
  go_wp2_with fail
  have hlen : (min (l.length : Int) 64).toNat = (l.take 64).length := by rw [List.length_take]; omega
  have h70 : (l.take 64).length ≤ 64 := by rw [List.length_take]; omega
  have hlc : (l.take 64).length ≤ c := by rw [List.length_take]; omega
  rw [hlen]
  clear hlen
  generalize l.take 64 = l' at HL h70 hlc ⊢
  have hmx : l'.length ≤ maxLen := by unfold maxLen; omega
  refine (unpack_any x A c l' _ HL.out (by omega) hlc).mono ?_
  rintro e w1 ⟨A1, c1, rfl, hc1, hC1, hbx⟩
  have B1 := hbx
  replace HL := Lib.hid (HL.out.on hbx)
  have HC1 := Lib.hid hC1
  clear hC1 hbx
  go_wp2_with fail
  refine (apart_any A l' c _ HL.out.fl hmx).mono ?_
  rintro e w2 ⟨rfl, hbx⟩
  replace B1 := B1.on hbx
  replace HL := Lib.hid (HL.out.on hbx)
  replace HC1 := Lib.hid (Kd.C_below HC1.out hbx)
  clear hbx
  by_cases ha : apGo 0 l' = true
  · obtain ⟨v, hv0, hv1, hp, hu2, hand, _⟩ := back_law x l' hx0 hx1 ha
    have HLU := Lib.hid (show (unpackI x l').1.length = l'.length by unfold unpackI; rw [if_pos ha]; simp)
    have h2u : (unpackI x l').2 = 0 := by unfold unpackI; rw [if_pos ha]
    have HU := Lib.hid (unpack_in x l' hx0 hx1 ha)
    have HP := Lib.hid hp
    have HU2 := Lib.hid hu2
    have hand' : (bits .andNot .u64 v x != 0) = false := by simp [hand]
    have H2U := Lib.hid h2u
    rw [ha, h2u]
    clear ha h2u hp hu2 hand
    go_wp2_with fail
    refine (pack_any A A1 l' (unpackI x l').1 c c1 _ HL.out.fl (slice_of_C HC1.out).u HU.out hmx).mono ?_
    rintro e w3 ⟨rfl, hbx⟩
    replace B1 := B1.on hbx
    replace HL := Lib.hid (HL.out.on hbx)
    replace HC1 := Lib.hid (Kd.C_below HC1.out hbx)
    clear hbx
    rw [HP.out]
    go_wp2_with fail
    have hua := unpack_any v A c l' w3 HL.out (by omega) hlc
    unfold UnpackPost at hua
    rw [HU2.out] at hua
    refine hua.mono ?_
    clear hua
    rintro e w4 ⟨A2, c2, rfl, hc2, hC2, hbx⟩
    replace B1 := B1.on hbx
    replace HC1 := Lib.hid (Kd.C_below HC1.out hbx)
    have HC2 := Lib.hid hC2
    clear hC2 hbx HL
    rw [H2U.out, HLU.out]
    rw [HLU.out] at hc1 hc2
    generalize (unpackI x l').1 = xs at *
    have HD1 := Lib.hid (slice_of_C HC1.out)
    have HD2 := Lib.hid (slice_of_C HC2.out)
    clear HC1 HC2
    have hnn : ((l'.length : Int) != (l'.length : Int)) = false := by simp
    go_wp2_with fail
    go_loopw [80] (fun v80 wr => ∃ (k : Nat), k ≤ l'.length ∧ v80 = .int .i64 k ∧ Below w4.heap.size w4 wr) (fun v80 _ => l'.length - (intOf v80).toNat)
    case atStart => exact ⟨0, by omega, rfl, Below.refl _ _⟩
    case round =>
      obtain ⟨k, hk, rfl, hb⟩ := hrel
      by_cases hlt : k < l'.length
      · obtain ⟨b1, o1, rfl, e1⟩ := at_one HD1.out k (by rw [HLU.out]; exact hlt)
        obtain ⟨b2, o2, rfl, e2⟩ := at_one HD2.out k (by rw [HLU.out]; exact hlt)
        replace e1 := cell_on hb e1
        replace e2 := cell_on hb e2
        generalize xs.getD k 0 = y at e1 e2
        go_wp2_with fail
        go_quiet (fail)
        go_wp2
        go_roundw
        case rel => exact ⟨k + 1, by omega, by go_num, below_drewN hb _⟩
        case measure => simp [intOf]; omega
      · obtain rfl : k = l'.length := by omega
        replace B1 := B1.on hb
        go_wp2_with (first | (go_at_call 18; refine (alive_any _).mono ?_; rintro e w1 ⟨rfl, hbx⟩; replace B1 := B1.on hbx; clear hbx))
        go_ret
        exact ⟨rfl, B1⟩
  · have hu : unpackI x l' = ([], 2) := by unfold unpackI; rw [if_neg ha]
    rw [Bool.eq_false_iff.2 ha, hu]
    clear ha hu
    go_wp2_with (first | (go_at_call 18; refine (alive_any _).mono ?_; rintro e w1 ⟨rfl, hbx⟩; replace B1 := B1.on hbx; clear hbx))
    go_ret
    exact ⟨rfl, B1⟩
end Go.Proofs.Ytagccnjkgnaimaa
