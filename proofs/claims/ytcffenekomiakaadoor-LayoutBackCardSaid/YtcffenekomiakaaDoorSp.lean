/- Words into places, and places into words: walks. -/
import Derived.Test.YtcffenekomiakaaDoorPw
import Derived.Test.YtcffenekomiakaaDoorEn
import Derived.Test.YtcffenekomiakaaDoorIr
import Derived.Shelf.Spec.TrailingZeros
namespace Go.Proofs.YtcffenekomiakaaDoor
open Go.RowKit
set_option linter.unusedVariables false
set_option linter.unusedSimpArgs false
variable {w w' : World}
/-- The table of math/bits lies in its variable. -/
def Tab (w : World) : Prop := TabAt 0 Lib.deBruijn64tab w
theorem Tab.on {w w' : World} (h : Tab w) (hb : Below w.heap.size w w') : Tab w' := fun j hj => cell_on hb (h j hj)
theorem Tab.below {n₀ : Nat} {w w' : World} (h : Tab w) (hb : Below n₀ w w') (h0 : 0 < n₀) : Tab w' := fun j hj => (hb.cell (p := ⟨0, j, none⟩) h0).trans (h j hj)
theorem Tab.lt (h : Tab w) : 0 < w.heap.size := lt_of_cell (h 0 (by decide))
set_option maxHeartbeats 1000000 in
theorem tz_core (x k idx : Nat) (hx0 : ((x : Int) == 0) = false)
    (key : IntKind.u64.wrap (Go.bits BinOp.and IntKind.u64 (x : Int) (IntKind.u64.wrap (-(x : Int))) * 285870213051353865) / 288230376151711744 = (idx : Int))
    (hi : idx < 64) (hk : k < 64) (hcell : w.cell? ⟨0, idx, none⟩ = some (.int .u8 k)) :
    Calls Tryd.prog 32 #[.int .u64 x] w fun e w' => e = .returned (.int .i64 k) ∧ w = w' := by
  go_enter Tryd.func32, Tryd.ntmps32
  go_wp2_with (simp only [key])
  go_ret
  exact ⟨rfl, rfl⟩
theorem tz_any (x : Nat) (hx : x < 18446744073709551616) (hx0 : x ≠ 0) (hT : Tab w) : Calls Tryd.prog 32 #[.int .u64 x] w fun e w' => e = .returned (.int .i64 (Lib.ctz 64 x)) ∧ w = w' := by
  obtain ⟨hlow, hk⟩ := Lib.lowest_bit 64 x hx0 hx
  obtain ⟨hi, htab⟩ := Lib.deBruijn64_at _ hk
  have hcell := hT _ hi
  rw [htab] at hcell
  exact tz_core x _ _ (by simp; omega) (tz64_key x _ hx hx0 hlow) hi hk hcell
def OwnPost (l : List Int) (w : World) (e : Ending) (W' : World) : Prop := ∃ v, e = .returned v ∧ W'.ownsRow w.heap.size 3 1 v l.length (l.flatMap encI) ∧ Below w.heap.size w W'
set_option maxRecDepth 100000 in
theorem spread_any (v : Nat) (hv : v < 18446744073709551616) (w : World) (hT : Tab w) : Calls Tryd.prog 24 #[.int .u64 v] w (OwnPost (bitsL v) w) := by
  obtain ⟨i0, hi, hz0, hz1, hz2⟩ := info_parts infoInt
  have HI := Lib.hid hi
  have HZ0 := Lib.hid hz0
  have HZ1 := Lib.hid hz1
  have HZ2 := Lib.hid hz2
  have HT := Lib.hid hT
  have h0 := hT.lt
  clear hi hz0 hz1 hz2 hT
  go_enter Tryd.func24, Tryd.ntmps24
  go_wp2
  go_loopw [0, 3] (fun v0 v3 wr => ∃ k u : Nat, k ≤ 64 ∧ v0 = .int .u64 u ∧ u < 18446744073709551616 ∧ Hid (∀ i, u.testBit i = (decide (k ≤ i) && v.testBit i)) ∧ Hid (Below w.heap.size w wr ∧ wr.ownsRow w.heap.size 3 1 v3 (bitsTo v k).length ((bitsTo v k).flatMap encI))) (fun v0 _ _ => (intOf v0).toNat)
  case atStart => exact ⟨0, v, by omega, rfl, hv, Lib.hid (fun i => by simp), Lib.hid ⟨Below.refl _ _, World.ownsRow_nil _ _ _ _⟩⟩
  case round =>
    obtain ⟨k, u, hk, rfl, hu, HB, HR⟩ := hrel
    by_cases hz : u = 0
    · subst hz
      have HE : Hid (bitsL v = bitsTo v k) := Lib.hid (by
        unfold bitsL
        refine bitsTo_skip v hk (fun i h1 h2 => ?_)
        have := HB.out i
        rw [Nat.zero_testBit, decide_eq_true h1, Bool.true_and] at this
        exact this.symm)
      have hlen := bitsTo_len v k
      go_wp2
      go_ret
      refine ⟨_, rfl, ?_, HR.out.1⟩
      rw [HE.out]
      exact HR.out.2
    · obtain ⟨l1, l2, l3, l4⟩ := low_bit u hz hu
      have HTZ := Lib.hid (tz_any u hu hz (HT.out.below HR.out.1 h0))
      generalize Lib.ctz 64 u = j at *
      have hkj : k ≤ j := by
        have := HB.out j
        rw [l1] at this
        simp at this; exact this.1
      have hvj : v.testBit j = true := by
        have := HB.out j
        rw [l1] at this
        simp at this; exact this.2
      have HS : Hid (bitsTo v (j + 1) = bitsTo v k ++ [(j : Int)]) := Lib.hid (by
        rw [bitsTo_succ, hvj, if_pos rfl, bitsTo_skip v hkj (fun i h1 h2 => ?_)]
        have := HB.out i
        rw [l2 i h2, decide_eq_true h1, Bool.true_and] at this
        exact this.symm)
      have HB2 : Hid (∀ i, (u &&& (u - 1)).testBit i = (decide (j + 1 ≤ i) && v.testBit i)) := Lib.hid (fun i => by
        rw [l4, HB.out]
        by_cases h1 : j + 1 ≤ i
        · rw [decide_eq_true h1, decide_eq_true (show k ≤ i by omega), decide_eq_true (show i ≠ j by omega)]; simp
        · rw [decide_eq_false h1]
          by_cases h2 : i = j
          · have h9 : decide (i ≠ j) = false := decide_eq_false (fun e => e h2)
            rw [h9]; simp
          · have h3 := l2 i (by omega)
            rw [HB.out] at h3
            rw [h3]; rfl)
      have hand : u &&& (u - 1) ≤ u - 1 := Nat.and_le_right
      have hu1 : ((u : Int) - 1) = ((u - 1 : Nat) : Int) := by omega
      have HAN : Hid (bits .and .u64 (u : Int) ((u - 1 : Nat) : Int) = ((u &&& (u - 1) : Nat) : Int)) := Lib.hid (by
        rw [u64_and _ _ (by omega) (by omega) (by omega) (by omega)]
        simp)
      have hzz : ((u : Int) != 0) = true := by simp; omega
      have hlen := bitsTo_len v k
      have hsz := HR.out.1.size
      generalize hbl : bitsTo v k = bl at *
      clear l1 l2 l4 hvj HB
      go_wp2_with (first | (go_at_call 32; refine HTZ.out.mono ?_; rintro e w' ⟨rfl, rfl⟩) | (at_builtin; refine wpList_append_own _ rfl _ _ 22 rfl w.heap.size 3 i0 (.int .i64 0) 1 8 Tryd.underlying22 HI.out HZ0.out HZ1.out HZ2.out rfl (by decide) _ _ _ rfl (HR.out.2.alloc _) ⟨wr.heap.size, 0, none⟩ 1 1 [.int .i64 (j : Nat)] rfl rfl (World.news_of_block (cs := #[.int .i64 (j : Nat)]) (t := 3) (fr := (0, 0)) (heap_alloc_new wr _)) (by simp [Value.oneCell']) (by unfold maxLen; omega) (by omega) (by simp; omega) ?_; intro v' w5 hown' hgrow _))
      have HR2 : Hid (Below w.heap.size w w5 ∧ w5.ownsRow w.heap.size 3 1 v' (bl ++ [(j : Int)]).length ((bl ++ [(j : Int)]).flatMap encI)) :=
        Lib.hid ⟨(HR.out.1.alloc hsz _).grown hgrow (by simp; omega) (fun k e => (HR.out.2.lt k e).1), by simpa [encI] using hown'⟩
      clear hown' hgrow
      go_roundw
      case rel => exact ⟨j + 1, u &&& (u - 1), by omega, by rw [HAN.out], by omega, HB2, Lib.hid (by rw [HS.out]; exact HR2.out)⟩
      case measure => rw [HAN.out]; simp only [intOf]; omega
set_option maxRecDepth 100000 in
theorem places_any (v : Nat) (hv : v < 18446744073709551616) (w : World) : Calls Tryd.prog 25 #[.int .u64 v] w (OwnPost (bitsL v) w) := by
  obtain ⟨i0, hi, hz0, hz1, hz2⟩ := info_parts infoInt
  have HI := Lib.hid hi
  have HZ0 := Lib.hid hz0
  have HZ1 := Lib.hid hz1
  have HZ2 := Lib.hid hz2
  clear hi hz0 hz1 hz2
  go_enter Tryd.func25, Tryd.ntmps25
  go_wp2
  go_loopw [0, 3, 4] (fun v0 v3 v4 wr => ∃ k u : Nat, k ≤ 64 ∧ v0 = .int .u64 u ∧ v4 = .int .i64 k ∧ u < 18446744073709551616 ∧ Hid (u = v / 2 ^ k) ∧ Hid (Below w.heap.size w wr ∧ wr.ownsRow w.heap.size 3 1 v3 (bitsTo v k).length ((bitsTo v k).flatMap encI))) (fun _ _ v4 _ => 64 - (intOf v4).toNat)
  case atStart => exact ⟨0, v, by omega, rfl, rfl, hv, Lib.hid (by simp), Lib.hid ⟨Below.refl _ _, World.ownsRow_nil _ _ _ _⟩⟩
  case round =>
    obtain ⟨k, u, hk, rfl, rfl, hu, HU, HR⟩ := hrel
    by_cases hlt : k < 64
    · have hs := bitsTo_succ v k
      have hbit : v.testBit k = decide (u % 2 = 1) := by rw [HU.out, Nat.testBit_eq_decide_div_mod_eq]
      have HU2 : Hid (u / 2 = v / 2 ^ (k + 1)) := Lib.hid (by rw [HU.out, Nat.div_div_eq_div_mul, Nat.pow_succ])
      have hlen := bitsTo_len v k
      have hsz := HR.out.1.size
      by_cases h1 : u % 2 = 1
      · rw [hbit, decide_eq_true h1, if_pos rfl] at hs
        have HS := Lib.hid hs
        have hr : ((u : Int) % 2 == 1) = true := by simp; omega
        generalize hbl : bitsTo v k = bl at *
        clear hs hbit h1 HU
        go_wp2_with (at_builtin; refine wpList_append_own _ rfl _ _ 22 rfl w.heap.size 3 i0 (.int .i64 0) 1 8 Tryd.underlying22 HI.out HZ0.out HZ1.out HZ2.out rfl (by decide) _ _ _ rfl (HR.out.2.alloc _) ⟨wr.heap.size, 0, none⟩ 1 1 [.int .i64 (k : Nat)] rfl rfl (World.news_of_block (cs := #[.int .i64 (k : Nat)]) (t := 3) (fr := (0, 0)) (heap_alloc_new wr _)) (by simp [Value.oneCell']) (by unfold maxLen; omega) (by omega) (by simp; omega) ?_; intro v' w5 hown' hgrow _)
        have HR2 : Hid (Below w.heap.size w w5 ∧ w5.ownsRow w.heap.size 3 1 v' (bl ++ [(k : Int)]).length ((bl ++ [(k : Int)]).flatMap encI)) :=
          Lib.hid ⟨(HR.out.1.alloc hsz _).grown hgrow (by simp; omega) (fun k e => (HR.out.2.lt k e).1), by simpa [encI] using hown'⟩
        clear hown' hgrow
        go_roundw
        case rel => exact ⟨k + 1, u / 2, by omega, by go_num, by go_num, by omega, HU2, Lib.hid (by rw [HS.out]; exact HR2.out)⟩
        case measure => simp [intOf]; omega
      · rw [hbit, decide_eq_false h1, if_neg (by decide), List.append_nil] at hs
        have HS := Lib.hid hs
        have hr : ((u : Int) % 2 == 1) = false := by simp; omega
        clear hs hbit h1 HU
        go_wp2
        go_roundw
        case rel => exact ⟨k + 1, u / 2, by omega, by go_num, by go_num, by omega, HU2, Lib.hid (by rw [HS.out]; exact HR.out)⟩
        case measure => simp [intOf]; omega
    · obtain rfl : k = 64 := by omega
      have hlen := bitsTo_len v 64
      go_wp2
      go_ret
      exact ⟨_, rfl, HR.out.2, HR.out.1⟩
set_option maxRecDepth 100000 in
theorem word_any (A : Option Addr) (l : List Int) (c : Nat) (w : World) (hl : SliceOf w A 1 encI 0 l) (hc : l.length ≤ maxLen) :
    Calls Tryd.prog 22 #[.slice A l.length c] w fun e w' => e = .returned (.int .u64 (wordUp l 64 : Nat)) ∧ Below w.heap.size w w' := by
  have HH : Hid (∀ W p, Below w.heap.size w W → Calls Tryd.prog 30 #[.slice A l.length c, .int .i64 p] W fun e w' => e = .returned (.bool (decide (p ∈ l))) ∧ Below W.heap.size W w') := Lib.hid (fun W p hW => has_any A l c p W (hl.on hW) hc)
  clear hl hc
  go_enter Tryd.func22, Tryd.ntmps22
  go_wp2
  go_loopw [3, 4] (fun v3 v4 wr => ∃ d u : Nat, d ≤ 64 ∧ v3 = .int .u64 u ∧ v4 = .int .i64 (63 - (d : Int)) ∧ u < 2 ^ d ∧ Hid (u = wordUp l d) ∧ Hid (Below w.heap.size w wr)) (fun _ v4 _ => (intOf v4 + 1).toNat)
  case atStart => exact ⟨0, 0, by omega, rfl, rfl, by decide, Lib.hid rfl, Lib.hid (Below.refl _ _)⟩
  case round =>
    obtain ⟨d, u, hd, rfl, rfl, hu, HU, HB⟩ := hrel
    by_cases hlt : d < 64
    · have hd0 : decide ((0 : Int) ≤ 63 - (d : Int)) = true := decide_eq_true (by omega)
      have hu2 : u < 9223372036854775808 := Nat.lt_of_lt_of_le hu (show 2 ^ d ≤ 2 ^ 63 from Nat.pow_le_pow_right (by decide) (by omega))
      have hpw : 2 ^ (d + 1) = 2 ^ d * 2 := Nat.pow_succ ..
      have HS : Hid (wordUp l (d + 1) = 2 * u + (if (63 - (d : Int)) ∈ l then 1 else 0)) := Lib.hid (by
        rw [wordUp, HU.out, show ((63 - d : Nat) : Int) = 63 - (d : Int) by omega])
      generalize hpd : 2 ^ d = pd at *
      generalize hpd2 : 2 ^ (d + 1) = pd2 at *
      have HPD := Lib.hid hpd2
      clear hpd hpd2
      go_wp2_with fail
      refine (HH.out _ _ HB.out).mono ?_
      rintro e w2 ⟨rfl, hb⟩
      have HB2 := Lib.hid (HB.out.on hb)
      clear hb HB
      by_cases hm : (63 - (d : Int)) ∈ l
      · have hs := HS.out
        rw [if_pos hm] at hs
        have HS2 := Lib.hid hs
        rw [decide_eq_true hm]
        clear hs HS hm
        go_wp2
        go_roundw
        case rel => exact ⟨d + 1, 2 * u + 1, by omega, by go_num, by go_num, by rw [HPD.out]; omega, Lib.hid HS2.out.symm, HB2⟩
        case measure => simp [intOf]; omega
      · have hs := HS.out
        rw [if_neg hm, Nat.add_zero] at hs
        have HS2 := Lib.hid hs
        rw [decide_eq_false hm]
        clear hs HS hm
        go_wp2
        go_roundw
        case rel => exact ⟨d + 1, 2 * u, by omega, by go_num, by go_num, by rw [HPD.out]; omega, Lib.hid HS2.out.symm, HB2⟩
        case measure => simp [intOf]; omega
    · obtain rfl : d = 64 := by omega
      go_wp2
      go_ret
      exact ⟨by rw [HU.out]; rfl, HB.out⟩
end Go.Proofs.YtcffenekomiakaaDoor
