/- BitmapAll: a walk. -/
import Derived.Test.YtbdpbkblihaeiaaDoorF1
namespace Go.Proofs.YtbdpbkblihaeiaaDoor
open Go.RowKit
set_option linter.unusedVariables false
set_option linter.unusedSimpArgs false
variable {w w' : World} {p q g : Nat} {bits : List Bool} {ws : List Nat} {T T' : TypeId}
theorem Grown.all {base : World} (h : Grown base w p q g bits) (hT : Tab base) (h0 : 0 < base.heap.size) : Calls Tryd.prog 23 #[.pointer (some ⟨p, 0, none⟩)] w fun e w' => ∃ v, e = .returned v ∧ Ints w' v (ones bits) ∧ Grown base w' p q g bits := by
  obtain ⟨ws, hm⟩ := h.map
  refine (all_any hm (hT.below h.below h0)).mono fun e w' ⟨v, he, hr, _, hb⟩ => ⟨v, he, ints_of_own hr ?_, h.on hb⟩
  have := onesTo_le (bits := bits) bits.length
  have := hm.le
  unfold ones; omega
theorem Grown.count {base : World} (h : Grown base w p q g bits) : Calls Tryd.prog 22 #[.pointer (some ⟨p, 0, none⟩)] w fun e w' => e = .returned (.int .i64 (many bits)) ∧ w = w' := by
  obtain ⟨ws, hm⟩ := h.map
  exact count_any hm
/-- There are as many as the count. -/
theorem onesTo_take (bits : List Bool) : ∀ k, k ≤ bits.length → (onesTo bits k).length = (bits.take k).count true
  | 0, _ => by simp [onesTo]
  | k + 1, h => by
    have ih := onesTo_take bits k (by omega)
    have hb : bits.getD k false = bits[k] := by simp [List.getD, show k < bits.length by omega]
    rw [onesTo_succ, List.take_succ_eq_append_getElem (by omega), List.count_append, ← ih, ← hb]
    cases bits.getD k false <;> simp
theorem ones_len (bits : List Bool) : (ones bits).length = many bits := by
  unfold ones many
  rw [onesTo_take bits _ (Nat.le_refl _), List.take_length]
theorem ones_mem (i : Nat) : i ∈ ones bits ↔ i < bits.length ∧ bits.getD i false = true := by
  simp [ones, onesTo, - List.getD_eq_getElem?_getD]
theorem onesTo_sorted (k : Nat) : (onesTo bits k).Pairwise (· < ·) := by
  unfold onesTo
  exact List.Pairwise.filter _ List.pairwise_lt_range
theorem ones_at {i : Nat} (hi : i < (ones bits).length) : (ones bits).getD i 0 < bits.length ∧ bits.getD ((ones bits).getD i 0) false = true := by
  have e : (ones bits).getD i 0 = (ones bits)[i] := by simp [List.getD, hi]
  rw [e]
  exact (ones_mem _).1 (List.getElem_mem hi)
theorem ones_rise {i : Nat} (hi : i + 1 < (ones bits).length) : (ones bits).getD i 0 < (ones bits).getD (i + 1) 0 := by
  have h := onesTo_sorted (bits := bits) bits.length
  have e0 : (ones bits).getD i 0 = (ones bits)[i] := by simp [List.getD, show i < (ones bits).length by omega]
  have e1 : (ones bits).getD (i + 1) 0 = (ones bits)[i + 1] := by simp [List.getD, hi]
  rw [e0, e1]
  exact List.pairwise_iff_getElem.1 h i (i + 1) _ _ (by omega)
set_option maxRecDepth 100000 in
set_option maxHeartbeats 1000000 in
theorem all_walk (n : Int) (A : Option Addr) (l : List Act) (c : Nat) (hc : l.length ≤ c) (hm : l.length ≤ maxLen) (hS : SliceOf w A 4 actEnc act0 l) (hT : Tab w) :
    Calls Tryd.prog 8 #[.int .i64 n, .slice A l.length c] w fun e w' => e = .returned (.bool true) ∧ Below w.heap.size w w' := by
  obtain ⟨N, hN⟩ := grown_n n
  have hN2 : N ≤ 300 := by omega
  have HGR := Lib.hid (grown_any (w := w) n A l c hc hm hS N hN)
  have HT := Lib.hid hT
  have h0 : 0 < w.heap.size := lt_of_cell (hT 0 (by decide))
  clear hS hT hN hc hm
  go_enter Tryd.func8, Tryd.ntmps8
  go_wp2_with fail
  refine HGR.out.mono ?_
  rintro e w1 ⟨p, q, g, bits, rfl, hG, hL⟩
  have HG := Lib.hid hG
  have HL := Lib.hid hL
  clear hG hL
  unfold refV
  go_wp2_with fail
  refine (HG.out.alive HT.out h0).mono ?_
  rintro e w2 ⟨rfl, hG⟩
  have HG2 := Lib.hid hG
  clear hG HG
  go_wp2_with fail
  refine (HG2.out.all HT.out h0).mono ?_
  rintro e w3 ⟨v, rfl, hI, hG⟩
  have HG3 := Lib.hid hG
  have hlen := ones_len bits
  have hle := onesTo_le (bits := bits) bits.length
  have hlb : (ones bits).length ≤ N := by rw [← HL.out]; exact hle
  obtain ⟨A1, c1, rfl, hc1, hm1, hs1⟩ := hI
  have HI := Lib.hid hs1
  have HLE := Lib.hid hlen
  generalize hM : (ones bits).length = M at *
  have HM := Lib.hid hM
  clear hG hs1 hm1 hle hM hlen
  go_wp2_with fail
  go_loopw [30] (fun v30 wr => ∃ k : Nat, k ≤ M ∧ v30 = .int .i64 k ∧ wr = w3) (fun v30 _ => 400 - (intOf v30).toNat)
  case atStart => exact ⟨0, by omega, rfl, rfl⟩
  case round =>
    obtain ⟨k, hk, rfl, rfl⟩ := hrel
    by_cases hlt : k < M
    · obtain ⟨b1, o1, rfl, hx⟩ := ints_at HI.out k (by rw [HM.out]; exact hlt)
      obtain ⟨hy1, hy2⟩ := ones_at (bits := bits) (i := k) (by rw [HM.out]; exact hlt)
      have hy3 : (ones bits).getD k 0 < N := by rw [← HL.out]; exact hy1
      by_cases hk0 : k = 0
      · subst hk0
        rw [Nat.add_zero] at hx
        generalize hxx : (ones bits).getD 0 0 = x at *
        have HH := Lib.hid (show Calls Tryd.prog 19 #[.pointer (some ⟨p, 0, none⟩), .int .i64 x] wr fun e w' => e = .returned (.bool true) ∧ wr = w' by rw [← hy2]; exact HG3.out.has x hy1)
        clear hy1 hy2 hxx
        go_wp2_with (go_at_call 19; refine HH.out.mono ?_; rintro e w' ⟨rfl, rfl⟩)
        go_roundw
        case rel => exact ⟨1, by omega, by go_num, trivial⟩
        case measure => simp [intOf]
      · obtain ⟨j, rfl⟩ : ∃ j, k = j + 1 := ⟨k - 1, by omega⟩
        have hr := ones_rise (bits := bits) (i := j) (by rw [HM.out]; exact hlt)
        obtain ⟨_, _, he, hz⟩ := ints_at HI.out j (by rw [HM.out]; omega)
        cases he
        generalize (ones bits).getD (j + 1) 0 = x at *
        generalize (ones bits).getD j 0 = y at *
        have HH := Lib.hid (show Calls Tryd.prog 19 #[.pointer (some ⟨p, 0, none⟩), .int .i64 x] wr fun e w' => e = .returned (.bool true) ∧ wr = w' by rw [← hy2]; exact HG3.out.has x hy1)
        clear hy1 hy2
        go_wp2_with (go_at_call 19; refine HH.out.mono ?_; rintro e w' ⟨rfl, rfl⟩)
        go_roundw
        case rel => exact ⟨j + 2, by omega, by go_num, trivial⟩
        case measure => simp [intOf]; omega
    · obtain rfl : k = M := by omega
      go_wp2
      go_loopw [11, 65] (fun v11 v65 wr2 => ∃ j : Nat, j ≤ N ∧ v11 = .int .i64 ((onesTo bits j).length : Nat) ∧ v65 = .int .i64 j ∧ wr2 = wr) (fun _ v65 _ => 400 - (intOf v65).toNat)
      case atStart => exact ⟨0, by omega, rfl, rfl, rfl⟩
      case round =>
        obtain ⟨j, hj, rfl, rfl, rfl⟩ := hrel
        have hjl := onesTo_le (bits := bits) j
        by_cases hlt2 : j < N
        · have hjb : j < bits.length := by rw [HL.out]; exact hlt2
          cases hb : bits.getD j false with
          | true =>
            have HH := Lib.hid (show Calls Tryd.prog 19 #[.pointer (some ⟨p, 0, none⟩), .int .i64 j] wr fun e w' => e = .returned (.bool true) ∧ wr = w' by rw [← hb]; exact HG3.out.has j hjb)
            have HO := Lib.hid (onesTo_on hb)
            clear hb hjb
            go_wp2_with (go_at_call 19; refine HH.out.mono ?_; rintro e w' ⟨rfl, rfl⟩)
            go_roundw
            case rel => exact ⟨j + 1, by omega, by rw [HO.out]; simp, by go_num, trivial⟩
            case measure => simp [intOf]; omega
          | false =>
            have HH := Lib.hid (show Calls Tryd.prog 19 #[.pointer (some ⟨p, 0, none⟩), .int .i64 j] wr fun e w' => e = .returned (.bool false) ∧ wr = w' by rw [← hb]; exact HG3.out.has j hjb)
            have HO := Lib.hid (onesTo_off hb)
            clear hb hjb
            go_wp2_with (go_at_call 19; refine HH.out.mono ?_; rintro e w' ⟨rfl, rfl⟩)
            go_roundw
            case rel => exact ⟨j + 1, by omega, by rw [HO.out], by go_num, trivial⟩
            case measure => simp [intOf]; omega
        · obtain rfl : j = N := by omega
          have HC : Hid (Calls Tryd.prog 22 #[.pointer (some ⟨p, 0, none⟩)] wr fun e w' => e = .returned (.int .i64 (k : Nat)) ∧ wr = w') := Lib.hid (by rw [HLE.out]; exact HG3.out.count)
          have e1 : (onesTo bits j).length = k := by rw [← HL.out]; exact HM.out
          rw [e1]
          go_wp2_with (go_at_call 22; refine HC.out.mono ?_; rintro e w' ⟨rfl, rfl⟩)
          go_ret
          exact ⟨rfl, HG3.out.below⟩
end Go.Proofs.YtbdpbkblihaeiaaDoor
