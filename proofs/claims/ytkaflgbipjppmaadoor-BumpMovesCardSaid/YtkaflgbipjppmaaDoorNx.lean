/- The first place that is on, or off: walks. -/
import Derived.Test.YtkaflgbipjppmaaDoorTz
import Derived.Test.YtkaflgbipjppmaaDoorSeek
namespace Go.Proofs.YtkaflgbipjppmaaDoor
open Go.RowKit
set_option linter.unusedVariables false
set_option linter.unusedSimpArgs false
variable {w : World} {p q : Nat} {bits : List Bool} {ws : List Nat} {T T' : TypeId}
set_option maxRecDepth 100000 in
theorem next_any (h : MapAt w p q bits ws T T') (hT : Tab w) (a : Nat) (ha : a ≤ 1048577) : Calls Tryd.prog 78 #[.pointer (some ⟨p, 0, none⟩), .int .i64 a] w fun e w' => e = .returned (.int .i64 (seek true bits a)) ∧ w = w' := by
  have h0 := h.n
  have h1 := h.w_
  have hle := h.le
  have H := Lib.hid h
  have HTab := Lib.hid hT
  clear h hT
  go_enter Tryd.func78, Tryd.ntmps78
  go_wp2
  go_loopw [1] (fun v1 wr => ∃ k : Nat, k ≤ 1048640 ∧ v1 = .int .i64 k ∧ wr = w ∧ Hid (seek true bits k = seek true bits a)) (fun v1 _ => 1048704 - (intOf v1).toNat)
  case atStart => exact ⟨a, by omega, rfl, rfl, Lib.hid rfl⟩
  case round =>
    obtain ⟨k, hk, rfl, rfl, HK⟩ := hrel
    by_cases hlt : k < bits.length
    · have hj := H.out.wlen hlt
      have h2 := H.out.word (k / 64) hj
      have HW := Lib.hid (H.out.words.tells_on k)
      have hx := H.out.words.bound (k / 64)
      have hz : ((ws.getD (k / 64) 0 : Nat) : Int) / 2 ^ (k % 64) = ((ws.getD (k / 64) 0 / 2 ^ (k % 64) : Nat) : Int) := by simp
      generalize ws.getD (k / 64) 0 = x at h2 HW hz hx
      by_cases h0 : x / 2 ^ (k % 64) = 0
      · have hz0 : ((x : Int) / 2 ^ (k % 64) != 0) = false := by rw [hz, h0]; rfl
        have HN := Lib.hid ((HW.out.none h0).symm.trans HK.out)
        clear h0 hz hx HW
        go_wp2
        go_roundw
        case rel => exact ⟨(k / 64 + 1) * 64, by omega, by go_num, trivial, HN⟩
        case measure => simp [intOf]; omega
      · have hz0 : ((x : Int) / 2 ^ (k % 64) != 0) = true := by rw [hz]; simp [bne]; omega
        obtain ⟨g1, g2, g3⟩ := HW.out.some h0
        have g4 : k + Lib.ctz 64 (x / 2 ^ (k % 64)) < bits.length := by
          apply Classical.byContradiction
          intro g
          simp [List.getD, Nat.le_of_not_lt g] at g1
        have HR := Lib.hid (HK.out.symm.trans (g2.trans (seek_hit g4 g1)))
        have HZ := Lib.hid hz
        have HC := Lib.hid (tz_any (x / 2 ^ (k % 64)) HW.out.lt h0 HTab.out)
        generalize Lib.ctz 64 (x / 2 ^ (k % 64)) = c at *
        clear h0 hz hx HW g1 g2
        go_wp2_with (go_at_call 87; rw [HZ.out]; refine HC.out.mono ?_; rintro e w' ⟨rfl, rfl⟩)
        go_ret
        exact ⟨by rw [HR.out]; rfl, rfl⟩
    · have HR := Lib.hid (HK.out.symm.trans (seek_end (by omega)))
      go_wp2
      go_ret
      exact ⟨by rw [HR.out]; rfl, rfl⟩
theorem not_u64 (x : Nat) (hx : x < 18446744073709551616) : Go.bits .xor .u64 IntKind.u64.max (x : Int) = ((18446744073709551615 - x : Nat) : Int) := by
  have e : IntKind.u64.max = ((18446744073709551615 : Nat) : Int) := by decide
  rw [e, bits_xor_u64_nat _ _ (by decide) hx]
  congr 1
  apply Nat.eq_of_testBit_eq
  intro i
  have h1 := Nat.testBit_two_pow_sub_succ (n := 64) (x := x) hx i
  have h2 := Nat.testBit_two_pow_sub_one 64 i
  rw [show 2 ^ 64 - (x + 1) = 18446744073709551615 - x by omega] at h1
  rw [show 2 ^ 64 - 1 = 18446744073709551615 by decide] at h2
  rw [Nat.testBit_xor, h1, h2]
  by_cases hi : i < 64
  · simp [hi]
  · have : x.testBit i = false := by
      cases e : x.testBit i
      · rfl
      · exact absurd (bit_lt hx e) hi
    simp [hi, this]
/-- What First answers. -/
def FirstL (bits : List Bool) (a : Nat) : Nat × Bool := if seek false bits a < bits.length then (seek false bits a, true) else (0, false)
def FirstPost (bits : List Bool) (a : Nat) (w : World) (e : Ending) (w' : World) : Prop := e = .returned (.tuple #[.int .i64 (FirstL bits a).1, .bool (FirstL bits a).2]) ∧ w = w'
theorem firstPost {a r : Nat} {w : World} (h : seek false bits a = r) (hr : r < bits.length) : FirstPost bits a w (.returned (.tuple #[.int .i64 r, .bool true])) w := by
  subst h
  unfold FirstPost FirstL
  rw [if_pos hr]
  exact ⟨rfl, rfl⟩
theorem firstPost0 {a : Nat} {w : World} (h : seek false bits a = bits.length) : FirstPost bits a w (.returned (.tuple #[.int .i64 0, .bool false])) w := by
  unfold FirstPost FirstL
  rw [h, if_neg (Nat.lt_irrefl _)]
  exact ⟨rfl, rfl⟩
set_option maxRecDepth 100000 in
theorem first_any (h : MapAt w p q bits ws T T') (hT : Tab w) (a : Int) : Calls Tryd.prog 77 #[.pointer (some ⟨p, 0, none⟩), .int .i64 a] w (FirstPost bits a.toNat w) := by
  have h0 := h.n
  have h1 := h.w_
  have hle := h.le
  have H := Lib.hid h
  have HTab := Lib.hid hT
  clear h hT
  go_enter Tryd.func77, Tryd.ntmps77
  go_wp2
  all_goals
    go_loopw [1] (fun v1 wr => ∃ k : Nat, v1 = .int .i64 k ∧ wr = w ∧ Hid (seek false bits k = seek false bits a.toNat)) (fun v1 _ => 1048704 - (intOf v1).toNat)
    case atStart => exact ⟨a.toNat, by congr 1; omega, rfl, Lib.hid rfl⟩
    case round =>
      obtain ⟨k, rfl, rfl, HK⟩ := hrel
      by_cases hlt : k < bits.length
      · have hj := H.out.wlen hlt
        have h2 := H.out.word (k / 64) hj
        have HW := Lib.hid (H.out.words.tells_off k)
        have hx := H.out.words.bound (k / 64)
        generalize ws.getD (k / 64) 0 = x at h2 HW hx
        have hz : Go.bits .xor .u64 IntKind.u64.max (x : Int) / 2 ^ (k % 64) = (((18446744073709551615 - x) / 2 ^ (k % 64) : Nat) : Int) := by rw [not_u64 x hx]; simp
        by_cases h0 : (18446744073709551615 - x) / 2 ^ (k % 64) = 0
        · have hz0 : (Go.bits .xor .u64 IntKind.u64.max (x : Int) / 2 ^ (k % 64) != 0) = false := by rw [hz, h0]; rfl
          have hz1 : (Go.bits .xor .u64 (if IntKind.u64.signed = true then -1 else IntKind.u64.max) (x : Int) / 2 ^ (k % 64) != 0) = false := hz0
          have HN := Lib.hid ((HW.out.none h0).symm.trans HK.out)
          clear h0 hz hx HW
          go_wp2_with (go_at_call 86; refine (len_any H.out).mono ?_; rintro e w' ⟨rfl, rfl⟩)
          go_roundw
          case rel => exact ⟨(k / 64 + 1) * 64, by go_num, trivial, HN⟩
          case measure => simp [intOf]; omega
        · have hz0 : (Go.bits .xor .u64 IntKind.u64.max (x : Int) / 2 ^ (k % 64) != 0) = true := by rw [hz]; generalize (18446744073709551615 - x) / 2 ^ (k % 64) = y at h0; simp; omega
          have hz1 : (Go.bits .xor .u64 (if IntKind.u64.signed = true then -1 else IntKind.u64.max) (x : Int) / 2 ^ (k % 64) != 0) = true := hz0
          obtain ⟨g1, g2, g3⟩ := HW.out.some h0
          have HZ := Lib.hid hz
          have HC := Lib.hid (tz_any ((18446744073709551615 - x) / 2 ^ (k % 64)) HW.out.lt h0 HTab.out)
          generalize Lib.ctz 64 ((18446744073709551615 - x) / 2 ^ (k % 64)) = c at *
          by_cases g4 : k + c < bits.length
          · have HR := Lib.hid (HK.out.symm.trans (g2.trans (seek_hit g4 g1)))
            have g5 : ¬ ((bits.length : Int) ≤ k + c) := by omega
            clear h0 hz hx HW g1 g2
            go_wp2_with (first | (go_at_call 86; refine (len_any H.out).mono ?_; rintro e w' ⟨rfl, rfl⟩) | (go_at_call 87; rw [HZ.out]; refine HC.out.mono ?_; rintro e w' ⟨rfl, rfl⟩))
            go_ret2
            exact firstPost HR.out g4
          · have HR := Lib.hid (HK.out.symm.trans (g2.trans (seek_end (Nat.le_of_not_lt g4))))
            have g5 : (bits.length : Int) ≤ k + c := by omega
            clear h0 hz hx HW g1 g2
            go_wp2_with (first | (go_at_call 86; refine (len_any H.out).mono ?_; rintro e w' ⟨rfl, rfl⟩) | (go_at_call 87; rw [HZ.out]; refine HC.out.mono ?_; rintro e w' ⟨rfl, rfl⟩))
            go_ret2
            exact firstPost0 HR.out
      · have HR := Lib.hid (HK.out.symm.trans (seek_end (by omega)))
        have g5 : (bits.length : Int) ≤ k := by omega
        go_wp2_with (go_at_call 86; refine (len_any H.out).mono ?_; rintro e w' ⟨rfl, rfl⟩)
        go_ret2
        exact firstPost0 HR.out
end Go.Proofs.YtkaflgbipjppmaaDoor
