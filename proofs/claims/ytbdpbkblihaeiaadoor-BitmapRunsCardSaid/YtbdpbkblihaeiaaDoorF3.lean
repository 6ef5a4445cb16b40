/- BitmapRuns: a walk. -/
import Derived.Test.YtbdpbkblihaeiaaDoorF5
namespace Go.Proofs.YtbdpbkblihaeiaaDoor
open Go.RowKit
set_option linter.unusedVariables false
set_option linter.unusedSimpArgs false
variable {w w' : World} {p q g : Nat} {bits : List Bool} {ws : List Nat} {T T' : TypeId}
def someOn (bits : List Bool) (i : Nat) : Nat → Bool
  | 0 => false
  | j + 1 => someOn bits i j || bits.getD (i + j) false
theorem someOn_of {i : Nat} : ∀ (k : Nat), someOn bits i k = false → ∀ j, i ≤ j → j < i + k → bits.getD j false = false
  | 0, _, j, h1, h2 => by omega
  | k + 1, h, j, h1, h2 => by
    have h' : (someOn bits i k || bits.getD (i + k) false) = false := h
    rw [Bool.or_eq_false_iff] at h'
    rcases Nat.lt_or_ge j (i + k) with g | g
    · exact someOn_of k h'.1 j h1 g
    · rw [show j = i + k by omega]; exact h'.2
theorem someOn_true {i k : Nat} (h : ¬ Off bits i k) (hl : i + k ≤ bits.length) : someOn bits i k = true := by
  cases e : someOn bits i k
  · exact absurd ⟨hl, someOn_of k e⟩ h
  · rfl
theorem Grown.len_ {base : World} (h : Grown base w p q g bits) : Calls Tryd.prog 18 #[.pointer (some ⟨p, 0, none⟩)] w fun e w' => e = .returned (.int .i64 bits.length) ∧ w = w' := by
  obtain ⟨ws, hm⟩ := h.map
  exact len_any hm
theorem Grown.runL_ {base : World} (h : Grown base w p q g bits) (hT : Tab base) (h0 : 0 < base.heap.size) (k a : Nat) (b : Bool) (hk : 1 ≤ k) (hr : runL k bits 0 = (a, b)) : Calls Tryd.prog 16 #[.pointer (some ⟨p, 0, none⟩), .int .i64 k] w fun e w' => e = .returned (.tuple #[.int .i64 a, .bool b]) ∧ w = w' := by
  obtain ⟨ws, hm⟩ := h.map
  have := run_any hm (hT.below h.below h0) k hk
  unfold RunPost at this
  rw [hr] at this
  exact this
theorem off_less {a k : Nat} (h : Off bits a (k + 1)) : Off bits a k := ⟨by have := h.1; omega, fun j h1 h2 => h.2 j h1 (by omega)⟩
set_option maxRecDepth 100000 in
set_option maxHeartbeats 1000000 in
theorem runs_walk (n : Int) (A : Option Addr) (l : List Act) (c : Nat) (a0 : Int) (hc : l.length ≤ c) (hm : l.length ≤ maxLen) (hS : SliceOf w A 4 actEnc act0 l) (hT : Tab w) :
    Calls Tryd.prog 5 #[.int .i64 n, .slice A l.length c, .int .i64 a0] w fun e w' => e = .returned (.bool true) ∧ Below w.heap.size w w' := by
  obtain ⟨N, hN⟩ := grown_n n
  have hN2 : N ≤ 300 := by omega
  obtain ⟨K, hK⟩ : ∃ K : Nat, (K : Int) = 1 + (max 0 a0) % 20 := ⟨(1 + (max 0 a0) % 20).toNat, by omega⟩
  have hK1 : 1 ≤ K := by omega
  have hK2 : K ≤ 20 := by omega
  have HK := Lib.hid hK
  have HGR := Lib.hid (grown_any (w := w) n A l c hc hm hS N hN)
  have HT := Lib.hid hT
  have h0 : 0 < w.heap.size := lt_of_cell (hT 0 (by decide))
  clear hS hT hN hc hm hK
  have hmax : (if (0 : Int) < a0 then a0 else 0) = max 0 a0 := by omega
  go_enter Tryd.func5, Tryd.ntmps5
  go_wp2_with fail
  refine HGR.out.mono ?_
  rintro e w1 ⟨p, q, g, bits, rfl, hG, hL⟩
  have HG := Lib.hid hG
  subst hL
  clear hG
  unfold refV
  go_wp2_with fail
  refine (HG.out.alive HT.out h0).mono ?_
  rintro e w2 ⟨rfl, hG⟩
  have HG2 := Lib.hid hG
  clear hG HG
  go_wp2_with fail
  rw [← HK.out]
  rcases run_spec K bits _ 0 rfl with ⟨a, hr, _, hoff, hbefore⟩ | ⟨hr, hnone⟩
  · have ha := hoff.1
    refine (HG2.out.runL_ HT.out h0 K a true hK1 hr).mono ?_
    rintro e w3 ⟨rfl, rfl⟩
    have HOFF := Lib.hid hoff
    have HBEF := Lib.hid hbefore
    clear hr hoff hbefore
    go_wp2_with (go_at_call 18; refine (HG2.out.len_).mono ?_; rintro e w' ⟨rfl, rfl⟩)
    go_loopw [48] (fun v48 wr => ∃ i : Nat, v48 = .int .i64 i ∧ i ≤ K ∧ wr = w2) (fun v48 _ => 400 - (intOf v48).toNat)
    case atStart => exact ⟨0, rfl, by omega, rfl⟩
    case round =>
    obtain ⟨i, rfl, hi, rfl⟩ := hrel
    by_cases hlt : i < K
    · have HH := Lib.hid (show Calls Tryd.prog 19 #[.pointer (some ⟨p, 0, none⟩), .int .i64 ((a + i : Nat) : Int)] wr fun e w' => e = .returned (.bool false) ∧ wr = w' by rw [← HOFF.out.2 (a + i) (by omega) (by omega)]; exact HG2.out.has (a + i) (by omega))
      go_wp2_with (go_at_call 19; refine HH.out.mono ?_; rintro e w' ⟨rfl, rfl⟩)
      go_roundw
      case rel => exact ⟨i + 1, by go_num, by omega, trivial⟩
      case measure => simp [intOf]; omega
    obtain rfl : K = i := by omega
    by_cases hK0 : K = 1
    · subst hK0
      go_wp2_with fail
      refine (show Calls Tryd.prog 16 #[.pointer (some ⟨p, 0, none⟩), .int .i64 0] wr fun e w' => e = .returned (.tuple #[.int .i64 0, .bool false]) ∧ wr = w' from run_few _ 0 (by decide) wr).mono ?_
      rintro e w3 ⟨rfl, rfl⟩
      go_wp2_with fail
      go_loopw [16] (fun v16 wi => ∃ x : Nat, v16 = .int .i64 x ∧ x ≤ 301 ∧ wi = wr) (fun v16 _ => 400 - (intOf v16).toNat)
      case atStart => exact ⟨0, rfl, by omega, rfl⟩
      case round =>
        obtain ⟨x, rfl, hi, rfl⟩ := hrel
        by_cases hlt : (x : Int) ≤ (a : Int) - 1
        · have hiK2 : x + 1 ≤ bits.length := by omega
          have HS := Lib.hid (someOn_true (k := 1) (HBEF.out x (Nat.zero_le _) (by omega)) hiK2)
          go_wp2
          go_loopw [17, 83] (fun v17 v83 wi => ∃ j : Nat, j ≤ 1 ∧ v17 = .bool (someOn bits x j) ∧ v83 = .int .i64 j ∧ wi = wr) (fun _ v83 _ => 400 - (intOf v83).toNat)
          case atStart => exact ⟨0, by omega, rfl, rfl, rfl⟩
          case round =>
            obtain ⟨j, hj, rfl, rfl, rfl⟩ := hrel
            by_cases hj2 : j < 1
            · have hij : x + j < bits.length := by omega
              have HH := Lib.hid (HG2.out.has (x + j) hij)
              have e : someOn bits x (j + 1) = (someOn bits x j || bits.getD (x + j) false) := rfl
              have HE := Lib.hid e
              generalize bits.getD (x + j) false = y at *
              generalize someOn bits x j = s0 at *
              clear e
              cases s0
              · go_wp2_with (go_at_call 19; refine HH.out.mono ?_; rintro e w' ⟨rfl, rfl⟩)
                go_roundw
                case rel => first | exact ⟨j + 1, by omega, by rw [HE.out]; simp, by go_num, trivial⟩ | exact ⟨_, _, _, _, _, _, _, _, _, _, _, _, _, _, ⟨j + 1, by omega, by rw [HE.out]; simp, by go_num, trivial⟩, rfl⟩
                case measure => simp [intOf]; omega
              · go_wp2
                go_roundw
                case rel => first | exact ⟨j + 1, by omega, by rw [HE.out]; simp, by go_num, trivial⟩ | exact ⟨_, _, _, _, _, _, _, _, _, _, _, _, _, _, ⟨j + 1, by omega, by rw [HE.out]; simp, by go_num, trivial⟩, rfl⟩
                case measure => simp [intOf]; omega
            · obtain rfl : j = 1 := by omega
              rw [HS.out]
              go_wp2
              go_roundw
              case rel => exact ⟨x + 1, by go_num, by omega, trivial⟩
              case measure => simp [intOf]; omega
        · go_wp2_with (go_at_call 18; refine (HG2.out.len_).mono ?_; rintro e w' ⟨rfl, rfl⟩)
          go_ret
          first | exact ⟨rfl, HG2.out.below⟩ | exact ⟨ret_bool (decide_eq_true (by omega)), HG2.out.below⟩
    · obtain ⟨k, hk⟩ : ∃ k, K = k + 1 := ⟨K - 1, by omega⟩
      have HO2 : Hid (Off bits a k) := Lib.hid (off_less (hk ▸ HOFF.out))
      rcases run_spec k bits _ 0 rfl with ⟨b, hrb, _, hob, hbb⟩ | ⟨hrb, hnb⟩
      · have hba : b ≤ a := by
          apply Classical.byContradiction
          intro hh
          exact hbb a (Nat.zero_le _) (by omega) HO2.out
        have HR := Lib.hid (HG2.out.runL_ HT.out h0 k b true (by omega) hrb)
        rw [show (k : Int) = (K : Int) - 1 by omega] at HR
        have hgt : (1 : Int) < (K : Int) := by omega
        have hd1 : decide (a < b) = false := decide_eq_false (by omega)
        have hd2 : decide ((a : Int) < (b : Int)) = false := decide_eq_false (by omega)
        clear hk hrb hob hbb
        go_wp2_with fail
        refine HR.out.mono ?_
        rintro e w3 ⟨rfl, rfl⟩
        go_wp2_with fail
        go_loopw [16] (fun v16 wi => ∃ x : Nat, v16 = .int .i64 x ∧ x ≤ 301 ∧ wi = wr) (fun v16 _ => 400 - (intOf v16).toNat)
        case atStart => exact ⟨0, rfl, by omega, rfl⟩
        case round =>
          obtain ⟨x, rfl, hi, rfl⟩ := hrel
          by_cases hlt : (x : Int) ≤ (a : Int) - 1
          · have hiK2 : x + K ≤ bits.length := by omega
            have HS := Lib.hid (someOn_true (k := K) (HBEF.out x (Nat.zero_le _) (by omega)) hiK2)
            go_wp2
            go_loopw [17, 83] (fun v17 v83 wi => ∃ j : Nat, j ≤ K ∧ v17 = .bool (someOn bits x j) ∧ v83 = .int .i64 j ∧ wi = wr) (fun _ v83 _ => 400 - (intOf v83).toNat)
            case atStart => exact ⟨0, by omega, rfl, rfl, rfl⟩
            case round =>
              obtain ⟨j, hj, rfl, rfl, rfl⟩ := hrel
              by_cases hj2 : j < K
              · have hij : x + j < bits.length := by omega
                have HH := Lib.hid (HG2.out.has (x + j) hij)
                have e : someOn bits x (j + 1) = (someOn bits x j || bits.getD (x + j) false) := rfl
                have HE := Lib.hid e
                generalize bits.getD (x + j) false = y at *
                generalize someOn bits x j = s0 at *
                clear e
                cases s0
                · go_wp2_with (go_at_call 19; refine HH.out.mono ?_; rintro e w' ⟨rfl, rfl⟩)
                  go_roundw
                  case rel => first | exact ⟨j + 1, by omega, by rw [HE.out]; simp, by go_num, trivial⟩ | exact ⟨_, _, _, _, _, _, _, _, _, _, _, _, _, _, ⟨j + 1, by omega, by rw [HE.out]; simp, by go_num, trivial⟩, rfl⟩
                  case measure => simp [intOf]; omega
                · go_wp2
                  go_roundw
                  case rel => first | exact ⟨j + 1, by omega, by rw [HE.out]; simp, by go_num, trivial⟩ | exact ⟨_, _, _, _, _, _, _, _, _, _, _, _, _, _, ⟨j + 1, by omega, by rw [HE.out]; simp, by go_num, trivial⟩, rfl⟩
                  case measure => simp [intOf]; omega
              · obtain rfl : j = K := by omega
                rw [HS.out]
                go_wp2
                go_roundw
                case rel => exact ⟨x + 1, by go_num, by omega, trivial⟩
                case measure => simp [intOf]; omega
          · go_wp2_with (go_at_call 18; refine (HG2.out.len_).mono ?_; rintro e w' ⟨rfl, rfl⟩)
            go_ret
            first | exact ⟨rfl, HG2.out.below⟩ | exact ⟨ret_bool (decide_eq_true (by omega)), HG2.out.below⟩
      · exact absurd HO2.out (hnb a (Nat.zero_le _))
  · refine (HG2.out.runL_ HT.out h0 K 0 false hK1 hr).mono ?_
    rintro e w3 ⟨rfl, rfl⟩
    have HNO := Lib.hid hnone
    clear hr hnone
    go_wp2_with fail
    refine (HG2.out.len_).mono ?_
    rintro e w' ⟨rfl, rfl⟩
    go_wp2_with fail
    go_loopw [16] (fun v16 wr => ∃ i : Nat, v16 = .int .i64 i ∧ i ≤ 301 ∧ wr = w2) (fun v16 _ => 400 - (intOf v16).toNat)
    case atStart => exact ⟨0, rfl, by omega, rfl⟩
    case round =>
      obtain ⟨i, rfl, hi, rfl⟩ := hrel
      by_cases hlt : (i : Int) ≤ (bits.length : Int) - K
      · have hiK : i + K ≤ bits.length := by omega
        have HS := Lib.hid (someOn_true (HNO.out i (Nat.zero_le _)) hiK)
        go_wp2
        go_loopw [17, 83] (fun v17 v83 wi => ∃ j : Nat, j ≤ K ∧ v17 = .bool (someOn bits i j) ∧ v83 = .int .i64 j ∧ wi = wr) (fun _ v83 _ => 400 - (intOf v83).toNat)
        case atStart => exact ⟨0, by omega, rfl, rfl, rfl⟩
        case round =>
          obtain ⟨j, hj, rfl, rfl, rfl⟩ := hrel
          by_cases hj2 : j < K
          · have hij : i + j < bits.length := by omega
            have HH := Lib.hid (HG2.out.has (i + j) hij)
            have e : someOn bits i (j + 1) = (someOn bits i j || bits.getD (i + j) false) := rfl
            have HE := Lib.hid e
            generalize bits.getD (i + j) false = y at *
            generalize someOn bits i j = s0 at *
            clear e
            cases s0
            · go_wp2_with (go_at_call 19; refine HH.out.mono ?_; rintro e w' ⟨rfl, rfl⟩)
              go_roundw
              case rel => first | exact ⟨j + 1, by omega, by rw [HE.out]; simp, by go_num, trivial⟩ | exact ⟨_, _, _, _, _, _, _, _, _, _, _, _, _, _, ⟨j + 1, by omega, by rw [HE.out]; simp, by go_num, trivial⟩, rfl⟩
              case measure => simp [intOf]; omega
            · go_wp2
              go_roundw
              case rel => first | exact ⟨j + 1, by omega, by rw [HE.out]; simp, by go_num, trivial⟩ | exact ⟨_, _, _, _, _, _, _, _, _, _, _, _, _, _, ⟨j + 1, by omega, by rw [HE.out]; simp, by go_num, trivial⟩, rfl⟩
              case measure => simp [intOf]; omega
          · obtain rfl : j = K := by omega
            rw [HS.out]
            go_wp2
            go_roundw
            case rel => exact ⟨i + 1, by go_num, by omega, trivial⟩
            case measure => simp [intOf]; omega
      · go_wp2_with (go_at_call 18; refine (HG2.out.len_).mono ?_; rintro e w' ⟨rfl, rfl⟩)
        go_ret
        first | exact ⟨rfl, HG2.out.below⟩ | exact ⟨ret_bool (decide_eq_true (by omega)), HG2.out.below⟩
end Go.Proofs.YtbdpbkblihaeiaaDoor
