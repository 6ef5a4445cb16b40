/- Run: a walk. -/
import Derived.Test.YtkaflgbipjppmaaDoorNx
import Derived.Test.YtkaflgbipjppmaaDoorRunL
namespace Go.Proofs.YtkaflgbipjppmaaDoor
open Go.RowKit
set_option linter.unusedVariables false
set_option linter.unusedSimpArgs false
variable {w : World} {p q : Nat} {bits : List Bool} {ws : List Nat} {T T' : TypeId}
theorem run_few (p : Value) (n : Int) (hn : n < 1) (w : World) : Calls Tryd.prog 58 #[p, .int .i64 n] w fun e w' => e = .returned (.tuple #[.int .i64 0, .bool false]) ∧ w = w' := by
  go_enter Tryd.func58, Tryd.ntmps58
  go_wp2
  go_ret2
  exact ⟨rfl, rfl⟩
def RunPost (bits : List Bool) (n : Nat) (w : World) (e : Ending) (w' : World) : Prop := e = .returned (.tuple #[.int .i64 (runL n bits 0).1, .bool (runL n bits 0).2]) ∧ w = w'
theorem runPost {n a : Nat} {b : Bool} {w : World} (h : runL n bits 0 = (a, b)) : RunPost bits n w (.returned (.tuple #[.int .i64 a, .bool b])) w := by
  unfold RunPost; rw [h]; exact ⟨rfl, rfl⟩
/-- What First answers, taken apart. -/
theorem first_cases (bits : List Bool) (a : Nat) : (∃ s, FirstL bits a = (s, true) ∧ seek false bits a = s ∧ s < bits.length ∧ bits.getD s false = false) ∨ (FirstL bits a = (0, false) ∧ seek false bits a = bits.length) := by
  unfold FirstL
  by_cases h : seek false bits a < bits.length
  · exact .inl ⟨_, by rw [if_pos h], rfl, h, seek_at h⟩
  · exact .inr ⟨by rw [if_neg h], by have := seek_le false bits a; omega⟩
theorem first_of (h : MapAt w p q bits ws T T') (hT : Tab w) (a : Nat) (s : Nat) (b : Bool) (hs : FirstL bits a = (s, b)) : Calls Tryd.prog 77 #[.pointer (some ⟨p, 0, none⟩), .int .i64 a] w fun e w' => e = .returned (.tuple #[.int .i64 s, .bool b]) ∧ w = w' := by
  have := first_any h hT a
  unfold FirstPost at this
  rw [Int.toNat_natCast, hs] at this
  exact this
/-- Where the loop stands. -/
def RunAt (bits : List Bool) (n s : Nat) (b : Bool) : Prop := (b = true ∧ s < bits.length ∧ bits.getD s false = false ∧ runL n bits 0 = runL n bits s) ∨ (b = false ∧ s = 0 ∧ runL n bits 0 = (0, false))
theorem runAt {n a : Nat} (hn : 1 ≤ n) (ha : a ≤ bits.length) (h : runL n bits 0 = runL n bits a) {s : Nat} {b : Bool} (hs : FirstL bits a = (s, b)) : RunAt bits n s b := by
  rcases first_cases bits a with ⟨s', h1, h2, h3, h4⟩ | ⟨h1, h2⟩
  · rw [h1] at hs
    cases hs
    exact .inl ⟨rfl, h3, h4, h.trans (run_over hn ha h2)⟩
  · rw [h1] at hs
    cases hs
    exact .inr ⟨rfl, rfl, h.trans ((run_over hn ha h2).trans (run_last hn))⟩
set_option maxRecDepth 100000 in
theorem run_any (h : MapAt w p q bits ws T T') (hT : Tab w) (n : Nat) (hn : 1 ≤ n) : Calls Tryd.prog 58 #[.pointer (some ⟨p, 0, none⟩), .int .i64 n] w (RunPost bits n w) := by
  have hle := h.le
  have H := Lib.hid h
  have HTab := Lib.hid hT
  have c1 : ¬ ((n : Int) < 1) := by omega
  have HN := Lib.hid hn
  obtain ⟨s0, b0⟩ : Nat × Bool := FirstL bits 0
  cases hf0 : FirstL bits 0 with
  | mk s0 b0 =>
  have HC0 := Lib.hid (first_of h hT 0 s0 b0 hf0)
  have HA := Lib.hid (runAt hn (Nat.zero_le _) rfl hf0)
  clear h hT hn hf0
  go_enter Tryd.func58, Tryd.ntmps58
  go_wp2_with (go_at_call 77; refine HC0.out.mono ?_; rintro e w' ⟨rfl, rfl⟩)
  go_loopw [6, 7] (fun v6 v7 wr => ∃ (s : Nat) (b : Bool), v6 = .int .i64 s ∧ v7 = .bool b ∧ wr = w ∧ Hid (RunAt bits n s b)) (fun v6 v7 _ => match v7 with | .bool true => 1048579 - (intOf v6).toNat | _ => 0)
  case atStart => exact ⟨s0, b0, rfl, rfl, rfl, HA⟩
  case round =>
    obtain ⟨s, b, rfl, rfl, rfl, HK⟩ := hrel
    rcases HK.out with ⟨rfl, hs, hb, hr⟩ | ⟨rfl, rfl, hr⟩
    · have e1 : s < seek true bits s := by
        have g1 : s ≤ seek true bits s := seek_ge (by omega)
        rcases Nat.lt_or_ge s (seek true bits s) with g | g
        · exact g
        · have g2 : seek true bits s = s := by omega
          have g3 := seek_at (b := true) (bits := bits) (i := s) (by omega)
          rw [g2, hb] at g3; cases g3
      have e2 := seek_le true bits s
      have HC := Lib.hid (next_any H.out HTab.out s (by omega))
      generalize hE : seek true bits s = E at *
      by_cases hn : n ≤ E - s
      · have HR := Lib.hid (hr.trans (run_long hs hE hn))
        have c2 : (n : Int) ≤ (E : Int) - s := by omega
        clear hr hE
        go_wp2_with (go_at_call 78; refine HC.out.mono ?_; rintro e w' ⟨rfl, rfl⟩)
        go_ret2
        exact runPost HR.out
      · have c2 : ¬ (n : Int) ≤ (E : Int) - s := by omega
        have hr2 := hr.trans (run_short hs hE (by omega))
        cases hf : FirstL bits E with
        | mk s1 b1 =>
        have HC1 := Lib.hid (first_of H.out HTab.out E s1 b1 hf)
        have HA1 := Lib.hid (runAt HN.out e2 hr2 hf)
        have HM : Hid (b1 = true → s < s1) := Lib.hid (by
          rintro rfl
          rcases first_cases bits E with ⟨s', k1, k2, k3, k4⟩ | ⟨k1, k2⟩
          · rw [k1] at hf; cases hf
            have := seek_ge (b := false) (bits := bits) e2
            omega
          · rw [k1] at hf; cases hf)
        clear hr hE hr2 hf
        go_wp2_with (first | (go_at_call 78; refine HC.out.mono ?_; rintro e w' ⟨rfl, rfl⟩) | (go_at_call 77; refine HC1.out.mono ?_; rintro e w' ⟨rfl, rfl⟩))
        go_roundw
        case rel => exact ⟨s1, b1, rfl, rfl, trivial, HA1⟩
        case measure =>
          have hm := HM.out
          cases b1
          · simp [intOf]; omega
          · have := hm rfl
            simp [intOf]; omega
    · have HR := Lib.hid hr
      clear hr
      go_wp2
      go_ret2
      exact runPost HR.out
end Go.Proofs.YtkaflgbipjppmaaDoor
