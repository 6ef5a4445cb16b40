/- The document's TakeRun and Copy: walks. -/
import Derived.Test.YtkaflgbipjppmaaDoorRm
namespace Go.Proofs.YtkaflgbipjppmaaDoor
open Go.RowKit
set_option linter.unusedVariables false
set_option linter.unusedSimpArgs false
variable {w w' : World} {G Wg Og size : Nat} {W W' own own' : List Int}
theorem runAtO_none {own : List Int} {n : Nat} (h : ∀ j, j + n ≤ own.length → ¬ Off (own.map busy) j n) : runAtO own n = (0, false) := by
  unfold runAtO
  rcases run_spec n (own.map busy) _ 0 rfl with ⟨a, g1, g2, g3, g4⟩ | ⟨g1, g2⟩
  · exact absurd g3 (h a (by simpa using g3.1))
  · exact g1
theorem runAtO_hit {own : List Int} {n a : Nat} (h1 : Off (own.map busy) a n) (h2 : ∀ j, j < a → ¬ Off (own.map busy) j n) : runAtO own n = (a, true) := by
  unfold runAtO
  rw [run_to (k := a) (Nat.zero_le _) (fun j _ hj => h2 j hj)]
  exact run_hit h1
theorem busy_get {own : List Int} {j : Nat} (hj : j < own.length) : (own.map busy).getD j false = busy (own.getD j 0) := by simp [List.getD, hj]
/-- Where the count of free ones in a row stands at i. -/
structure RowI (own : List Int) (n i r : Nat) : Prop where
  le : r ≤ i
  lt : r < n
  z : ∀ j, i - r ≤ j → j < i → own.getD j 0 = 0
  b : r < i → own.getD (i - r - 1) 0 ≠ 0
  no : ∀ j, j + n ≤ i → ¬ Off (own.map busy) j n
theorem RowI.start {own : List Int} {n : Nat} (hn : 1 ≤ n) : RowI own n 0 0 := ⟨by omega, by omega, fun j h1 h2 => by omega, fun h => by omega, fun j h => by omega⟩
theorem RowI.full {own : List Int} {n i r : Nat} (h : RowI own n i r) (hi : i < own.length) (hx : own.getD i 0 ≠ 0) : RowI own n (i + 1) 0 := by
  have hlt := h.lt
  refine ⟨by omega, by omega, fun j h1 h2 => by omega, fun _ => by rw [Nat.sub_zero, Nat.add_sub_cancel]; exact hx, fun j hj g => ?_⟩
  rcases Nat.lt_or_ge i (j + n) with g1 | g1
  · have := g.2 i (by omega) g1
    rw [busy_get hi] at this
    simp [busy, hx, - List.getD_eq_getElem?_getD] at this
  · exact h.no j g1 g
theorem RowI.more {own : List Int} {n i r : Nat} (h : RowI own n i r) (hi : i < own.length) (hx : own.getD i 0 = 0) (hr : r + 1 ≠ n) : RowI own n (i + 1) (r + 1) := by
  have hlt := h.lt
  have hle := h.le
  refine ⟨by omega, by omega, fun j h1 h2 => ?_, fun h1 => ?_, fun j hj g => ?_⟩
  · by_cases hj : j = i
    · rw [hj]; exact hx
    · exact h.z j (by omega) (by omega)
  · rw [show i + 1 - (r + 1) - 1 = i - r - 1 by omega]
    exact h.b (by omega)
  · rcases Nat.lt_or_ge i (j + n) with g1 | g1
    · have hri : r < i := by omega
      have h3 := g.2 (i - r - 1) (by omega) (by omega)
      rw [busy_get (by omega)] at h3
      simp [busy, h.b hri, - List.getD_eq_getElem?_getD] at h3
    · exact h.no j g1 g
theorem RowI.hit {own : List Int} {n i r : Nat} (h : RowI own n i r) (hi : i < own.length) (hx : own.getD i 0 = 0) (hr : r + 1 = n) : runAtO own n = (i + 1 - n, true) := by
  have hle := h.le
  refine runAtO_hit ⟨by simp; omega, fun j h1 h2 => ?_⟩ (fun j hj => h.no j (by omega))
  rw [busy_get (by omega)]
  have : own.getD j 0 = 0 := by
    by_cases hj : j = i
    · rw [hj]; exact hx
    · exact h.z j (by omega) (by omega)
  rw [this]
  rfl
def RunV (own : List Int) (n : Nat) (x : Int) : Prop := (∃ a : Nat, runAtO own n = (a, true) ∧ x = a) ∨ (runAtO own n = (0, false) ∧ x = -1)
set_option maxRecDepth 100000 in
set_option maxHeartbeats 1000000 in
theorem rrun_any (h : RefSt w G Wg Og W size own) (n : Nat) (hn : 1 ≤ n) (hn2 : n < 9223372036854775808) : Calls Tryd.prog 81 #[.pointer (some ⟨G, 0, none⟩), .int .i64 n] w fun e w' => (∃ x, e = .returned (.int .i64 x) ∧ RunV own n x) ∧ w = w' := by
  have k2 := h.c2
  have hol := h.o2
  have HOC := Lib.hid (fun i hi => h.own_cell i hi)
  clear h
  go_enter Tryd.func81, Tryd.ntmps81
  go_wp2
  go_loopw [5, 6] (fun v5 v6 wr => ∃ i r : Nat, i ≤ own.length ∧ v6 = .int .i64 i ∧ v5 = .int .i64 r ∧ wr = w ∧ Hid (RowI own n i r)) (fun _ v6 _ => own.length - (intOf v6).toNat)
  case atStart => exact ⟨0, 0, by omega, rfl, rfl, rfl, Lib.hid (RowI.start hn)⟩
  case round =>
    obtain ⟨i, r, hi, rfl, rfl, rfl, HR⟩ := hrel
    have hrlt := HR.out.lt
    have hrle := HR.out.le
    by_cases hlt : i < own.length
    · have hcell := HOC.out i hlt
      by_cases hx : own.getD i 0 = 0
      · rw [hx] at hcell
        have HXZ := Lib.hid hx
        clear hx
        by_cases hr : r + 1 = n
        · have HV := Lib.hid (HR.out.hit hlt HXZ.out hr)
          have hre : ((r : Int) + 1 == (n : Int)) = true := by simp; omega
          have hrz : (i : Int) - (n : Int) + 1 = ((i + 1 - n : Nat) : Int) := by omega
          go_wp2
          go_ret
          exact ⟨⟨_, rfl, .inl ⟨i + 1 - n, HV.out, by omega⟩⟩, rfl⟩
        · have hre : ((r : Int) + 1 == (n : Int)) = false := by simp; omega
          have HN := Lib.hid (HR.out.more hlt HXZ.out hr)
          go_wp2
          go_roundw
          case rel => exact ⟨i + 1, r + 1, by omega, by go_num, by go_num, trivial, HN⟩
          case measure => simp [intOf]; omega
      · have HN := Lib.hid (HR.out.full hlt hx)
        have hxb : (own.getD i 0 != 0) = true := by simpa using hx
        generalize own.getD i 0 = y at hcell hxb
        have hre : ((0 : Int) == (n : Int)) = false := by simp; omega
        clear hx
        go_wp2
        go_roundw
        case rel => exact ⟨i + 1, 0, by omega, by go_num, by go_num, trivial, HN⟩
        case measure => simp [intOf]; omega
    · obtain rfl : i = own.length := by omega
      go_wp2
      go_ret
      exact ⟨⟨-1, rfl, .inr ⟨runAtO_none HR.out.no, rfl⟩⟩, rfl⟩
end Go.Proofs.YtkaflgbipjppmaaDoor
