/- Which words are references: walks. -/
import Derived.Test.YtcffenekomiakaaSg
namespace Go.Proofs.Ytcffenekomiakaa
open Go.RowKit
set_option linter.unusedVariables false
set_option linter.unusedSimpArgs false
variable {w w' : World}
theorem list_any {v1 v2 : Value} {l1 l2 : List Int} (h1 : Ints w v1 l1) (h2 : Ints w v2 l2) : Calls Try.prog 27 #[v1, v2] w fun e w' => e = .returned (.bool (decide (l1 = l2))) ∧ Below w.heap.size w w' := by
  obtain ⟨A1, c1, rfl, hc1, hm1, hs1⟩ := h1
  obtain ⟨A2, c2, rfl, hc2, hm2, hs2⟩ := h2
  unfold maxLen at hm1 hm2
  have H1 := Lib.hid hs1
  have H2 := Lib.hid hs2
  clear hs1 hs2
  by_cases hl : l1.length = l2.length
  · have cl : ((l1.length : Int) != (l2.length : Int)) = false := by simp [hl]
    have HL := Lib.hid hl
    clear hl
    go_enter Try.func27, Try.ntmps27
    go_wp2
    go_loopw [5] (fun v5 wr => ∃ k : Nat, k ≤ l1.length ∧ v5 = .int .i64 k ∧ Below w.heap.size w wr ∧ Hid (∀ j, j < k → l1.getD j 0 = l2.getD j 0)) (fun v5 _ => l1.length - (intOf v5).toNat)
    case atStart => exact ⟨0, by omega, rfl, Below.refl _ _, Lib.hid (fun j hj => by omega)⟩
    case round =>
      obtain ⟨k, hk, rfl, hB, HT⟩ := hrel
      by_cases hlt : k < l1.length
      · have hlt2 : k < l2.length := HL.out ▸ hlt
        obtain ⟨b1, o1, rfl, hx1⟩ := ints_at (H1.out.on hB) k hlt
        obtain ⟨b2, o2, rfl, hx2⟩ := ints_at (H2.out.on hB) k hlt2
        by_cases he : l1.getD k 0 = l2.getD k 0
        · have HR : Hid (∀ j, j < k + 1 → l1.getD j 0 = l2.getD j 0) := Lib.hid (fun j hj => by
            rcases Nat.lt_or_ge j k with g | g
            · exact HT.out j g
            · rw [show j = k by omega]; exact he)
          have ce : (l1.getD k 0 != l2.getD k 0) = false := by rw [he]; simp
          generalize l1.getD k 0 = x1 at *
          generalize l2.getD k 0 = x2 at *
          clear he
          go_wp2
          go_quiet (fail)
          go_wp2
          go_roundw
          case rel => exact ⟨k + 1, by omega, by go_num, below_drewN hB _, HR⟩
          case measure => simp [intOf]; omega
        · have ce : (l1.getD k 0 != l2.getD k 0) = true := by simp only [bne_iff_ne, ne_eq]; exact he
          have HR : Hid (¬ l1 = l2) := Lib.hid (fun e => he (by rw [e]))
          generalize l1.getD k 0 = x1 at *
          generalize l2.getD k 0 = x2 at *
          clear he
          go_wp2
          go_quiet (fail)
          go_wp2
          go_ret
          exact ⟨ret_bool (by rw [decide_eq_false HR.out]), below_drewN hB _⟩
      · obtain rfl : k = l1.length := by omega
        have HR : Hid (l1 = l2) := Lib.hid (List.ext_getElem HL.out (fun i g1 g2 => by have := HT.out i g1; simpa [List.getD, g1, g2] using this))
        go_wp2
        go_ret
        exact ⟨ret_bool (by rw [decide_eq_true HR.out]), hB⟩
  · have cl : ((l1.length : Int) != (l2.length : Int)) = true := by simp; omega
    have HR : Hid (¬ l1 = l2) := Lib.hid (fun e => hl (by rw [e]))
    clear hl
    go_enter Try.func27, Try.ntmps27
    go_wp2
    go_ret
    exact ⟨ret_bool (by rw [decide_eq_false HR.out]), Below.refl _ _⟩
theorem mem_getD {l : List Int} {k : Nat} (h : k < l.length) : l.getD k 0 ∈ l := by
  have : l.getD k 0 = l[k] := by simp [List.getD, h]
  rw [this]; exact List.getElem_mem h
theorem mem_at {l : List Int} {p : Int} (h : p ∈ l) : ∃ k, k < l.length ∧ l.getD k 0 = p := by
  obtain ⟨k, hk, rfl⟩ := List.getElem_of_mem h
  exact ⟨k, hk, by simp [List.getD, hk]⟩
theorem has_any (A : Option Addr) (l : List Int) (c : Nat) (p : Int) (w : World) (hl : SliceOf w A 1 encI 0 l) (hc : l.length ≤ maxLen) :
    Calls Try.prog 29 #[.slice A l.length c, .int .i64 p] w fun e w' => e = .returned (.bool (decide (p ∈ l))) ∧ Below w.heap.size w w' := by
  unfold maxLen at hc
  have HL := Lib.hid hl
  clear hl
  go_enter Try.func29, Try.ntmps29
  go_wp2
  go_loopw [5] (fun v5 wr => ∃ k : Nat, k ≤ l.length ∧ v5 = .int .i64 k ∧ Hid (∀ j, j < k → l.getD j 0 ≠ p) ∧ wr = w) (fun v5 _ => l.length - (intOf v5).toNat)
  case atStart => exact ⟨0, by omega, rfl, Lib.hid (fun j hj => by omega), rfl⟩
  case round =>
    obtain ⟨k, hk, rfl, HR, rfl⟩ := hrel
    by_cases hlt : k < l.length
    · obtain ⟨b, o, rfl, hx⟩ := ints_at HL.out k hlt
      by_cases he : l.getD k 0 = p
      · have HM : Hid (decide (p ∈ l) = true) := Lib.hid (decide_eq_true (by rw [← he]; exact mem_getD hlt))
        generalize l.getD k 0 = x at *
        subst he
        go_wp2
        go_ret
        exact ⟨ret_bool HM.out.symm, Below.refl _ _⟩
      · have HR2 : Hid (∀ j, j < k + 1 → l.getD j 0 ≠ p) := Lib.hid (fun j hj => by
          rcases Nat.lt_or_ge j k with g | g
          · exact HR.out j g
          · rw [show j = k by omega]; exact he)
        generalize l.getD k 0 = x at *
        have d : (x == p) = false := by simpa using he
        clear he
        go_wp2
        go_roundw
        case rel => exact ⟨k + 1, by omega, by go_num, HR2, trivial⟩
        case measure => simp [intOf]; omega
    · obtain rfl : k = l.length := by omega
      have HM : Hid (decide (p ∈ l) = false) := Lib.hid (decide_eq_false (fun h => by
        obtain ⟨j, hj, e⟩ := mem_at h
        exact HR.out j hj e))
      go_wp2
      go_ret
      exact ⟨ret_bool HM.out.symm, Below.refl _ _⟩
theorem sorted_at {l : List Int} (h : l.Pairwise (· < ·)) {i j : Nat} (hij : i < j) (hj : j < l.length) : l.getD i 0 < l.getD j 0 := by
  have := List.pairwise_iff_getElem.1 h i j (by omega) hj hij
  simpa [List.getD, hj, show i < l.length by omega] using this
theorem less_any (x y : Int) (w : World) : Calls Try.prog 36 #[.int .i64 x, .int .i64 y] w fun e w' => e = .returned (.bool (decide (x < y))) ∧ w = w' := by
  go_enter Try.func36, Try.ntmps36
  go_wp2
  go_ret
  exact ⟨rfl, rfl⟩
theorem nan_any (x : Int) (w : World) : Calls Try.prog 37 #[.int .i64 x] w fun e w' => e = .returned (.bool false) ∧ w = w' := by
  go_enter Try.func37, Try.ntmps37
  go_wp2
  go_ret
  exact ⟨rfl, rfl⟩
theorem bs_any (A : Option Addr) (l : List Int) (c : Nat) (p : Int) (w : World) (hl : SliceOf w A 1 encI 0 l) (hc : l.length ≤ 64) (hs : l.Pairwise (· < ·)) :
    Calls Try.prog 28 #[.slice A l.length c, .int .i64 p] w fun e w' => (∃ i : Int, e = .returned (.tuple #[.int .i64 i, .bool (decide (p ∈ l))])) ∧ w = w' := by
  have HL := Lib.hid hl
  have HS := Lib.hid hs
  clear hl hs
  go_enter Try.func28, Try.ntmps28
  go_wp2
  go_loopw [7, 8] (fun v7 v8 wr => ∃ i j : Nat, i ≤ j ∧ j ≤ l.length ∧ v7 = .int .i64 i ∧ v8 = .int .i64 j ∧ Hid (∀ t, t < i → l.getD t 0 < p) ∧ Hid (∀ t, j ≤ t → t < l.length → p ≤ l.getD t 0) ∧ wr = w) (fun v7 v8 _ => (intOf v8).toNat - (intOf v7).toNat)
  case atStart => exact ⟨0, l.length, by omega, by omega, rfl, rfl, Lib.hid (fun j hj => by omega), Lib.hid (fun t h1 h2 => by omega), rfl⟩
  case round =>
    obtain ⟨i, j, hij, hj, rfl, rfl, HA, HB, rfl⟩ := hrel
    by_cases hlt : i < j
    · have hm1 : (i + j) / 2 < j := by omega
      have hm2 : i ≤ (i + j) / 2 := by omega
      obtain ⟨b, o, rfl, hx⟩ := ints_at HL.out ((i + j) / 2) (by omega)
      by_cases he : l.getD ((i + j) / 2) 0 < p
      · have HA2 : Hid (∀ t, t < (i + j) / 2 + 1 → l.getD t 0 < p) := Lib.hid (fun t ht => by
          rcases Nat.lt_or_ge t ((i + j) / 2) with g | g
          · have := sorted_at HS.out g (by omega); omega
          · rw [show t = (i + j) / 2 by omega]; exact he)
        generalize l.getD ((i + j) / 2) 0 = x at *
        have d : decide (x < p) = true := decide_eq_true he
        clear he HA
        go_wp2_with (go_at_call 36; refine (less_any _ _ _).mono ?_; rintro e w' ⟨rfl, rfl⟩)
        go_roundw
        case rel => exact ⟨(i + j) / 2 + 1, j, by omega, by omega, by go_num, rfl, HA2, HB, trivial⟩
        case measure => simp [intOf]; omega
      · have HB2 : Hid (∀ t, (i + j) / 2 ≤ t → t < l.length → p ≤ l.getD t 0) := Lib.hid (fun t h1 h2 => by
          rcases Nat.lt_or_ge ((i + j) / 2) t with g | g
          · have := sorted_at HS.out g (by omega); omega
          · rw [show t = (i + j) / 2 by omega]; omega)
        generalize l.getD ((i + j) / 2) 0 = x at *
        have d : decide (x < p) = false := decide_eq_false he
        clear he HB
        go_wp2_with (go_at_call 36; refine (less_any _ _ _).mono ?_; rintro e w' ⟨rfl, rfl⟩)
        go_roundw
        case rel => exact ⟨i, (i + j) / 2, by omega, by omega, rfl, by go_num, HA, HB2, trivial⟩
        case measure => simp [intOf]; omega
    · obtain rfl : i = j := by omega
      by_cases hil : i < l.length
      · obtain ⟨b, o, rfl, hx⟩ := ints_at HL.out i hil
        by_cases he : l.getD i 0 = p
        · have HM : Hid (decide (p ∈ l) = true) := Lib.hid (decide_eq_true (by rw [← he]; exact mem_getD hil))
          generalize l.getD i 0 = x at *
          subst he
          go_wp2_with (go_at_call 37; refine (nan_any _ _).mono ?_; rintro e w' ⟨rfl, rfl⟩)
          go_ret2
          exact ⟨⟨_, by rw [HM.out]; rfl⟩, rfl⟩
        · have HM : Hid (decide (p ∈ l) = false) := Lib.hid (decide_eq_false (fun h => by
            obtain ⟨t, ht, e⟩ := mem_at h
            rcases Nat.lt_trichotomy t i with g | g | g
            · have := HA.out t g; omega
            · subst g; exact he e
            · have h1 := HB.out i (Nat.le_refl _) hil
              have h2 := sorted_at HS.out g ht
              omega))
          generalize l.getD i 0 = x at *
          have d : (x == p) = false := by simpa using he
          clear he
          go_wp2_with (go_at_call 37; refine (nan_any _ _).mono ?_; rintro e w' ⟨rfl, rfl⟩)
          go_ret2
          exact ⟨⟨_, by rw [HM.out]; rfl⟩, rfl⟩
      · obtain rfl : i = l.length := by omega
        have HM : Hid (decide (p ∈ l) = false) := Lib.hid (decide_eq_false (fun h => by
          obtain ⟨t, ht, e⟩ := mem_at h
          have := HA.out t ht; omega))
        go_wp2
        go_ret2
        exact ⟨⟨_, by rw [HM.out]; rfl⟩, rfl⟩
end Go.Proofs.Ytcffenekomiakaa
