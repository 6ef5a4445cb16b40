/- Same, and slices of numbers: walks. -/
import Derived.Test.YtkaflgbipjppmaaDoorAo
namespace Go.Proofs.YtkaflgbipjppmaaDoor
open Go.RowKit
set_option linter.unusedVariables false
set_option linter.unusedSimpArgs false
variable {w w' : World}
/-- A value is a slice of these numbers. -/
def Ints (w : World) (v : Value) (l : List Nat) : Prop := ∃ A c, v = .slice A l.length c ∧ l.length ≤ c ∧ l.length ≤ maxLen ∧ SliceOf w A 1 (fun x : Nat => [intV x]) 0 l
theorem Ints.on {v : Value} {l : List Nat} (h : Ints w v l) (hb : Below w.heap.size w w') : Ints w' v l := by
  obtain ⟨A, c, e, h1, h2, h3⟩ := h
  exact ⟨A, c, e, h1, h2, h3.on hb⟩
theorem ints_of_own {v : Value} {l : List Nat} {base : Nat} (h : w.ownsRow base 3 1 v l.length (l.map intV)) (hl : l.length ≤ 1048576) : Ints w v l := by
  have e : l.map intV = l.flatMap (fun x => [intV x]) := by clear h hl; induction l <;> simp_all
  rw [e] at h
  obtain ⟨A, c, rfl, hc, hs⟩ := own_slice (fun x : Nat => [intV x]) 0 (fun _ => rfl) h
  exact ⟨A, c, rfl, hc, by unfold maxLen; omega, hs⟩
theorem ints_at {A : Option Addr} {l : List Nat} (h : SliceOf w A 1 (fun x : Nat => [intV x]) 0 l) (k : Nat) (hk : k < l.length) : ∃ b o, A = some ⟨b, o, none⟩ ∧ w.cell? ⟨b, o + k, none⟩ = some (.int .i64 (l.getD k 0 : Nat)) := by
  obtain ⟨b, o, e, h1⟩ := h k hk
  refine ⟨b, o, e, ?_⟩
  have := h1 0 _ rfl
  simpa [intV] using this
theorem same_any {v1 v2 : Value} {l1 l2 : List Nat} (h1 : Ints w v1 l1) (h2 : Ints w v2 l2) : Calls Tryd.prog 49 #[v1, v2] w fun e w' => e = .returned (.bool (decide (l1 = l2))) ∧ Below w.heap.size w w' := by
  obtain ⟨A1, c1, rfl, hc1, hm1, hs1⟩ := h1
  obtain ⟨A2, c2, rfl, hc2, hm2, hs2⟩ := h2
  unfold maxLen at hm1 hm2
  have H1 := Lib.hid hs1
  have H2 := Lib.hid hs2
  clear hs1 hs2
  by_cases hl : l1.length = l2.length
  · have cl : ((l1.length : Int) != (l2.length : Int)) = false := by simp [hl]
    have HL := Lib.hid hl
    clear hl
    go_enter Tryd.func49, Tryd.ntmps49
    go_wp2
    go_loopw [5] (fun v5 wr => ∃ k : Nat, k ≤ l1.length ∧ v5 = .int .i64 k ∧ Below w.heap.size w wr ∧ Hid (∀ j, j < k → l1.getD j 0 = l2.getD j 0)) (fun v5 _ => l1.length - (intOf v5).toNat)
    case atStart => exact ⟨0, by omega, rfl, Below.refl _ _, Lib.hid (fun j hj => by omega)⟩
    case round =>
      obtain ⟨k, hk, rfl, hB, HT⟩ := hrel
      by_cases hlt : k < l1.length
      · have hlt2 : k < l2.length := HL.out ▸ hlt
        obtain ⟨b1, o1, rfl, hx1⟩ := ints_at (H1.out.on hB) k hlt
        obtain ⟨b2, o2, rfl, hx2⟩ := ints_at (H2.out.on hB) k hlt2
        by_cases he : l1.getD k 0 = l2.getD k 0
        · have HR : Hid (∀ j, j < k + 1 → l1.getD j 0 = l2.getD j 0) := Lib.hid (fun j hj => by
            rcases Nat.lt_or_ge j k with g | g
            · exact HT.out j g
            · rw [show j = k by omega]; exact he)
          have ce : (((l1.getD k 0 : Nat) : Int) != ((l2.getD k 0 : Nat) : Int)) = false := by rw [he]; simp
          generalize l1.getD k 0 = x1 at *
          generalize l2.getD k 0 = x2 at *
          clear he
          go_wp2
          go_quiet (fail)
          go_wp2
          go_roundw
          case rel => exact ⟨k + 1, by omega, by go_num, below_drewN hB _, HR⟩
          case measure => simp [intOf]; omega
        · have ce : (((l1.getD k 0 : Nat) : Int) != ((l2.getD k 0 : Nat) : Int)) = true := by simp only [bne_iff_ne, ne_eq, Int.natCast_inj]; exact he
          have HR : Hid (¬ l1 = l2) := Lib.hid (fun e => he (by rw [e]))
          generalize l1.getD k 0 = x1 at *
          generalize l2.getD k 0 = x2 at *
          clear he
          go_wp2
          go_quiet (fail)
          go_wp2
          go_ret
          exact ⟨ret_bool (by rw [decide_eq_false HR.out]), below_drewN hB _⟩
      · obtain rfl : k = l1.length := by omega
        have HR : Hid (l1 = l2) := Lib.hid (List.ext_getElem HL.out (fun i g1 g2 => by have := HT.out i g1; simpa [List.getD, g1, g2] using this))
        go_wp2
        go_ret
        exact ⟨ret_bool (by rw [decide_eq_true HR.out]), hB⟩
  · have cl : ((l1.length : Int) != (l2.length : Int)) = true := by simp; omega
    have HR : Hid (¬ l1 = l2) := Lib.hid (fun e => hl (by rw [e]))
    clear hl
    go_enter Tryd.func49, Tryd.ntmps49
    go_wp2
    go_ret
    exact ⟨ret_bool (by rw [decide_eq_false HR.out]), Below.refl _ _⟩
end Go.Proofs.YtkaflgbipjppmaaDoor
