/- BitmapNews: a walk. -/
import Derived.Test.YtbdpbkblihaeiaaDoorAv
namespace Go.Proofs.YtbdpbkblihaeiaaDoor
open Go.RowKit
set_option linter.unusedVariables false
set_option linter.unusedSimpArgs false
variable {w w' : World} {p q : Nat} {bits : List Bool} {ws : List Nat} {T T' : TypeId}
theorem first_nil (w : World) : Calls Tryd.prog 15 #[.pointer none, .int .i64 0] w fun e w' => e = .returned (.tuple #[.int .i64 0, .bool false]) ∧ w = w' := by
  go_enter Tryd.func15, Tryd.ntmps15
  go_wp2
  go_loopw [1] (fun v1 wr => v1 = .int .i64 0 ∧ wr = w) (fun v1 _ => 0)
  case atStart => exact ⟨rfl, rfl⟩
  case round =>
    obtain ⟨rfl, rfl⟩ := hrel
    go_wp2_with (go_at_call 18; refine (len_nil _).mono ?_; rintro e w' ⟨rfl, rfl⟩)
    go_ret2
    exact ⟨rfl, rfl⟩
theorem run_nil (w : World) : Calls Tryd.prog 16 #[.pointer none, .int .i64 1] w fun e w' => e = .returned (.tuple #[.int .i64 0, .bool false]) ∧ w = w' := by
  go_enter Tryd.func16, Tryd.ntmps16
  go_wp2_with (go_at_call 15; refine (first_nil _).mono ?_; rintro e w' ⟨rfl, rfl⟩)
  go_loopw [7] (fun v7 wr => v7 = .bool false ∧ wr = w) (fun _ _ => 0)
  case atStart => exact ⟨rfl, rfl⟩
  case round =>
    obtain ⟨rfl, rfl⟩ := hrel
    go_wp2
    go_ret2
    exact ⟨rfl, rfl⟩
theorem count_nil (w : World) : Calls Tryd.prog 22 #[.pointer none] w fun e w' => e = .returned (.int .i64 0) ∧ w = w' := by
  go_enter Tryd.func22, Tryd.ntmps22
  go_wp2
  go_ret
  exact ⟨rfl, rfl⟩
theorem replicate_off (n i : Nat) : (List.replicate n false).getD i false = false := by simp [List.getD, List.getElem?_replicate]; split <;> rfl
set_option maxRecDepth 100000 in
set_option maxHeartbeats 1000000 in
theorem news_walk (n : Int) (hT : Tab w) : Calls Tryd.prog 3 #[.int .i64 n] w fun e w' => e = .returned (.bool true) ∧ Below w.heap.size w w' := by
  have HT := Lib.hid hT
  clear hT
  by_cases hn : n < 1 ∨ 1048576 < n
  · have HN := Lib.hid hn
    rcases hn with c1 | c2
    all_goals
      go_enter Tryd.func3, Tryd.ntmps3
      go_wp2_with (first | (go_at_call 15; refine (first_nil _).mono ?_; rintro e w' ⟨rfl, rfl⟩) | (go_at_call 16; refine (run_nil _).mono ?_; rintro e w' ⟨rfl, rfl⟩) | (go_at_call 17; refine (alive_any HT.out).mono ?_; rintro e w1 ⟨rfl, hb1⟩) | (go_at_call 18; refine (len_nil _).mono ?_; rintro e w' ⟨rfl, rfl⟩) | (go_at_call 19; refine (has_nil _ _).mono ?_; rintro e w' ⟨rfl, rfl⟩) | (go_at_call 20; refine (set_nil _ _ _).mono ?_; rintro e w' ⟨rfl, rfl⟩) | (go_at_call 21; refine (fill_nil _ _ _ _).mono ?_; rintro e w' ⟨rfl, rfl⟩) | (go_at_call 22; refine (count_nil _).mono ?_; rintro e w' ⟨rfl, rfl⟩) | (go_at_call 23; refine (all_nil _).mono ?_; rintro e w2 ⟨v2, rfl, hrow2, hnil2, hb2⟩; obtain rfl := hnil2.2 rfl) | (go_at_call 24; refine (new_out _ _ HN.out).mono ?_; rintro e w' ⟨rfl, rfl⟩))
      go_ret
      exact ⟨rfl, hb1.on hb2⟩
  · obtain ⟨m, rfl⟩ : ∃ m : Nat, n = m := ⟨n.toNat, by omega⟩
    have c1 : ¬ (m : Int) < 1 := by omega
    have c2 : ¬ (1048576 : Int) < m := by omega
    have HM1 : Hid (1 ≤ m) := Lib.hid (by omega)
    have HM2 : Hid (m ≤ 1048576) := Lib.hid (by omega)
    have hz : (many (List.replicate m false) : Int) = 0 := by rw [many_replicate]; rfl
    have hlen : ((List.replicate m false).length : Int) = m := by simp
    have hms : wrap64 ((m : Int) - 1) = ((m - 1 : Nat) : Int) := by simp [wrap64]; omega
    clear hn
    go_enter Tryd.func3, Tryd.ntmps3
    go_wp2_with (first | (go_at_call 15; refine (first_nil _).mono ?_; rintro e w' ⟨rfl, rfl⟩) | (go_at_call 16; refine (run_nil _).mono ?_; rintro e w' ⟨rfl, rfl⟩) | (go_at_call 17; refine (alive_any HT.out).mono ?_; rintro e w1 ⟨rfl, hb1⟩) | (go_at_call 18; refine (len_nil _).mono ?_; rintro e w' ⟨rfl, rfl⟩) | (go_at_call 19; refine (has_nil _ _).mono ?_; rintro e w' ⟨rfl, rfl⟩) | (go_at_call 20; refine (set_nil _ _ _).mono ?_; rintro e w' ⟨rfl, rfl⟩) | (go_at_call 21; refine (fill_nil _ _ _ _).mono ?_; rintro e w' ⟨rfl, rfl⟩) | (go_at_call 22; refine (count_nil _).mono ?_; rintro e w' ⟨rfl, rfl⟩) | (go_at_call 23; refine (all_nil _).mono ?_; rintro e w2 ⟨v2, rfl, hrow2, hnil2, hb2⟩; obtain rfl := hnil2.2 rfl) | (go_at_call 24; fail))
    refine (new_in m _ HM1.out HM2.out).mono ?_
    rintro e w3 ⟨rfl, hM3, hb3⟩
    have HM3 := Lib.hid hM3
    clear hM3
    go_wp2_with fail
    refine (len_any HM3.out).mono ?_
    rintro e w' ⟨rfl, rfl⟩
    rw [hlen]
    go_wp2_with fail
    refine (count_any HM3.out).mono ?_
    rintro e w' ⟨rfl, rfl⟩
    rw [hz]
    go_wp2_with fail
    rw [show (m : Int) - 1 = ((m - 1 : Nat) : Int) by omega]
    refine (has_in HM3.out (m - 1) (by rw [List.length_replicate]; have := HM1.out; omega)).mono ?_
    rintro e w' ⟨rfl, rfl⟩
    rw [replicate_off]
    go_wp2
    go_ret
    exact ⟨rfl, (hb1.on hb2).on hb3⟩
end Go.Proofs.YtbdpbkblihaeiaaDoor
