/- StoreNews: a walk. -/
import Derived.Test.YtkaflgbipjppmaaDoorW1
namespace Go.Proofs.YtkaflgbipjppmaaDoor
open Go.RowKit
set_option linter.unusedVariables false
set_option linter.unusedSimpArgs false
variable {w w' : World} {B Wb Ob p q G Wg Og size : Nat} {W W' own own' : List Int} {c : Nat}
theorem take_nil (o : Int) (w : World) : Calls Tryd.prog 27 #[.pointer none, .int .i64 o] w fun e w' => e = .returned (.tuple #[.int .i64 0, .int .i64 1]) ∧ w = w' := by
  have HC := Lib.hid (take_none 0 o 1 w)
  go_enter Tryd.func27, Tryd.ntmps27
  go_wp2_with fail
  refine HC.out.mono ?_
  rintro e w1 ⟨rfl, rfl⟩
  go_wp2
  go_ret2
  exact ⟨rfl, rfl⟩
theorem read_nil (a : Int) (w : World) : Calls Tryd.prog 23 #[.pointer none, .int .i64 a] w fun e w' => e = .returned (.tuple #[.int .u64 0, .int .i64 1]) ∧ w = w' := by
  go_enter Tryd.func23, Tryd.ntmps23
  go_wp2
  go_ret2
  exact ⟨rfl, rfl⟩
theorem release_nil (a : Int) (w : World) : Calls Tryd.prog 28 #[.pointer none, .int .i64 a] w fun e w' => e = .returned (.int .i64 1) ∧ w = w' := by
  go_enter Tryd.func28, Tryd.ntmps28
  go_wp2
  go_ret
  exact ⟨rfl, rfl⟩
theorem give_nil (a b : Int) (w : World) : Calls Tryd.prog 30 #[.pointer none, .int .i64 a, .int .i64 b] w fun e w' => e = .returned (.int .i64 1) ∧ w = w' := by
  go_enter Tryd.func30, Tryd.ntmps30
  go_wp2
  go_ret
  exact ⟨rfl, rfl⟩
theorem write_nil (a b : Int) (w : World) : Calls Tryd.prog 26 #[.pointer none, .int .i64 a, .int .u64 b] w fun e w' => e = .returned (.int .i64 1) ∧ w = w' := by
  go_enter Tryd.func26, Tryd.ntmps26
  go_wp2
  go_ret
  exact ⟨rfl, rfl⟩
theorem copy_nil (a b c : Int) (w : World) : Calls Tryd.prog 24 #[.pointer none, .int .i64 a, .int .i64 b, .int .i64 c] w fun e w' => e = .returned (.int .i64 1) ∧ w = w' := by
  go_enter Tryd.func24, Tryd.ntmps24
  go_wp2
  go_ret
  exact ⟨rfl, rfl⟩
theorem schunks_nil (w : World) : Calls Tryd.prog 38 #[.pointer none] w fun e w' => e = .returned (.int .i64 0) ∧ w = w' := by
  go_enter Tryd.func38, Tryd.ntmps38
  go_wp2
  go_ret
  exact ⟨rfl, rfl⟩
theorem words_nil (w : World) : Calls Tryd.prog 39 #[.pointer none] w fun e w' => e = .returned (.int .i64 0) ∧ w = w' := by
  go_enter Tryd.func39, Tryd.ntmps39
  go_wp2
  go_ret
  exact ⟨rfl, rfl⟩
theorem free_nil (w : World) : Calls Tryd.prog 20 #[.pointer none] w fun e w' => e = .returned (.int .i64 0) ∧ w = w' := by
  go_enter Tryd.func20, Tryd.ntmps20
  go_wp2
  go_ret
  exact ⟨rfl, rfl⟩
theorem owner_nil (w : World) : Calls Tryd.prog 25 #[.pointer none, .int .i64 0] w fun e w' => e = .returned (.int .i64 0) ∧ w = w' := by
  have HC := Lib.hid (schunks_nil w)
  go_enter Tryd.func25, Tryd.ntmps25
  go_wp2_with fail
  refine HC.out.mono ?_
  rintro e w1 ⟨rfl, rfl⟩
  go_wp2
  go_ret
  exact ⟨rfl, rfl⟩
theorem freeN_all (c : Nat) : freeN (List.replicate c 0) = c := by
  have : many (List.replicate c false) = 0 := by unfold many; simp [List.count_replicate]
  unfold freeN
  rw [not_busy, this]; simp
set_option maxRecDepth 100000 in
set_option maxHeartbeats 4000000 in
theorem news3_walk (zc zw : Int) (hT : Tab w) :
    Calls Tryd.prog 12 #[.agg #[.int .i64 zc, .int .i64 zw]] w fun e w' => e = .returned (.bool true) ∧ Below w.heap.size w w' := by
  have hb0 := below1 w (.cells #[.int .i64 zc, .int .i64 zw] 36)
  have hbx := heap_alloc_new w (.cells #[.int .i64 zc, .int .i64 zw] 36)
  have HAL := Lib.hid (alive3_any (hT.on hb0))
  have HB0 := Lib.hid hb0
  have HBX := Lib.hid hbx
  clear hbx hb0 hT
  go_enter Tryd.func12, Tryd.ntmps12
  go_wp2_with fail
  refine (take_nil _ _).mono ?_
  rintro e w1 ⟨rfl, rfl⟩
  go_wp2_with fail
  refine (take_none 0 _ _ _).mono ?_
  rintro e w1 ⟨rfl, rfl⟩
  go_wp2_with fail
  refine (read_nil _ _).mono ?_
  rintro e w1 ⟨rfl, rfl⟩
  go_wp2_with fail
  refine HAL.out.mono ?_
  rintro e w1 ⟨rfl, hb1⟩
  have HB1 := Lib.hid (HB0.out.on hb1)
  have HBX1 := Lib.hid ((hb1.block _ (block_lt HBX.out)).trans HBX.out)
  clear hb1 HAL HB0 HBX
  go_wp2_with fail
  refine (release_nil _ _).mono ?_
  rintro e w2 ⟨rfl, rfl⟩
  go_wp2_with fail
  refine (give_nil _ _ _).mono ?_
  rintro e w2 ⟨rfl, rfl⟩
  go_wp2_with fail
  refine (write_nil _ _ _).mono ?_
  rintro e w2 ⟨rfl, rfl⟩
  go_wp2_with fail
  refine (copy_nil _ _ _ _).mono ?_
  rintro e w2 ⟨rfl, rfl⟩
  go_wp2_with fail
  refine (schunks_nil _).mono ?_
  rintro e w2 ⟨rfl, rfl⟩
  go_wp2_with fail
  refine (words_nil _).mono ?_
  rintro e w2 ⟨rfl, rfl⟩
  go_wp2_with fail
  refine (free_nil _).mono ?_
  rintro e w2 ⟨rfl, rfl⟩
  go_wp2_with fail
  refine (owner_nil _).mono ?_
  rintro e w2 ⟨rfl, rfl⟩
  go_wp2_with fail
  refine (owned_nil _ _).mono ?_
  rintro e w2 ⟨rfl, hb2⟩
  have HB2 := Lib.hid (HB1.out.on hb2)
  have hbx2 := (hb2.block _ (block_lt HBX1.out)).trans HBX1.out
  have k0 := (blk_cells hbx2 0).trans rfl
  have k1 := (blk_cells hbx2 1).trans rfl
  have HBX2 := Lib.hid hbx2
  clear hb2 HB1 HBX1 hbx2
  by_cases hin : 1 ≤ zc ∧ zc ≤ 1024 ∧ 1 ≤ zw ∧ zw ≤ 1024
  · obtain ⟨g1, g2, g3, g4⟩ := hin
    obtain ⟨c, rfl⟩ : ∃ c : Nat, zc = c := ⟨zc.toNat, by omega⟩
    obtain ⟨n, rfl⟩ : ∃ n : Nat, zw = n := ⟨zw.toNat, by omega⟩
    have HN := Lib.hid (new_in3 c n w2 (by omega) (by omega) (by omega) (by omega))
    have c1 : ¬ (c : Int) < 1 := by omega
    have c2 : ¬ (1024 : Int) < (c : Int) := by omega
    have c3 : ¬ (n : Int) < 1 := by omega
    have c4 : ¬ (1024 : Int) < (n : Int) := by omega
    clear g1 g2 g3 g4
    go_wp2_with fail
    refine HN.out.mono ?_
    rintro e w3 ⟨B, Wb, Ob, p, q, rfl, hS, hb3, hF⟩
    have hbx3 := (hb3.block _ (block_lt HBX2.out)).trans HBX2.out
    have q0 := (blk_cells hbx3 0).trans rfl
    have q1 := (blk_cells hbx3 1).trans rfl
    have HB3 := Lib.hid (HB2.out.on hb3)
    have HF : Hid (∀ Y, Below w3.heap.size w3 Y → Calls Tryd.prog 20 #[.pointer (some ⟨B, 0, none⟩)] Y fun e w' => e = .returned (.int .i64 (c : Nat)) ∧ Below Y.heap.size Y w') := Lib.hid (fun Y hY => by have h9 := free_any (hS.on hY); rwa [freeN_all] at h9)
    have HW : Hid (∀ Y, Below w3.heap.size w3 Y → Calls Tryd.prog 39 #[.pointer (some ⟨B, 0, none⟩)] Y fun e w' => e = .returned (.int .i64 n) ∧ Y = w') := Lib.hid (fun Y hY => words_any (hS.on hY))
    have e1 : ((c : Int) == (c : Int)) = true := by simp
    have e2 : ((n : Int) == (n : Int)) = true := by simp
    clear k0 k1 hS hb3 hF HN hbx3
    go_wp2_with fail
    go_region_held3 (fun wk => (wk.cell? ⟨w.heap.size, 0, none⟩ = some (.int .i64 c) ∧ wk.cell? ⟨w.heap.size, 1, none⟩ = some (.int .i64 n)) ∧ Below w3.heap.size w3 wk) (first | assumption | exact kp2_call (by assumption) (by assumption) | exact ⟨⟨q0, q1⟩, Below.drew (Below.refl _ _)⟩) (first | (go_at_call 20; refine (HF.out _ (And.right (by assumption))).mono ?_; rintro e w9 ⟨rfl, hb9⟩) | (go_at_call 39; refine (HW.out _ (And.right (by assumption))).mono ?_; rintro e w8 ⟨rfl, rfl⟩))
    have hB9 : Below w3.heap.size w3 w9 := by
      have h9 : (w9.cell? ⟨w.heap.size, 0, none⟩ = some (.int .i64 c) ∧ w9.cell? ⟨w.heap.size, 1, none⟩ = some (.int .i64 n)) ∧ Below w3.heap.size w3 w9 := by assumption
      exact h9.2
    go_wp2
    go_ret
    exact ⟨rfl, HB3.out.on hB9⟩
  · have HN := Lib.hid (new_out3 zc zw w2 (by omega))
    have hcs : (zc < 1) ∨ (¬ zc < 1 ∧ 1024 < zc) ∨ (¬ zc < 1 ∧ ¬ 1024 < zc ∧ zw < 1) ∨ (¬ zc < 1 ∧ ¬ 1024 < zc ∧ ¬ zw < 1 ∧ 1024 < zw) := by omega
    clear hin
    rcases hcs with c1 | ⟨c1, c2⟩ | ⟨c1, c2, c3⟩ | ⟨c1, c2, c3, c4⟩
    all_goals
      go_wp2_with fail
      refine HN.out.mono ?_
      rintro e w3 ⟨rfl, rfl⟩
      go_wp2
      go_ret
      exact ⟨rfl, HB2.out⟩
end Go.Proofs.YtkaflgbipjppmaaDoor
