/- BumpNews: a walk. -/
import Derived.Test.YtkaflgbipjppmaaDoorBo
namespace Go.Proofs.YtkaflgbipjppmaaDoor
open Go.RowKit
set_option linter.unusedVariables false
set_option linter.unusedSimpArgs false
variable {w w' : World}
set_option maxRecDepth 100000 in
set_option maxHeartbeats 4000000 in
theorem newsB_walk (zo : Int) (hT : Tab w) :
    Calls Tryd.prog 13 #[.int .i64 zo] w fun e w' => e = .returned (.bool true) ∧ Below w.heap.size w w' := by
  have HT := Lib.hid hT
  clear hT
  go_enter Tryd.func13, Tryd.ntmps13
  go_wp2_with fail
  refine (clear_none _).mono ?_
  rintro e w1 ⟨rfl, rfl⟩
  go_wp2_with fail
  refine (alloc_none _ _).mono ?_
  rintro e w1 ⟨rfl, rfl⟩
  go_wp2_with fail
  refine (space_nil _ _).mono ?_
  rintro e w1 ⟨rfl, rfl⟩
  go_wp2_with fail
  refine (made9 4 4 w.heap.size w (by decide) (by decide) (by decide) (by decide)).mono ?_
  rintro e w1 ⟨B, Wb, Ob, p, q, P0, P1, rfl, h2, hb1, hF, hp0, hp1⟩
  have HP := Lib.hid h2
  have HB1 := Lib.hid hb1
  have hk9 := heap_alloc_new w1 (.cells #[.pointer (some ⟨P0, 0, none⟩), .pointer (some ⟨P1, 0, none⟩)] 25)
  have hba := below1 w1 (.cells #[.pointer (some ⟨P0, 0, none⟩), .pointer (some ⟨P1, 0, none⟩)] 25)
  have HMA := Lib.hid (made9 4 4 w.heap.size (w1.alloc (.cells #[.pointer (some ⟨P0, 0, none⟩), .pointer (some ⟨P1, 0, none⟩)] 25)) (by decide) (by decide) (by decide) (by decide))
  have HK9 := Lib.hid hk9
  have HBA := Lib.hid hba
  clear h2 hb1 hF hp0 hp1 hk9 hba
  go_wp2_with fail
  refine HMA.out.mono ?_
  rintro e w2 ⟨B2, Wb2, Ob2, p2, q2, Q0, Q1, rfl, h2, hb2, hF2, hq0, hq1⟩
  have HF2 : Hid (w1.heap.size < B2 ∧ w1.heap.size < Q0 ∧ w1.heap.size < Q1) := Lib.hid (by
    have hz : (w1.alloc (.cells #[.pointer (some ⟨P0, 0, none⟩), .pointer (some ⟨P1, 0, none⟩)] 25)).heap.size = w1.heap.size + 1 := World.size_alloc _ _
    rw [hz] at hF2 hq0 hq1
    exact ⟨hF2 _ (.inl rfl), hq0, hq1⟩)
  have HQ2 := Lib.hid h2
  have HP2 := Lib.hid ((HP.out.on HBA.out).on hb2)
  have HB2 : Hid (Below w.heap.size w w2) := Lib.hid ((HB1.out.on HBA.out).on hb2)
  have HK92 := Lib.hid ((hb2.block _ (block_lt HK9.out)).trans HK9.out)
  have hn1 : B < w1.heap.size := block_lt HP.out.st.head
  have hn2 : P0 < w1.heap.size := block_lt HP.out.s0.head
  have HN : Hid (P0 ≠ Q0 ∧ P0 ≠ Q1 ∧ B ≠ B2) := Lib.hid (by have := HF2.out; omega)
  clear h2 hb2 hF2 hq0 hq1 HMA HK9 HBA HB1 HP HF2 hn1 hn2
  -- the second box
  have hbb := below1 w2 (.cells #[.pointer (some ⟨Q0, 0, none⟩), .pointer (some ⟨Q1, 0, none⟩)] 25)
  have hk11 := heap_alloc_new w2 (.cells #[.pointer (some ⟨Q0, 0, none⟩), .pointer (some ⟨Q1, 0, none⟩)] 25)
  have HAL := Lib.hid (alive9_any ((HT.out.on HB2.out).on hbb))
  obtain ⟨X, hX⟩ : ∃ X, X = w2.alloc (.cells #[.pointer (some ⟨Q0, 0, none⟩), .pointer (some ⟨Q1, 0, none⟩)] 25) := ⟨_, rfl⟩
  have HX := Lib.hid hX
  have HPX := Lib.hid (HP2.out.on hbb)
  have HQX := Lib.hid (HQ2.out.on hbb)
  have HBX : Hid (Below w.heap.size w X) := Lib.hid (by rw [hX]; exact HB2.out.on hbb)
  have hk9 := (hbb.block _ (block_lt HK92.out)).trans HK92.out
  rw [← hX] at hk9 hk11 HPX HQX
  have HKA : Hid (∀ Y, Below X.heap.size X Y → Y.cell? ⟨w1.heap.size, 0, none⟩ = some (.pointer (some ⟨P0, 0, none⟩)) ∧ Y.cell? ⟨w1.heap.size, 1, none⟩ = some (.pointer (some ⟨P1, 0, none⟩)) ∧ Y.cell? ⟨w2.heap.size, 0, none⟩ = some (.pointer (some ⟨Q0, 0, none⟩)) ∧ Y.cell? ⟨w2.heap.size, 1, none⟩ = some (.pointer (some ⟨Q1, 0, none⟩))) := Lib.hid fun Y hY => by
    have g9 := (hY.block _ (block_lt hk9)).trans hk9
    have g11 := (hY.block _ (block_lt hk11)).trans hk11
    exact ⟨(blk_cells g9 0).trans rfl, (blk_cells g9 1).trans rfl, (blk_cells g11 0).trans rfl, (blk_cells g11 1).trans rfl⟩
  rw [hX] at hk9 hk11
  have HJ : Hid (∀ (o : Value) Y, (o = .pointer none ∨ o = .pointer (some ⟨P0, 0, none⟩) ∨ o = .pointer (some ⟨Q0, 0, none⟩) ∨ o = .pointer (some ⟨Q1, 0, none⟩)) → Below X.heap.size X Y → Calls Tryd.prog 70 #[.pointer (some ⟨P0, 0, none⟩), o] Y fun e w' => e = .returned (.int .i64 2) ∧ Below Y.heap.size Y w') := Lib.hid fun o Y ho hY => by
    have hP := HPX.out.on hY
    have hQ := HQX.out.on hY
    rcases ho with rfl | rfl | rfl | rfl
    · exact other_nil _ _
    · exact other_self _ _
    · exact other_far hP.s0 hQ.s0 HN.out.1 HN.out.2.2 hP.st.head hQ.st.head
    · exact other_far hP.s0 hQ.s1 HN.out.2.1 HN.out.2.2 hP.st.head hQ.st.head
  have HJJ : Hid (∀ (o : Value) Y, (o = .pointer none ∨ o = .pointer (some ⟨P0, 0, none⟩) ∨ o = .pointer (some ⟨Q0, 0, none⟩) ∨ o = .pointer (some ⟨Q1, 0, none⟩)) → Below X.heap.size X Y → Calls Tryd.prog 43 #[.pointer (some ⟨P0, 0, none⟩), o] Y fun e w' => e = .returned (.int .i64 2) ∧ Below X.heap.size X w') := Lib.hid fun o Y ho hY => (join_bad (HJ.out o Y ho hY)).mono fun e w' h => ⟨h.1, hY.on h.2⟩
  have HHH : Hid (∀ (o : Value) Y, (o = .pointer none ∨ o = .pointer (some ⟨P0, 0, none⟩) ∨ o = .pointer (some ⟨Q0, 0, none⟩) ∨ o = .pointer (some ⟨Q1, 0, none⟩)) → Below X.heap.size X Y → Calls Tryd.prog 44 #[.pointer (some ⟨P0, 0, none⟩), o, .int .i64 0] Y fun e w' => e = .returned (.int .i64 2) ∧ Below X.heap.size X w') := Lib.hid fun o Y ho hY => (hand_bad 0 (HJ.out o Y ho hY)).mono fun e w' h => ⟨h.1, hY.on h.2⟩
  have HH6 : Hid (∀ Y, Below X.heap.size X Y → Calls Tryd.prog 44 #[.pointer (some ⟨P0, 0, none⟩), .pointer (some ⟨P1, 0, none⟩), .int .i64 0] Y fun e w' => e = .returned (.int .i64 6) ∧ Below X.heap.size X w') := Lib.hid fun Y hY => (hand_empty (HPX.out.on hY).s0 (HPX.out.on hY).s1 HPX.out.ne 0).mono fun e w' h => ⟨h.1, hY.on h.2⟩
  have HD6 : Hid (∀ Y, Below X.heap.size X Y → Calls Tryd.prog 34 #[.pointer (some ⟨P0, 0, none⟩), .int .i64 0] Y fun e w' => e = .returned (.int .i64 6) ∧ Below X.heap.size X w') := Lib.hid fun Y hY => (drop_empty (HPX.out.on hY).s0 0).mono fun e w' h => ⟨h.1, hY.on h.2⟩
  have HBb := Lib.hid hbb
  have hc := HKA.out X (Below.refl _ _)
  rw [hX] at hc
  obtain ⟨k0, k1, k2, k3⟩ := hc
  clear hX hk9 hk11 hbb HK92
  go_wp2_with fail
  refine HAL.out.mono ?_
  rintro e w3 ⟨rfl, hb3⟩
  have hb : Below X.heap.size X w3 := by rw [HX.out]; exact hb3
  clear hb3 k0 k1 k2 k3 HAL
  obtain ⟨k0, k1, k2, k3⟩ := HKA.out _ hb
  have HB := Lib.hid hb
  clear hb
  go_wp2_with fail
  refine (join_none _ _).mono ?_
  rintro e w4 ⟨rfl, rfl⟩
  go_wp2_with fail
  refine (hand_none _ _ _).mono ?_
  rintro e w4 ⟨rfl, rfl⟩
  go_wp2_with fail
  refine (drop_none _ _).mono ?_
  rintro e w4 ⟨rfl, rfl⟩
  go_wp2_with fail
  refine (room_nil _).mono ?_
  rintro e w4 ⟨rfl, rfl⟩
  go_wp2_with fail
  refine (chunks_nil _).mono ?_
  rintro e w4 ⟨rfl, rfl⟩
  go_wp2_with fail
  refine (big_nil _ _).mono ?_
  rintro e w4 ⟨rfl, rfl⟩
  go_wp2_with fail
  refine (HJJ.out (.pointer none) _ (.inl rfl) HB.out).mono ?_
  rintro e wy0 ⟨rfl, hb⟩
  clear k0 k1 k2 k3
  obtain ⟨k0, k1, k2, k3⟩ := HKA.out _ hb
  clear HB
  have HB := Lib.hid hb
  clear hb
  go_wp2_with fail
  refine (HJJ.out _ _ (.inr (.inl rfl)) HB.out).mono ?_
  rintro e wy1 ⟨rfl, hb⟩
  clear k0 k1 k2 k3
  obtain ⟨k0, k1, k2, k3⟩ := HKA.out _ hb
  clear HB
  have HB := Lib.hid hb
  clear hb
  go_wp2_with fail
  refine (HJJ.out _ _ (.inr (.inr (.inl rfl))) HB.out).mono ?_
  rintro e wy2 ⟨rfl, hb⟩
  clear k0 k1 k2 k3
  obtain ⟨k0, k1, k2, k3⟩ := HKA.out _ hb
  clear HB
  have HB := Lib.hid hb
  clear hb
  go_wp2_with fail
  refine (HHH.out (.pointer none) _ (.inl rfl) HB.out).mono ?_
  rintro e wy3 ⟨rfl, hb⟩
  clear k0 k1 k2 k3
  obtain ⟨k0, k1, k2, k3⟩ := HKA.out _ hb
  clear HB
  have HB := Lib.hid hb
  clear hb
  go_wp2_with fail
  refine (HHH.out _ _ (.inr (.inl rfl)) HB.out).mono ?_
  rintro e wy4 ⟨rfl, hb⟩
  clear k0 k1 k2 k3
  obtain ⟨k0, k1, k2, k3⟩ := HKA.out _ hb
  clear HB
  have HB := Lib.hid hb
  clear hb
  go_wp2_with fail
  refine (HHH.out _ _ (.inr (.inr (.inr rfl))) HB.out).mono ?_
  rintro e wy5 ⟨rfl, hb⟩
  clear k0 k1 k2 k3
  obtain ⟨k0, k1, k2, k3⟩ := HKA.out _ hb
  clear HB
  have HB := Lib.hid hb
  clear hb
  go_wp2_with fail
  refine (HH6.out _ HB.out).mono ?_
  rintro e wy6 ⟨rfl, hb⟩
  clear k0 k1 k2 k3
  obtain ⟨k0, k1, k2, k3⟩ := HKA.out _ hb
  clear HB
  have HB := Lib.hid hb
  clear hb
  go_wp2_with fail
  refine (HD6.out _ HB.out).mono ?_
  rintro e wy7 ⟨rfl, hb⟩
  clear k0 k1 k2 k3
  obtain ⟨k0, k1, k2, k3⟩ := HKA.out _ hb
  clear HB
  have HB := Lib.hid hb
  clear hb
  have HPE := Lib.hid (HPX.out.on HB.out)
  have HBE : Hid (Below w.heap.size w wy7) := Lib.hid (HBX.out.on HB.out)
  clear k0 k1 k2 k3 HJ HJJ HHH HH6 HD6
  by_cases ho : zo < 1
  · have HN1 := Lib.hid (space_few B zo wy7 ho)
    go_wp2_with fail
    refine HN1.out.mono ?_
    rintro e w5 ⟨rfl, rfl⟩
    go_wp2
    go_ret
    exact ⟨rfl, HBE.out⟩
  · have HN1 := Lib.hid (space_new B wy7.heap.size zo wy7 (by omega))
    go_wp2_with fail
    refine HN1.out.mono ?_
    rintro e w5 ⟨rfl, hS, hb5⟩
    have HS := Lib.hid hS
    have HB5 : Hid (Below w.heap.size w w5) := Lib.hid (HBE.out.on hb5)
    have HCH := Lib.hid (chunks_sp hS (by decide))
    clear hS hb5
    go_wp2_with fail
    refine HCH.out.mono ?_
    rintro e w6 ⟨A6, c6, rfl, hown, hb6⟩
    have HS6 := Lib.hid (room_any (HS.out.on hb6))
    have HB6 : Hid (Below w.heap.size w w6) := Lib.hid (HB5.out.on hb6)
    rw [show (chunksL ([] : List (Nat × Nat))).length = 0 from rfl]
    clear hown hb6
    go_wp2_with fail
    refine HS6.out.mono ?_
    rintro e w7 ⟨rfl, hb7⟩
    go_wp2
    go_ret
    exact ⟨rfl, HB6.out.on hb7⟩
end Go.Proofs.YtkaflgbipjppmaaDoor
