/- The document's table: contracts. -/
import Derived.Test.YtbdpbkblihaeiaaDoorS3
namespace Go.Proofs.YtbdpbkblihaeiaaDoor
open Go.RowKit
set_option linter.unusedVariables false
set_option linter.unusedSimpArgs false
variable {w w' : World} {G : Nat} {r : List Slot}
/-- The document's slots lie in block G. -/
structure RefT (w : World) (G : Nat) (r : List Slot) : Prop where
  body : w.heap[G]? = some (.cells (r.flatMap slotV).toArray 110 (0, 0))
  gen : ∀ s ∈ r, s.gen ≤ 256
  le : r.length ≤ 8
theorem RefT.on (h : RefT w G r) (hb : Below w.heap.size w w') : RefT w' G r := ⟨(hb.block G (block_lt h.body)).trans h.body, h.gen, h.le⟩
theorem RefT.mod {P : Nat → Prop} (h : RefT w G r) (hm : Mod P w w') (hG : ¬ P G) : RefT w' G r := ⟨hm.keeps h.body hG, h.gen, h.le⟩
theorem RefT.cell (h : RefT w G r) (i : Nat) (hi : i < r.length) (j : Nat) (v : Value) (hv : (slotV (r.getD i slot0))[j]? = some v) : w.cell? ⟨G, i * 6 + j, none⟩ = some v := by
  rw [blk_cells h.body (i * 6 + j)]
  have := flatMap_get slotV 6 (fun _ => rfl) slot0 r i j v hi hv
  simpa using this
theorem RefT.getGen (h : RefT w G r) (k : Nat) : (r.getD k slot0).gen ≤ 256 := by
  by_cases hk : k < r.length
  · have : r.getD k slot0 = r[k] := by simp [List.getD, hk]
    rw [this]; exact h.gen _ (List.getElem_mem hk)
  · have : r.getD k slot0 = slot0 := by simp [List.getD, Nat.le_of_not_lt hk]
    rw [this]; decide
theorem RefT.turned (h : RefT w G r) (k : Nat) (x : Slot) (hx : x.gen ≤ 256) (hb : w'.heap[G]? = some (.cells ((r.set k x).flatMap slotV).toArray 110 (0, 0))) : RefT w' G (r.set k x) :=
  ⟨hb, fun s hs => by
    rcases List.mem_or_eq_of_mem_set hs with g | g
    · exact h.gen s g
    · rw [g]; exact hx, by simpa using h.le⟩
def refVal (G : Nat) (r : List Slot) : Value := .slice (some ⟨G, 0, none⟩) r.length r.length
set_option maxHeartbeats 1000000 in
theorem rfresh_any (h : RefT w G r) (i g : Int) : Calls Tryd.prog 55 #[refVal G r, tokV i g] w fun e w' => e = .returned (.bool (freshT r i g)) ∧ Below w.heap.size w w' := by
  unfold tokV refVal
  have hb := below1 w (.cells #[.int .i64 i, .int .i64 g] 57)
  have hle := h.le
  have e0 := (blk_cells (heap_alloc_new w (.cells #[.int .i64 i, .int .i64 g] 57)) 0).trans rfl
  have e1 := (blk_cells (heap_alloc_new w (.cells #[.int .i64 i, .int .i64 g] 57)) 1).trans rfl
  by_cases h1 : 0 ≤ i
  · by_cases h2 : i < r.length
    · obtain ⟨k, rfl⟩ : ∃ k : Nat, i = k := ⟨i.toNat, by omega⟩
      have hk : k < r.length := by omega
      have c1 := (h.on hb).cell k hk 1 _ rfl
      have c0 := (h.on hb).cell k hk 0 _ rfl
      rw [Nat.add_zero] at c0
      have k1 : decide ((0 : Int) ≤ (k : Int)) = true := decide_eq_true h1
      have k2 : decide (k < r.length) = true := decide_eq_true hk
      cases hu : (r.getD k slot0).used with
      | false =>
        rw [hu] at c1
        have HR : Hid (freshT r (k : Int) g = false) := Lib.hid (by unfold freshT; rw [Int.toNat_natCast, hu]; simp)
        clear h h1 h2 hu c0
        go_enter Tryd.func55, Tryd.ntmps55
        go_wp2
        refine wp_region_quiet_lit (by kernel_rfl) (by kernel_rfl) ?_
        iterate 30
          with_reducible refine wpQuiet_step ?_
          intro K hK
          go_simp
          with_reducible refine hK _ ?_
          clear hK K
        refine wpQuiet_nil ?_
        intro _ hw'
        obtain ⟨nq, hw''⟩ := hw'
        subst hw''
        go_wp2
        go_ret
        exact ⟨by rw [HR.out]; rfl, below_drewN hb _⟩
      | true =>
        rw [hu] at c1
        have HR : Hid (freshT r (k : Int) g = ((((r.getD k slot0).gen : Nat) : Int) == g)) := Lib.hid (by
          unfold freshT; rw [Int.toNat_natCast, hu, decide_eq_true h1, decide_eq_true h2, Bool.true_and, Bool.true_and, Bool.true_and]
          cases hd : ((((r.getD k slot0).gen : Nat) : Int) == g) with
          | true => exact decide_eq_true (by simpa using hd)
          | false => exact decide_eq_false (by simpa using hd))
        generalize (r.getD k slot0).gen = y at c0 HR
        clear h h1 h2 hu
        go_enter Tryd.func55, Tryd.ntmps55
        go_wp2
        refine wp_region_quiet_lit (by kernel_rfl) (by kernel_rfl) ?_
        iterate 30
          with_reducible refine wpQuiet_step ?_
          intro K hK
          go_simp
          with_reducible refine hK _ ?_
          clear hK K
        refine wpQuiet_nil ?_
        intro _ hw'
        obtain ⟨nq, hw''⟩ := hw'
        subst hw''
        go_wp2
        go_ret
        exact ⟨by rw [HR.out]; rfl, below_drewN hb _⟩
    · have k1 : decide ((0 : Int) ≤ i) = true := decide_eq_true h1
      have k2 : decide (i < (r.length : Int)) = false := decide_eq_false h2
      have HR : Hid (freshT r i g = false) := Lib.hid (by unfold freshT; rw [decide_eq_false h2]; simp)
      clear h h1 h2
      go_enter Tryd.func55, Tryd.ntmps55
      go_wp2
      refine wp_region_quiet_lit (by kernel_rfl) (by kernel_rfl) ?_
      iterate 30
        with_reducible refine wpQuiet_step ?_
        intro K hK
        go_simp
        with_reducible refine hK _ ?_
        clear hK K
      refine wpQuiet_nil ?_
      intro _ hw'
      obtain ⟨nq, hw''⟩ := hw'
      subst hw''
      go_wp2
      go_ret
      exact ⟨by rw [HR.out]; rfl, below_drewN hb _⟩
  · have k1 : decide ((0 : Int) ≤ i) = false := decide_eq_false h1
    have HR : Hid (freshT r i g = false) := Lib.hid (by unfold freshT; rw [decide_eq_false h1]; simp)
    clear h h1
    go_enter Tryd.func55, Tryd.ntmps55
    go_wp2
    refine wp_region_quiet_lit (by kernel_rfl) (by kernel_rfl) ?_
    iterate 30
      with_reducible refine wpQuiet_step ?_
      intro K hK
      go_simp
      with_reducible refine hK _ ?_
      clear hK K
    refine wpQuiet_nil ?_
    intro _ hw'
    obtain ⟨nq, hw''⟩ := hw'
    subst hw''
    go_wp2
    go_ret
    exact ⟨by rw [HR.out]; rfl, below_drewN hb _⟩
end Go.Proofs.YtbdpbkblihaeiaaDoor
