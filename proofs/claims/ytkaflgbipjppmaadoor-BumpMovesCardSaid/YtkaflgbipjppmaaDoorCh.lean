/- Chunks of a space; two spaces on a store: walks. -/
import Derived.Test.YtkaflgbipjppmaaDoorSp
namespace Go.Proofs.YtkaflgbipjppmaaDoor
open Go.RowKit
set_option linter.unusedVariables false
set_option linter.unusedSimpArgs false
variable {w w' : World} {B Wb Ob p q size Pb bd at_ end_ : Nat} {W W' own own' : List Int} {v : Value} {parts : List (Nat × Nat)} {ow : Int}
def encN (x : Nat) : List Value := [.int .i64 x]
/-- The chunks of a part. -/
def chunkL (x : Nat × Nat) : List Nat := (List.range x.2).map (x.1 + ·)
/-- The chunks of some parts. -/
def chunksL (parts : List (Nat × Nat)) : List Nat := parts.flatMap chunkL
theorem chunksL_snoc (l : List (Nat × Nat)) (x : Nat × Nat) : chunksL (l ++ [x]) = chunksL l ++ chunkL x := by simp [chunksL]
theorem chunksL_le (l : List (Nat × Nat)) (h : ∀ x ∈ l, x.1 + x.2 ≤ 1024) : (chunksL l).length ≤ 1024 * l.length := by
  unfold chunksL
  induction l with
  | nil => simp
  | cons x r ih =>
    have h1 := ih (fun y hy => h y (List.mem_cons_of_mem _ hy))
    have h2 := h x (by simp)
    simp only [List.flatMap_cons, List.length_append, List.length_cons]
    have : (chunkL x).length = x.2 := by simp [chunkL]
    omega
theorem part_at {A : Option Addr} (h : SliceOf w A 2 partEnc (0, 0) parts) (k : Nat) (hk : k < parts.length) : ∃ b o, A = some ⟨b, o, none⟩ ∧ w.cell? ⟨b, o + k * 2, none⟩ = some (.int .i64 (parts.getD k (0, 0)).1) ∧ w.cell? ⟨b, o + k * 2 + 1, none⟩ = some (.int .i64 (parts.getD k (0, 0)).2) := by
  obtain ⟨b, o, e, h1⟩ := h k hk
  exact ⟨b, o, e, h1 0 _ rfl, h1 1 _ rfl⟩
theorem chunks_nil (w : World) : Calls Tryd.prog 19 #[.pointer none] w fun e w' => e = .returned (.slice none 0 0) ∧ w = w' := by
  go_enter Tryd.func19, Tryd.ntmps19
  go_wp2
  go_ret
  exact ⟨rfl, rfl⟩
def ChunksPost (parts : List (Nat × Nat)) (w : World) (e : Ending) (w' : World) : Prop := ∃ A c, e = .returned (.slice A (chunksL parts).length c) ∧ w'.ownsRow w.heap.size 3 1 (.slice A (chunksL parts).length c) (chunksL parts).length ((chunksL parts).flatMap encN) ∧ Below w.heap.size w w'
set_option maxRecDepth 100000 in
set_option maxHeartbeats 4000000 in
theorem chunks_sp (h : SpaceAt w Pb B bd ow v parts at_ end_) (hpl : parts.length ≤ 1000000) : Calls Tryd.prog 19 #[.pointer (some ⟨Pb, 0, none⟩)] w (ChunksPost parts w) := by
  obtain ⟨i0, hi, hz0, hz1, hz2⟩ := info_parts infoI
  have HI := Lib.hid hi
  have HZ0 := Lib.hid hz0
  have HZ1 := Lib.hid hz1
  have HZ2 := Lib.hid hz2
  clear hi hz0 hz1 hz2
  have hlen := chunksL_le parts h.pin
  obtain ⟨A2, c2, rfl, hc2, hS2⟩ := wrow_slice partEnc (0, 0) (fun _ => rfl) h.row
  have HS2 := Lib.hid hS2
  have HPIN := Lib.hid h.pin
  have d2 := h.c2
  clear h hS2
  go_enter Tryd.func19, Tryd.ntmps19
  go_wp2
  go_loopw [3, 15] (fun v3 v15 wr => ∃ i : Nat, i ≤ parts.length ∧ v15 = .int .i64 i ∧ Hid (wr.ownsRow w.heap.size 3 1 v3 (chunksL (parts.take i)).length ((chunksL (parts.take i)).flatMap encN)) ∧ Hid (Below w.heap.size w wr)) (fun _ v15 _ => parts.length - (intOf v15).toNat)
  case atStart => exact ⟨0, by omega, rfl, Lib.hid (World.ownsRow_nil _ _ _ _), Lib.hid (Below.refl _ _)⟩
  case round =>
    obtain ⟨i, hi, rfl, HR, HB⟩ := hrel
    by_cases hlt : i < parts.length
    · obtain ⟨b2, o2, rfl, e0, e1⟩ := part_at (HS2.out.on HB.out) i hlt
      have hmem : parts.getD i (0, 0) ∈ parts := by
        have : parts.getD i (0, 0) = parts[i] := by simp [List.getD, hlt]
        rw [this]; exact List.getElem_mem hlt
      have hpin := HPIN.out _ hmem
      have htk : parts.take (i + 1) = parts.take i ++ [parts.getD i (0, 0)] := by
        rw [List.take_add_one]; simp [List.getD, hlt]
      have htl := chunksL_le (parts.take i) (fun x hx => HPIN.out x (List.mem_of_mem_take hx))
      have htl2 : (parts.take i).length ≤ 1000000 := by rw [List.length_take]; omega
      generalize parts.getD i (0, 0) = x at *
      obtain ⟨f, m⟩ := x
      replace hpin : f + m ≤ 1024 := hpin
      replace e0 : wr.cell? ⟨b2, o2 + i * 2, none⟩ = some (.int .i64 (f : Nat)) := e0
      replace e1 : wr.cell? ⟨b2, o2 + i * 2 + 1, none⟩ = some (.int .i64 (m : Nat)) := e1
      have HTK := Lib.hid htk
      generalize hL : chunksL (parts.take i) = L at *
      have HL := Lib.hid hL
      have tk := heap_alloc_new wr (.cells #[.int .i64 (f : Nat), .int .i64 (m : Nat)] 93)
      have k0 := (blk_cells tk 0).trans rfl
      have k1 := (blk_cells tk 1).trans rfl
      have HBb := Lib.hid (HB.out.on (below1 wr (.cells #[.int .i64 (f : Nat), .int .i64 (m : Nat)] 93)))
      have HRb := Lib.hid (own_on HR.out (below1 wr (.cells #[.int .i64 (f : Nat), .int .i64 (m : Nat)] 93)))
      have hbs := HB.out.size
      have hL2 : L.length ≤ 1024000000 := by omega
      clear hL htk hmem htl htl2
      obtain ⟨wo, hwo⟩ : ∃ wo, wo = wr := ⟨_, rfl⟩
      subst hwo
      go_wp2
      go_loopw [3, 21] (fun v3 v21 wx => ∃ j : Nat, j ≤ m ∧ v21 = .int .i64 j ∧ Hid (wx.ownsRow w.heap.size 3 1 v3 (L ++ (List.range j).map (f + ·)).length ((L ++ (List.range j).map (f + ·)).flatMap encN)) ∧ Hid (Below w.heap.size w wx ∧ wx.heap[wo.heap.size]? = some (.cells #[.int .i64 (f : Nat), .int .i64 (m : Nat)] 93 (0, 0)))) (fun _ v21 _ => m - (intOf v21).toNat)
      case atStart => exact ⟨0, by omega, rfl, by simpa using HRb, Lib.hid ⟨HBb.out, tk⟩⟩
      case round =>
        obtain ⟨j, hj, rfl, HRj, HBj⟩ := hrel
        clear k0 k1 tk
        have k0 := (blk_cells HBj.out.2 0).trans rfl
        by_cases hlt2 : j < m
        · have hL3 : (L ++ (List.range j).map (f + ·)).length = L.length + j := by simp
          have hL4 : L ++ (List.range (j + 1)).map (f + ·) = (L ++ (List.range j).map (f + ·)) ++ [f + j] := by rw [List.range_succ]; simp
          have HL4 := Lib.hid hL4
          have hsz := HBj.out.1.size
          have hfw : IntKind.i64.wrap ((f : Int) + (j : Int)) = ((f + j : Nat) : Int) := by rw [IntKind.wrap_i64]; omega
          generalize hM : L ++ (List.range j).map (f + ·) = M at *
          clear hL4 hM
          go_wp2_with (at_builtin; refine wpList_append_own _ rfl _ _ 22 rfl w.heap.size 3 i0 (.int .i64 0) 1 8 Tryd.underlying22 HI.out HZ0.out HZ1.out HZ2.out rfl (by decide) _ _ _ rfl (own_on HRj.out (below1 _ _)) ⟨_, 0, none⟩ 1 1 [.int .i64 (f + j : Nat)] rfl rfl (World.news_of_block (heap_alloc_new _ (.cells #[.int .i64 (f + j : Nat)] 3))) (by simp [Value.oneCell']) (by unfold maxLen; omega) (by omega) (by simp; omega) ?_; intro v' w5 hown' hgrow _)
          go_roundw
          case rel =>
            have hrow : ∀ z, Value.ownBlock u3 = some z → w.heap.size ≤ z := fun z e => (HRj.out.lt z e).1
            have hba := HBj.out.1.on (below1 wr (.cells #[.int .i64 (f + j : Nat)] 3))
            have hnp : some wo.heap.size ≠ u3.ownBlock := fun e => own_type HRj.out HBj.out.2 (by decide) e.symm
            refine ⟨j + 1, by omega, by go_num, Lib.hid ?_, Lib.hid ⟨hba.grown hgrow hba.size (fun z e => hrow z e), (hgrow.block _ (by have := block_lt HBj.out.2; simp; omega) hnp).trans ((Below.heap_alloc wr _ _ (block_lt HBj.out.2)).trans HBj.out.2)⟩⟩
            rw [HL4.out]
            simpa [encN] using hown'
          case measure => simp [intOf]; omega
        · obtain rfl : j = m := by omega
          go_wp2
          go_roundw
          case rel => exact ⟨i + 1, by omega, by go_num, Lib.hid (by rw [HTK.out, chunksL_snoc, HL.out]; exact HRj.out), Lib.hid HBj.out.1⟩
          case measure => simp [intOf]; omega
    · obtain rfl : i = parts.length := by omega
      rw [List.take_length] at HR
      obtain ⟨A4, c4, rfl, -, -⟩ := own_slice encN 0 (fun _ => rfl) HR.out
      go_wp2
      go_ret
      exact ⟨A4, c4, rfl, HR.out, HB.out⟩
end Go.Proofs.YtkaflgbipjppmaaDoor
