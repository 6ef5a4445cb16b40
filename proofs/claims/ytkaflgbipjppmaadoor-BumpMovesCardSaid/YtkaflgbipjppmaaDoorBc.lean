/- cut: a walk. -/
import Derived.Test.YtkaflgbipjppmaaDoorBf
import Derived.Deep.RegionLawGrows
namespace Go.Proofs.YtkaflgbipjppmaaDoor
open Go.RowKit
set_option linter.unusedVariables false
set_option linter.unusedSimpArgs false
variable {w w' : World} {B Wb Ob p q size Pb bd at_ end_ : Nat} {v : Value} {parts : List (Nat × Nat)} {ow : Int}
/-- A cell of a part of a weak row. -/
theorem wrow_cell {w : World} {base g cap : Nat} {e : TypeId} (h : rowW w base e 2 (.slice (some ⟨g, 0, none⟩) parts.length cap) parts.length (parts.flatMap partEnc)) (j : Nat) (hj : j < parts.length) :
    w.cell? ⟨g, j * 2, none⟩ = some (.int .i64 ((parts.getD j (0, 0)).1 : Nat)) ∧ w.cell? ⟨g, j * 2 + 1, none⟩ = some (.int .i64 ((parts.getD j (0, 0)).2 : Nat)) := by
  obtain ⟨A, c, e1, e2, e3⟩ := wrow_slice partEnc (0, 0) (fun _ => rfl) h
  injection e1 with e1 e4 e5
  obtain ⟨b, o, h1, h2⟩ := e3 j hj
  rw [← e1] at h1
  injection h1 with h1
  injection h1 with h1 h3
  subst h1
  subst h3
  have g0 := h2 0 _ rfl
  have g1 := h2 1 _ rfl
  simp only [Nat.zero_add, Nat.add_zero] at g0 g1
  exact ⟨g0, g1⟩
def CutPost (w : World) (Pb B bd : Nat) (ow : Int) (v : Value) (parts : List (Nat × Nat)) (at_ end_ j : Nat) (e : Ending) (w' : World) : Prop :=
  e = .returned (.tuple #[]) ∧ ∃ v', SpaceAt w' Pb B bd ow v' (parts.take j ++ parts.drop (j + 1)) at_ end_ ∧ Mod (fun k => k = Pb) w w' ∧ (∀ k, v'.ownBlock = some k → v.ownBlock = some k ∨ w.heap.size ≤ k)
theorem flat_take : ∀ (l : List (Nat × Nat)) (k : Nat), (l.take k).flatMap partEnc = (l.flatMap partEnc).take (k * 2)
  | [], k => by simp
  | x :: l, 0 => by simp
  | x :: l, k + 1 => by
    have := flat_take l k
    simp only [List.take_succ_cons, List.flatMap_cons, this, Nat.succ_mul, partEnc]
    rfl
theorem flat_drop : ∀ (l : List (Nat × Nat)) (k : Nat), (l.drop k).flatMap partEnc = (l.flatMap partEnc).drop (k * 2)
  | [], k => by simp
  | x :: l, 0 => by simp
  | x :: l, k + 1 => by
    have := flat_drop l k
    simp only [List.drop_succ_cons, List.flatMap_cons, this, Nat.succ_mul, partEnc]
    rfl
theorem flat_len : ∀ l : List (Nat × Nat), (l.flatMap partEnc).length = l.length * 2
  | [] => rfl
  | x :: l => by
    have := flat_len l
    simp only [List.flatMap_cons, List.length_append, this, List.length_cons, Nat.succ_mul, partEnc, List.length_nil]
    omega
theorem one_cells (l : List (Nat × Nat)) : ∀ u ∈ l.flatMap partEnc, u.oneCell' = true := fun u hu => by
  obtain ⟨x, _, hx⟩ := List.mem_flatMap.1 hu
  simp only [partEnc, List.mem_cons, List.not_mem_nil, or_false] at hx
  rcases hx with rfl | rfl <;> rfl
theorem wrow_take {w : World} {base g cap j : Nat} {e : TypeId} (h : rowW w base e 2 (.slice (some ⟨g, 0, none⟩) parts.length cap) parts.length (parts.flatMap partEnc)) (hj : j ≤ parts.length) :
    rowW w base e 2 (.slice (some ⟨g, 0, none⟩) j j) j ((parts.take j).flatMap partEnc) := by
  refine ⟨by rw [flat_len, List.length_take]; omega, ?_⟩
  rcases h.2 with ⟨h1, _⟩ | ⟨g', cap', cur, hv, hg, hh, h1, h2, h3, h4⟩
  · cases h1
  · injection hv with e1 e2 e3
    injection e1 with e1
    injection e1 with e1
    subst e1
    refine .inr ⟨g, j, cur, rfl, hg, hh, Nat.le_refl _, by omega, by omega, ?_⟩
    rw [flat_take, ← h4, List.take_take, Nat.min_eq_left (by omega)]
theorem wrow_at {w : World} {base g cap : Nat} {e : TypeId} (h : rowW w base e 2 (.slice (some ⟨g, 0, none⟩) parts.length cap) parts.length (parts.flatMap partEnc)) (i : Nat) (u : Value) (hu : (parts.flatMap partEnc)[i]? = some u) : w.cell? ⟨g, i, none⟩ = some u := by
  have := h.cells (g := g) rfl i u hu
  have hadd : (⟨g, 0, none⟩ : Addr).add i = ⟨g, i, none⟩ := by unfold Addr.add; split <;> simp_all
  rwa [hadd] at this
theorem wrow_olds {w : World} {base g cap : Nat} {e : TypeId} (h : rowW w base e 2 (.slice (some ⟨g, 0, none⟩) parts.length cap) parts.length (parts.flatMap partEnc)) (j : Nat) : ∀ b, (some ⟨g, 0, none⟩ : Option Addr) = some b → ∀ i u, ((parts.take j).flatMap partEnc)[i]? = some u → w.cell? (b.add i) = some u := by
  rintro b hb i u hu
  injection hb with hb
  subst hb
  have hadd : (⟨g, 0, none⟩ : Addr).add i = ⟨g, i, none⟩ := by unfold Addr.add; split <;> simp_all
  rw [hadd]
  rw [flat_take, List.getElem?_take] at hu
  split at hu
  · exact wrow_at h i u hu
  · cases hu
theorem wrow_news {w : World} {base g cap : Nat} {e : TypeId} (h : rowW w base e 2 (.slice (some ⟨g, 0, none⟩) parts.length cap) parts.length (parts.flatMap partEnc)) (j : Nat) : ∀ i u, ((parts.drop j).flatMap partEnc)[i]? = some u → w.cell? ((⟨g, j * 2, none⟩ : Addr).add i) = some u := by
  intro i u hu
  have hadd : (⟨g, j * 2, none⟩ : Addr).add i = ⟨g, j * 2 + i, none⟩ := by unfold Addr.add; split <;> simp_all
  rw [hadd]
  rw [flat_drop, List.getElem?_drop] at hu
  exact wrow_at h _ u hu
/-- What a slot set to another row leaves. -/
theorem SpaceAt.cut {w X : World} {v v' : Value} {parts parts' : List (Nat × Nat)} (h : SpaceAt w Pb B bd ow v parts at_ end_) (hX : X.heap[Pb]? = some (.cells #[.pointer (some ⟨B, 0, none⟩), .int .i64 ow, v', .int .i64 at_, .int .i64 end_] 91 (0, 0)))
    (hr : rowW X bd 93 2 v' parts'.length (parts'.flatMap partEnc)) (hp : ∀ x ∈ parts', x ∈ parts) : SpaceAt X Pb B bd ow v' parts' at_ end_ :=
  ⟨hX, hr, h.le, h.e1, h.o1, fun x hx => h.pin x (hp x hx)⟩
theorem mem_cut {parts : List (Nat × Nat)} {j : Nat} : ∀ x ∈ parts.take j ++ parts.drop (j + 1), x ∈ parts := fun x hx => by
  rcases List.mem_append.1 hx with g | g
  · exact List.mem_of_mem_take g
  · exact List.mem_of_mem_drop g
theorem cut_last {w X : World} {g cap j : Nat} (h : SpaceAt X Pb B bd ow (.slice (some ⟨g, 0, none⟩) parts.length cap) parts at_ end_) (hb : Below w.heap.size w X) (hl : j + 1 = parts.length) :
    CutPost w Pb B bd ow (.slice (some ⟨g, 0, none⟩) parts.length cap) parts at_ end_ j (.returned (.tuple #[])) (X.setCell ⟨Pb, 2, none⟩ (.slice (some ⟨g, 0, none⟩) j j)).drew := by
  have hm : Mod (fun k => k = Pb) X (X.setCell ⟨Pb, 2, none⟩ (.slice (some ⟨g, 0, none⟩) j j)).drew := (Mod.setCell (fun k => k = Pb) X ⟨Pb, 2, none⟩ _ rfl).trans (.of_below (Below.drew (Below.refl _ _)))
  have hnp := h.np
  refine ⟨rfl, _, h.cut (blk_set h.head 2 _) ?_ mem_cut, (Mod.of_below hb).trans hm, fun k hk => .inl hk⟩
  have e1 : parts.take j ++ parts.drop (j + 1) = parts.take j := by rw [hl, List.drop_length, List.append_nil]
  rw [e1, List.length_take, Nat.min_eq_left (by omega)]
  exact wrow_mod (wrow_take h.row (by omega)) hm (fun k hk e => hnp (hk.trans (by rw [e])))
theorem cut_row {w X : World} {v' : Value} {j : Nat} {n : Nat} (h : w.ownsRow X.heap.size 93 2 v' n ((parts.take j).flatMap partEnc ++ (parts.drop (j + 1)).flatMap partEnc)) (hn : n = j + (parts.length - (j + 1))) (hbd : bd ≤ X.heap.size) (hj : j < parts.length) :
    rowW w bd 93 2 v' (parts.take j ++ parts.drop (j + 1)).length ((parts.take j ++ parts.drop (j + 1)).flatMap partEnc) := by
  have e1 : (parts.take j ++ parts.drop (j + 1)).length = n := by rw [List.length_append, List.length_take, List.length_drop]; omega
  rw [e1, List.flatMap_append]
  have h2 := rowW.of_own h
  refine ⟨h2.1, ?_⟩
  rcases h2.2 with h3 | ⟨g, cap, cur, hv, hg, r⟩
  · exact .inl h3
  · exact .inr ⟨g, cap, cur, hv, Nat.le_trans hbd hg, r⟩
theorem cut_mid {w X Y : World} {v v' : Value} {j : Nat} (h : SpaceAt X Pb B bd ow v parts at_ end_) (hb : Below w.heap.size w X) (hg : X.drew.grownBy Y none) (hr : rowW Y bd 93 2 v' (parts.take j ++ parts.drop (j + 1)).length ((parts.take j ++ parts.drop (j + 1)).flatMap partEnc))
    (hn : ∀ k, v'.ownBlock = some k → X.heap.size ≤ k) :
    CutPost w Pb B bd ow v parts at_ end_ j (.returned (.tuple #[])) (Y.setCell ⟨Pb, 2, none⟩ v') := by
  have hX : Mod (fun k => k = Pb) X Y := (Mod.of_below (Below.drew (Below.refl _ _))).trans ⟨hg.os, hg.tape, hg.output, hg.size, fun k hk _ => hg.block k hk (by simp)⟩
  have hY : Mod (fun k => k = Pb) Y (Y.setCell ⟨Pb, 2, none⟩ v') := Mod.setCell (fun k => k = Pb) Y ⟨Pb, 2, none⟩ _ rfl
  have hh : Y.heap[Pb]? = _ := (hg.block Pb (block_lt h.head) (by simp)).trans h.head
  refine ⟨rfl, v', h.cut (blk_set hh 2 _) (wrow_mod hr hY (fun k hk e => ?_)) mem_cut, ((Mod.of_below hb).trans hX).trans hY, fun k hk => .inr (Nat.le_trans hb.size (hn k hk))⟩
  have h1 := hn k hk
  have h2 := block_lt h.head
  omega
set_option maxRecDepth 100000 in
set_option maxHeartbeats 2000000 in
theorem cut_any (h : SpaceAt w Pb B bd ow v parts at_ end_) (hpl : parts.length ≤ 1000000) (hbd : bd ≤ w.heap.size) (j m n : Nat) (hj : j < parts.length) (hx : parts.getD j (0, 0) = (m, n)) (hf : ∀ i, i < j → (parts.getD i (0, 0)).1 ≠ m) :
    Calls Tryd.prog 62 #[.pointer (some ⟨Pb, 0, none⟩), .agg #[.int .i64 m, .int .i64 n]] w (CutPost w Pb B bd ow v parts at_ end_ j) := by
  obtain ⟨i0, hi, hz0, hz1, hz2⟩ := info_parts infoPart
  have HI := Lib.hid hi
  have HZ0 := Lib.hid hz0
  have HZ1 := Lib.hid hz1
  have HZ2 := Lib.hid hz2
  clear hi hz0 hz1 hz2
  obtain ⟨g, cap, hv, hnc, hcap⟩ : ∃ g cap, v = .slice (some ⟨g, 0, none⟩) parts.length cap ∧ parts.length ≤ cap ∧ cap ≤ maxLen := by
    rcases h.row.2 with ⟨_, h0⟩ | ⟨g, cap, cur, hv, _, _, h1, h2, _⟩
    · omega
    · exact ⟨g, cap, hv, h1, h2⟩
  subst hv
  have hcap2 : cap ≤ 9223372036854775807 := hcap
  have hb0 := below1 w (.cells #[.int .i64 m, .int .i64 n] 93)
  have hk0 := heap_alloc_new w (.cells #[.int .i64 m, .int .i64 n] 93)
  have H := Lib.hid h
  have HB0 := Lib.hid hb0
  have HK0 := Lib.hid hk0
  have HJX := Lib.hid hx
  have HF := Lib.hid hf
  have d2 := (h.on hb0).c2
  clear h hx hf hb0 hk0 hcap
  go_enter Tryd.func62, Tryd.ntmps62
  go_wp2
  go_loopw [11] (fun v11 wr => ∃ i : Nat, i ≤ j ∧ v11 = .int .i64 i ∧ Hid (Below w.heap.size w wr ∧ wr.heap[w.heap.size]? = some (.cells #[.int .i64 m, .int .i64 n] 93 (0, 0)))) (fun v11 _ => j - (intOf v11).toNat)
  case atStart => exact ⟨0, by omega, rfl, Lib.hid ⟨HB0.out, HK0.out⟩⟩
  case round =>
    obtain ⟨i, hi, rfl, HB⟩ := hrel
    have hsz := block_lt HB.out.2
    have HW := Lib.hid (H.out.on HB.out.1)
    obtain ⟨e0, e1⟩ := wrow_cell HW.out.row i (by omega)
    have kb0 := (blk_cells HB.out.2 0).trans rfl
    have kb1 := (blk_cells HB.out.2 1).trans rfl
    have hlt : i < parts.length := by omega
    by_cases hij : i < j
    · obtain ⟨m2, n2, hx2⟩ : ∃ m2 n2, parts.getD i (0, 0) = (m2, n2) := ⟨_, _, rfl⟩
      have hne : ¬ m2 = m := fun e => HF.out i hij (by rw [hx2]; exact e)
      have hne2 : ¬ (m2 : Int) = (m : Int) := by omega
      rw [hx2] at e0 e1
      replace e0 : wr.cell? ⟨g, i * 2, none⟩ = some (.int .i64 (m2 : Nat)) := e0
      replace e1 : wr.cell? ⟨g, i * 2 + 1, none⟩ = some (.int .i64 (n2 : Nat)) := e1
      have tk := heap_alloc_new wr (.cells #[.int .i64 (m2 : Nat), .int .i64 (n2 : Nat)] 93)
      have k0 := (blk_cells tk 0).trans rfl
      have k1 := (blk_cells tk 1).trans rfl
      have hr2 := ((below1 wr (.cells #[.int .i64 (m2 : Nat), .int .i64 (n2 : Nat)] 93)).block _ hsz).trans HB.out.2
      have HBb := Lib.hid (And.intro (HB.out.1.on (below1 wr (.cells #[.int .i64 (m2 : Nat), .int .i64 (n2 : Nat)] 93))) hr2)
      clear hx2 tk hr2
      go_wp2
      go_roundw
      case rel => exact ⟨i + 1, by omega, by go_num, HBb⟩
      case measure => simp [intOf]; omega
    · obtain rfl : j = i := by omega
      rw [HJX.out] at e0 e1
      replace e0 : wr.cell? ⟨g, j * 2, none⟩ = some (.int .i64 (m : Nat)) := e0
      replace e1 : wr.cell? ⟨g, j * 2 + 1, none⟩ = some (.int .i64 (n : Nat)) := e1
      have tk := heap_alloc_new wr (.cells #[.int .i64 (m : Nat), .int .i64 (n : Nat)] 93)
      have k0 := (blk_cells tk 0).trans rfl
      have k1 := (blk_cells tk 1).trans rfl
      have hr2 := ((below1 wr (.cells #[.int .i64 (m : Nat), .int .i64 (n : Nat)] 93)).block _ hsz).trans HB.out.2
      have HBb := Lib.hid (And.intro (HB.out.1.on (below1 wr (.cells #[.int .i64 (m : Nat), .int .i64 (n : Nat)] 93))) hr2)
      have HW2 := Lib.hid (H.out.on HBb.out.1)
      have s2 := HW2.out.c2
      have s2t := blk_thaw HW2.out.head 2
      clear tk hr2
      go_wp2_with fail
      have q1 : j ≤ cap := by omega
      have q2 : IntKind.i64.wrap ((j : Int) + 1) = ((j + 1 : Nat) : Int) := by rw [IntKind.wrap_i64]; omega
      have q3 : j + 1 ≤ parts.length := hj
      have q4 : parts.length ≤ cap := hnc
      have q5 : j ≤ parts.length := by omega
      by_cases hlast : j + 1 = parts.length
      · have HLA := Lib.hid hlast
        by_cases hce : cap = parts.length
        · go_region_law (fail)
          all_goals
            go_wp2
            refine bodyPost_ret (results_none rfl _ _ _) rfl ?_
            subst hce
            exact cut_last HW2.out HBb.out.1 HLA.out
        · go_region_law (fail)
          all_goals
            go_wp2
            exact bodyPost_ret (results_none rfl _ _ _) rfl (cut_last HW2.out HBb.out.1 HLA.out)
      · have hnp := HW2.out.np
        have hlp := block_lt HW2.out.head
        have q6 : ¬ cap = j + 1 := by omega
        have q7 : j + 1 ≤ cap := by omega
        have q8 : (0 : Int) ≤ (j : Int) + 1 := by omega
        have q9 : (j : Int) + 1 ≤ (parts.length : Int) := by omega
        have hln : (parts.take j ++ parts.drop (j + 1)).length = j + (parts.length - (j + 1)) := by rw [List.length_append, List.length_take, List.length_drop]; omega
        have HLN := Lib.hid hln
        clear hln
        have hbd2 : bd ≤ (wr.alloc (.cells #[.int .i64 m, .int .i64 n] 93)).heap.size := Nat.le_trans hbd HBb.out.1.size
        go_region_law (refine step_append_grows rfl (.tmp 26) (.tmp 33) 89 rfl 93 i0 (.agg #[.int .i64 0, .int .i64 0]) 2 16 Tryd.underlying89 HI.out HZ0.out HZ1.out HZ2.out rfl (by decide) (some ⟨g, 0, none⟩) j j ((parts.take j).flatMap partEnc) (by simp [Act.eval, Act.put]) (by intro e; cases e) (by rw [flat_len, List.length_take]; omega) (wrow_olds (w := (wr.alloc (.cells #[.int .i64 m, .int .i64 n] 93)).drew) HW2.out.row j) ⟨g, (j + 1) * 2, none⟩ (parts.length - (j + 1)) (cap - (j + 1)) ((parts.drop (j + 1)).flatMap partEnc) (by simp [Act.eval, Act.put]) (by rw [flat_len, List.length_drop]) (wrow_news (w := (wr.alloc (.cells #[.int .i64 m, .int .i64 n] 93)).drew) HW2.out.row (j + 1)) (one_cells _) (by omega) (by unfold maxLen; omega) (by omega) ?_; intro v' w' hown' hgrow; have HRW := Lib.hid (cut_row hown' rfl hbd2 hj); have HON := Lib.hid hown'; have HGR := Lib.hid hgrow; obtain ⟨A4, c4, e4, -, -⟩ := wrow_slice partEnc (0, 0) (fun _ => rfl) HRW.out; rw [HLN.out] at e4; subst e4; have K7 := (hgrow.block Pb hlp (by simp)).trans HW2.out.head; have g2 := (blk_cells K7 2).trans rfl; have t2 := blk_thaw K7 2; clear hown' hgrow K7)
        all_goals
          go_wp2
          exact bodyPost_ret (results_none rfl _ _ _) rfl (cut_mid HW2.out HBb.out.1 HGR.out HRW.out (fun k hk => (HON.out.lt k hk).1))
end Go.Proofs.YtkaflgbipjppmaaDoor
