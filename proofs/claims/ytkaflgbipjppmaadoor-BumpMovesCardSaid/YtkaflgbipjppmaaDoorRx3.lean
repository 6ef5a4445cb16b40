/- The document's Copy and New: walks. -/
import Derived.Test.YtkaflgbipjppmaaDoorRw3
import Derived.Maps.AppendAt
import Derived.Laws.AppendOwn
import Derived.Deep.AppendLies
namespace Go.Proofs.YtkaflgbipjppmaaDoor
open Go.RowKit
set_option linter.unusedVariables false
set_option linter.unusedSimpArgs false
variable {w w' : World} {G Wg Og size : Nat} {W W' own own' : List Int}
def encW (x : Int) : List Value := [.int .u64 x]
theorem rcopy_bad (h : RefSt w G Wg Og W size own) (t f n : Int) (hb : ¬ (inW W.length t n ∧ inW W.length f n)) :
    Calls Tryd.prog 67 #[.pointer (some ⟨G, 0, none⟩), .int .i64 t, .int .i64 f, .int .i64 n] w fun e w' => e = .returned (.int .i64 3) ∧ w = w' := by
  by_cases h1 : inW W.length t n
  · have h2 : ¬ inW W.length f n := fun e => hb ⟨h1, e⟩
    have HX := Lib.hid (rin_yes h t n h1)
    have HY := Lib.hid (rin_no h f n h2)
    clear h h1 h2 hb
    go_enter Tryd.func67, Tryd.ntmps67
    go_wp2_with (go_at_call 83; first | (refine HX.out.mono ?_; rintro e w1 ⟨rfl, rfl⟩; clear HX) | (refine HY.out.mono ?_; rintro e w1 ⟨rfl, rfl⟩; clear HY))
    go_ret
    exact ⟨rfl, rfl⟩
  · by_cases h2 : inW W.length f n
    · have HX := Lib.hid (rin_no h t n h1)
      have HY := Lib.hid (rin_yes h f n h2)
      clear h h1 h2 hb
      go_enter Tryd.func67, Tryd.ntmps67
      go_wp2_with (go_at_call 83; first | (refine HX.out.mono ?_; rintro e w1 ⟨rfl, rfl⟩; clear HX) | (refine HY.out.mono ?_; rintro e w1 ⟨rfl, rfl⟩; clear HY))
      go_ret
      exact ⟨rfl, rfl⟩
    · have HX := Lib.hid (rin_no h t n h1)
      have HY := Lib.hid (rin_no h f n h2)
      clear h h1 h2 hb
      go_enter Tryd.func67, Tryd.ntmps67
      go_wp2_with (go_at_call 83; first | (refine HX.out.mono ?_; rintro e w1 ⟨rfl, rfl⟩; clear HX) | (refine HY.out.mono ?_; rintro e w1 ⟨rfl, rfl⟩; clear HY))
      go_ret
      exact ⟨rfl, rfl⟩
theorem copyW_step {W : List Int} {t f m : Nat} (ht : t + m < W.length) (hf : f + m < W.length) : (copyW W t f m).set (t + m) (W.getD (f + m) 0) = copyW W t f (m + 1) := by
  have h1 : (copyW W t f m).length = W.length := length_splice _ _ _ (by simp; omega)
  have h2 : (copyW W t f (m + 1)).length = W.length := length_splice _ _ _ (by simp; omega)
  refine ext_getD (by rw [List.length_set, h1, h2]) (fun i hi => ?_)
  rw [List.length_set, h1] at hi
  rw [set_getD _ _ _ (by omega), copyW_get (by omega) (by omega), copyW_get (by omega) (by omega)]
  by_cases e : i = t + m
  · rw [if_pos e, if_pos (by omega), show f + (i - t) = f + m by omega]
  · rw [if_neg e]
    by_cases g : t ≤ i ∧ i < t + m
    · rw [if_pos g, if_pos (by omega)]
    · rw [if_neg g, if_neg (by omega)]
theorem slice_mod {P : Nat → Prop} {α : Type} {A : Option Addr} {size : Nat} {enc : α → List Value} {d : α} {l : List α} (h : SliceOf w A size enc d l) (hm : Mod P w w') (hn : ∀ b o, A = some ⟨b, o, none⟩ → l ≠ [] → ¬ P b) : SliceOf w' A size enc d l := fun i hi => by
  obtain ⟨b, o, e, h1⟩ := h i hi
  exact ⟨b, o, e, fun j v hj => hm.cell (h1 j v hj) (hn b o e (fun e => by rw [e] at hi; exact absurd hi (Nat.not_lt_zero _)))⟩
theorem copyW_zero (W : List Int) (t f : Nat) : copyW W t f 0 = W := by unfold copyW splice; simp
set_option maxRecDepth 100000 in
set_option maxHeartbeats 4000000 in
theorem rcopy_in (h : RefSt w G Wg Og W size own) (t f n : Nat) (ht : t + n ≤ W.length) (hf : f + n ≤ W.length) :
    Calls Tryd.prog 67 #[.pointer (some ⟨G, 0, none⟩), .int .i64 t, .int .i64 f, .int .i64 n] w fun e w' => (okW own size t n = true ∧ okW own size f n = true ∧ e = .returned (.int .i64 0) ∧ RefSt w' G Wg Og (copyW W t f n) size own ∧ Mod (Two3 Wg Og) w w') ∨
      (¬ (okW own size t n = true ∧ okW own size f n = true) ∧ e = .returned (.int .i64 17) ∧ Below w.heap.size w w') := by
  obtain ⟨i0, hi, hz0, hz1, hz2⟩ := info_parts info64
  have HI := Lib.hid hi
  have HZ0 := Lib.hid hz0
  have HZ1 := Lib.hid hz1
  have HZ2 := Lib.hid hz2
  clear hi hz0 hz1 hz2
  have hwl := h.wlen
  have HX := Lib.hid (rin_yes h (t : Int) (n : Int) (by unfold inW; omega))
  have HY := Lib.hid (rin_yes h (f : Int) (n : Int) (by unfold inW; omega))
  have H := Lib.hid h
  clear h
  go_enter Tryd.func67, Tryd.ntmps67
  go_wp2_with (go_at_call 83; first | (refine HX.out.mono ?_; rintro e w1 ⟨rfl, rfl⟩; clear HX) | (refine HY.out.mono ?_; rintro e w1 ⟨rfl, rfl⟩; clear HY))
  go_loopw [11, 12] (fun v11 v12 wr => ∃ j : Nat, j ≤ n ∧ v12 = .int .i64 j ∧ Hid (wr.ownsRow w.heap.size 46 1 v11 ((W.drop f).take j).length (((W.drop f).take j).flatMap encW)) ∧ Hid (Below w.heap.size w wr) ∧ Hid (okW own size t j = true ∧ okW own size f j = true)) (fun _ v12 _ => n - (intOf v12).toNat)
  case atStart => exact ⟨0, by omega, rfl, Lib.hid (World.ownsRow_nil _ _ _ _), Lib.hid (Below.refl _ _), Lib.hid ⟨rfl, rfl⟩⟩
  case round =>
    obtain ⟨j, hj, rfl, HR, HB, HO⟩ := hrel
    by_cases hlt : j < n
    · have HRr := Lib.hid (H.out.on HB.out)
      have HA1 := Lib.hid (rat_in HRr.out (t + j) (by omega))
      have HA2 := Lib.hid (rat_in HRr.out (f + j) (by omega))
      have k0 := HRr.out.c0
      have hcell := HRr.out.word_cell (f + j) (by omega)
      have hlen : ((W.drop f).take j).length = j := by simp; omega
      have htk : (W.drop f).take (j + 1) = (W.drop f).take j ++ [W.getD (f + j) 0] := by
        rw [List.take_add_one]; simp [List.getD, show f + j < W.length by omega]
      have hok : ∀ b : Nat, okW own size b (j + 1) = (okW own size b j && decide (own.getD ((b + j) / size) 0 ≠ 0)) := fun b => by unfold okW; rw [List.range_succ, List.all_append]; simp
      have HTK := Lib.hid htk
      have HOK := Lib.hid hok
      have HLEN := Lib.hid hlen
      generalize W.getD (f + j) 0 = x at *
      have hsz := HB.out.size
      clear htk hok hlen
      by_cases o1 : own.getD ((t + j) / size) 0 = 0
      · have hc1 : chE own ((t + j) / size) = 17 := if_pos o1
        rw [hc1] at HA1
        generalize chE own ((f + j) / size) = y2 at HA2
        have hbad : Hid (¬ (okW own size t n = true ∧ okW own size f n = true)) := Lib.hid (fun e => okW_iff.1 e.1 j hlt o1)
        clear o1 hc1
        go_wp2_with (go_at_call 66; first | (refine HA1.out.mono ?_; rintro e w1 ⟨rfl, rfl⟩; clear HA1) | (refine HA2.out.mono ?_; rintro e w1 ⟨rfl, rfl⟩; clear HA2))
        go_ret
        exact .inr ⟨hbad.out, rfl, HB.out⟩
      · have hc1 : chE own ((t + j) / size) = 0 := if_neg o1
        rw [hc1] at HA1
        by_cases o2 : own.getD ((f + j) / size) 0 = 0
        · have hc2 : chE own ((f + j) / size) = 17 := if_pos o2
          rw [hc2] at HA2
          have hbad : Hid (¬ (okW own size t n = true ∧ okW own size f n = true)) := Lib.hid (fun e => okW_iff.1 e.2 j hlt o2)
          clear o1 o2 hc1 hc2
          go_wp2_with (go_at_call 66; first | (refine HA1.out.mono ?_; rintro e w1 ⟨rfl, rfl⟩; clear HA1) | (refine HA2.out.mono ?_; rintro e w1 ⟨rfl, rfl⟩; clear HA2))
          go_ret
          exact .inr ⟨hbad.out, rfl, HB.out⟩
        · have hc2 : chE own ((f + j) / size) = 0 := if_neg o2
          rw [hc2] at HA2
          have HOn : Hid (okW own size t (j + 1) = true ∧ okW own size f (j + 1) = true) := Lib.hid (by rw [HOK.out, HOK.out, HO.out.1, HO.out.2]; simp [o1, o2, - List.getD_eq_getElem?_getD])
          clear o1 o2 hc1 hc2
          go_wp2_with (first | (go_at_call 66; first | (refine HA1.out.mono ?_; rintro e w1 ⟨rfl, rfl⟩; clear HA1) | (refine HA2.out.mono ?_; rintro e w1 ⟨rfl, rfl⟩; clear HA2)) | (at_builtin; refine wpList_append_own _ rfl _ _ 42 rfl w.heap.size 46 i0 (.int .u64 0) 1 8 Tryd.underlying42 HI.out HZ0.out HZ1.out HZ2.out rfl (by decide) _ _ _ rfl (own_on HR.out (below1 _ _)) ⟨_, 0, none⟩ 1 1 [.int .u64 x] rfl rfl (World.news_of_block (heap_alloc_new _ (.cells #[.int .u64 x] 46))) (by simp [Value.oneCell']) (by rw [HLEN.out]; unfold maxLen; omega) (by rw [HLEN.out]; omega) (by simp; omega) ?_; intro v' w5 hown' hgrow _))
          go_roundw
          case rel =>
            have hrow : ∀ z, Value.ownBlock u11 = some z → w.heap.size ≤ z := fun z e => (HR.out.lt z e).1
            have hba := HB.out.on (below1 wr (.cells #[.int .u64 x] 46))
            refine ⟨j + 1, by omega, by go_num, Lib.hid ?_, Lib.hid (hba.grown hgrow hba.size (fun z e => hrow z e)), HOn⟩
            rw [HTK.out]
            simpa [encW] using hown'
          case measure => simp [intOf]; omega
    · obtain rfl : j = n := by omega
      have hlen : ((W.drop f).take j).length = j := by simp; omega
      have hlt9 := HR.out.lt
      obtain ⟨A4, c4, rfl, hc4, hS4⟩ := own_slice encW 0 (fun _ => rfl) HR.out
      have HAB : Hid (∀ b o, A4 = some ⟨b, o, none⟩ → w.heap.size ≤ b) := Lib.hid (fun b o e => (hlt9 b (by rw [e]; rfl)).1)
      have HS4 := Lib.hid hS4
      have HFIN : Hid (RefSt wr G Wg Og (copyW W t f 0) size own ∧ Mod (Two3 Wg Og) w wr) := Lib.hid (by rw [copyW_zero]; exact ⟨H.out.on HB.out, .of_below HB.out⟩)
      have hlW := block_lt H.out.body
      rw [hlen] at hc4 ⊢
      clear hS4 HR hlt9 hlen
      go_wp2
      go_loopw [15] (fun v15 wx => ∃ m : Nat, m ≤ j ∧ v15 = .int .i64 m ∧ Hid (RefSt wx G Wg Og (copyW W t f m) size own ∧ Mod (Two3 Wg Og) w wx) ∧ Hid (SliceOf wx A4 1 encW 0 ((W.drop f).take j))) (fun v15 _ => j - (intOf v15).toNat)
      case atStart => exact ⟨0, by omega, rfl, HFIN, HS4⟩
      case round =>
        obtain ⟨m, hm, rfl, HX1, HS5⟩ := hrel
        clear HFIN HS4
        by_cases hlt2 : m < j
        · have hcl : (copyW W t f m).length = W.length := length_splice _ _ _ (by simp; omega)
          have k0 := HX1.out.1.c0
          rw [hcl] at k0
          have HST := Lib.hid (copyW_step (W := W) (t := t) (f := f) (m := m) (by omega) (by omega))
          obtain ⟨z, hz⟩ : ∃ z, z = t + m := ⟨_, rfl⟩
          have e3 : IntKind.i64.wrap ((t : Int) + (m : Int)) = (z : Int) := by rw [IntKind.wrap_i64]; omega
          have hzl : z < W.length := by omega
          rw [← hz] at HST
          clear hz
          have hcell := HX1.out.1.word_cell z (by omega)
          have hth := blk_thaw HX1.out.1.body z
          generalize (copyW W t f m).getD z 0 = u0 at hcell
          obtain ⟨b4, o4, rfl, hx0⟩ := HS5.out m (by simp; omega)
          have hx := hx0 0 _ rfl
          have hval : ((W.drop f).take j).getD m 0 = W.getD (f + m) 0 := by simp [List.getD, hlt2]
          rw [hval, Nat.add_zero, Nat.mul_one] at hx
          have hb4 := HAB.out b4 o4 rfl
          generalize W.getD (f + m) 0 = x at hx HST
          clear hx0 hcl hval
          go_wp2_with fail
          obtain ⟨w3, hw3⟩ : ∃ w3, w3 = wr.drew := ⟨_, rfl⟩
          refine still_tail_at 12 (by kernel_rfl) (by kernel_rfl) hw3 ?_
          have H3 : Hid (RefSt w3 G Wg Og (copyW W t f m) size own ∧ Mod (Two3 Wg Og) w w3) := Lib.hid (by rw [hw3]; exact ⟨HX1.out.1.on (Below.drew (Below.refl _ _)), HX1.out.2.drew⟩)
          have HS6 : Hid (SliceOf w3 (some ⟨b4, o4, none⟩) 1 encW 0 ((W.drop f).take j)) := Lib.hid (by rw [hw3]; exact HS5.out.on (Below.drew (Below.refl _ _)))
          replace k0 : w3.cell? ⟨G, 0, none⟩ = some (.slice (some ⟨Wg, 0, none⟩) W.length W.length) := by rw [hw3]; exact k0
          replace hcell : w3.cell? ⟨Wg, z, none⟩ = some (.int .u64 u0) := by rw [hw3]; exact hcell
          replace hx : w3.cell? ⟨b4, o4 + m, none⟩ = some (.int .u64 x) := by rw [hw3]; exact hx
          replace hth : w3.frozen? ⟨Wg, z, none⟩ = false := by rw [hw3]; exact hth
          clear hw3 HX1 HS5
          simp only [List.take_succ_cons, List.take_zero, List.drop_succ_cons, List.drop_zero]
          iterate 12
            with_reducible refine wpStill_step ?_
            intro K hK
            go_simp
            with_reducible refine hK _ ?_
            clear hK K
          refine wpStill_nil ?_
          go_wp2
          go_roundw
          case rel =>
            have hst := H3.out.1.setW z x
            refine ⟨m + 1, by omega, by go_num, Lib.hid ⟨?_, H3.out.2.trans (hst.2.mono fun i _ e => .inl e)⟩, Lib.hid (slice_mod HS6.out hst.2 (fun b o e _ => by cases e; show ¬ b4 = Wg; omega))⟩
            have h9 := hst.1
            rw [HST.out] at h9
            exact h9
          case measure => simp [intOf]; omega
        · obtain rfl : m = j := by omega
          go_wp2
          go_ret
          exact .inl ⟨HO.out.1, HO.out.2, rfl, HX1.out.1, HX1.out.2⟩
end Go.Proofs.YtkaflgbipjppmaaDoor
