/- Drop: a walk. -/
import Derived.Test.YtkaflgbipjppmaaDoorBc
import Derived.Test.YtkaflgbipjppmaaDoorSy
namespace Go.Proofs.YtkaflgbipjppmaaDoor
open Go.RowKit
set_option linter.unusedVariables false
set_option linter.unusedSimpArgs false
variable {w w' : World} {B Wb Ob p q size Pb bd at_ end_ : Nat} {W own : List Int} {v : Value} {parts : List (Nat × Nat)} {ow : Int}
theorem drop_no (h : SpaceAt w Pb B bd ow v parts at_ end_) (hpl : parts.length ≤ 1000000) (f : Int) (hf : findI parts f = parts.length) : Calls Tryd.prog 34 #[.pointer (some ⟨Pb, 0, none⟩), .int .i64 f] w fun e w' => e = .returned (.int .i64 6) ∧ Below w.heap.size w w' := by
  have HE0 := find_any h hpl f
  rw [hf, decide_eq_false (Nat.lt_irrefl _)] at HE0
  have HE := Lib.hid HE0
  clear h HE0
  go_enter Tryd.func34, Tryd.ntmps34
  go_wp2_with fail
  refine HE.out.mono ?_
  rintro e w2 ⟨rfl, hb2⟩
  have HB2 := Lib.hid hb2
  clear hb2
  go_wp2
  go_ret
  exact ⟨rfl, HB2.out.on (below1 _ _)⟩
/-- What Drop turns. -/
def DropS (Wb Ob p q Pb : Nat) (k : Nat) : Prop := Four3 Wb Ob p q k ∨ k = Pb
/-- Is the present chunk dropped? -/
def dropP (size end_ m n : Nat) : Bool := decide (n = 1) && decide (end_ = (m + 1) * size)
theorem dropP_yes {size end_ m : Nat} (h : end_ = (m + 1) * size) : dropP size end_ m 1 = true := by simp [dropP, h]
theorem dropP_not {size end_ m : Nat} (h : end_ ≠ (m + 1) * size) : dropP size end_ m 1 = false := by simp [dropP, h]
def DropPost (w : World) (B Wb Ob p q : Nat) (W : List Int) (size : Nat) (own : List Int) (Pb bd : Nat) (ow : Int) (v : Value) (parts : List (Nat × Nat)) (at_ end_ j m n : Nat) (e : Ending) (w' : World) : Prop :=
  e = .returned (.int .i64 0) ∧ ∃ v', SpaceAt w' Pb B bd ow v' (parts.take j ++ parts.drop (j + 1)) (if dropP size end_ m n then 0 else at_) (if dropP size end_ m n then 0 else end_) ∧ StoreAt w' B Wb Ob p q W size (fillO own m 0 n) ∧ Mod (DropS Wb Ob p q Pb) w w' ∧ (∀ k, v'.ownBlock = some k → v.ownBlock = some k ∨ w.heap.size ≤ k)
set_option maxRecDepth 100000 in
set_option maxHeartbeats 2000000 in
theorem drop_any (h : SpaceAt w Pb B bd ow v parts at_ end_) (hs : StoreAt w B Wb Ob p q W size own) (hpl : parts.length ≤ 1000000) (hbd : bd ≤ w.heap.size) (j m n : Nat) (hj : findI parts m = j) (hjl : j < parts.length) (hx : parts.getD j (0, 0) = (m, n)) (hf : ∀ i, i < j → (parts.getD i (0, 0)).1 ≠ m) (ho : ∀ c, c < n → own.getD (m + c) 0 ≠ 0) (hol : m + n ≤ own.length) :
    Calls Tryd.prog 34 #[.pointer (some ⟨Pb, 0, none⟩), .int .i64 m] w (DropPost w B Wb Ob p q W size own Pb bd ow v parts at_ end_ j m n) := by
  have HE0 := find_any h hpl m
  rw [hj, hx, decide_eq_true hjl] at HE0
  have HE := Lib.hid HE0
  have H := Lib.hid h
  have HS := Lib.hid hs
  have HO := Lib.hid ho
  have HX := Lib.hid hx
  have HF := Lib.hid hf
  have hol2 := hs.o2
  have hs1 := hs.s1
  have hs2 := hs.s2
  have he1 := h.e1
  clear h hs HE0 ho hx hf hj
  go_enter Tryd.func34, Tryd.ntmps34
  go_wp2_with fail
  refine HE.out.mono ?_
  rintro e w1 ⟨rfl, hb1⟩
  have hba := below1 w1 (.cells #[.int .i64 m, .int .i64 n] 93)
  have hk := heap_alloc_new w1 (.cells #[.int .i64 m, .int .i64 n] 93)
  have k0 := (blk_cells hk 0).trans rfl
  have k1 := (blk_cells hk 1).trans rfl
  have hbz : Below w.heap.size w (w1.alloc (.cells #[.int .i64 m, .int .i64 n] 93)) := hb1.on hba
  have hbx : w1.heap.size ≠ Pb := by
    have h1 := block_lt H.out.head
    have h2 := hb1.size
    omega
  have HC := Lib.hid (cut_any (H.out.on hbz) hpl (Nat.le_trans hbd hbz.size) j m n hjl HX.out HF.out)
  have HBZ := Lib.hid hbz
  have HK := Lib.hid hk
  have HWZ := Lib.hid hb1.size
  clear hb1 hba hk hbz HE
  go_wp2_with fail
  refine HC.out.mono ?_
  rintro e w2 ⟨rfl, v2, hP2, hM2, hv2⟩
  have HK2 := Lib.hid (hM2.keeps HK.out hbx)
  have hM3 : Mod (fun k => k = Pb) w w2 := (Mod.of_below HBZ.out).trans hM2
  have HP2 := Lib.hid hP2
  have HM3 : Hid (Mod (DropS Wb Ob p q Pb) w w2) := Lib.hid (hM3.mono fun k _ e => .inr e)
  have HS2 := Lib.hid (HS.out.mod hM3 (fun k hk e => (H.out.far HS.out k hk).1 e))
  have HFAR := Lib.hid (hP2.far (HS.out.mod hM3 (fun k hk e => (H.out.far HS.out k hk).1 e)))
  have HV2 : Hid (∀ k, v2.ownBlock = some k → v.ownBlock = some k ∨ w.heap.size ≤ k) := Lib.hid fun k hk => (hv2 k hk).imp (fun e => e) (fun e => Nat.le_trans HBZ.out.size e)
  have k1 := (blk_cells HK2.out 1).trans rfl
  have hb4 : ∀ k, Four3 Wb Ob p q k → k ≠ w1.heap.size := fun k hk e => by
    have hst := HS.out
    obtain ⟨u, hu⟩ := hst.map
    have h2 := HWZ.out
    rcases hk with g | g | g | g
    · have := block_lt hst.body; omega
    · have := block_lt hst.owners; omega
    · have := hu.plt; omega
    · have := hu.qlt; omega
  have HB4 := Lib.hid hb4
  clear hP2 hM2 hM3 hv2 HC k0 hb4 H
  go_wp2_with fail
  go_loopw [23] (fun v23 wr => ∃ c : Nat, c ≤ n ∧ v23 = .int .i64 c ∧ Hid (SpaceAt wr Pb B bd ow v2 (parts.take j ++ parts.drop (j + 1)) at_ end_ ∧ StoreAt wr B Wb Ob p q W size (fillO own m 0 c) ∧ Mod (DropS Wb Ob p q Pb) w wr ∧ wr.heap[w1.heap.size]? = some (.cells #[.int .i64 m, .int .i64 n] 93 (0, 0)))) (fun v23 _ => n - (intOf v23).toNat)
  case atStart => exact ⟨0, by omega, rfl, Lib.hid ⟨HP2.out, HS2.out, HM3.out, HK2.out⟩⟩
  case round =>
    obtain ⟨c, hc, rfl, HR⟩ := hrel
    have c0 := HR.out.1.c0
    have b0 := (blk_cells HR.out.2.2.2 0).trans rfl
    by_cases hcn : c < n
    · have HRL : Hid (∀ Y, Below wr.heap.size wr Y → Calls Tryd.prog 28 #[.pointer (some ⟨B, 0, none⟩), .int .i64 ((m : Int) + (c : Int))] Y fun e w' => e = .returned (.int .i64 0) ∧ StoreAt w' B Wb Ob p q W size (fillO own m 0 (c + 1)) ∧ Mod (Four3 Wb Ob p q) wr w') := Lib.hid (fun Y hY => by
        have h1 := release_in (HR.out.2.1.on hY) (m + c) (by rw [fillO_length]; omega) (by rw [fillO_getD own m 0 _ c (by omega), if_neg (by omega)]; exact HO.out c hcn)
        rw [show ((m + c : Nat) : Int) = (m : Int) + (c : Int) by omega] at h1
        exact h1.mono fun e w' ⟨h2, h3, h4⟩ => ⟨h2, h3, (Mod.of_below hY).trans h4⟩)
      have q1 : IntKind.i64.wrap ((m : Int) + (c : Int)) = (m : Int) + (c : Int) := by rw [IntKind.wrap_i64]; omega
      have q2 := (blk_cells HR.out.2.2.2 0).trans rfl
      go_wp2_with fail
      go_region_with (go_at_call 28; refine (HRL.out _ (Below.drew (Below.refl _ _))).mono ?_; rintro e w5 ⟨rfl, hS5, hM5⟩)
      all_goals
        have HR5 : Hid (SpaceAt w5 Pb B bd ow v2 (parts.take j ++ parts.drop (j + 1)) at_ end_ ∧ StoreAt w5 B Wb Ob p q W size (fillO own m 0 (c + 1)) ∧ Mod (DropS Wb Ob p q Pb) w w5 ∧ w5.heap[w1.heap.size]? = some (.cells #[.int .i64 m, .int .i64 n] 93 (0, 0))) := Lib.hid ⟨HR.out.1.mod hM5 (fun e => (HFAR.out _ (.inr e)).1 rfl) (fun k hk e => (HFAR.out k (.inr e)).2 hk), hS5, HR.out.2.2.1.trans (hM5.mono fun k _ e => .inl e), hM5.keeps HR.out.2.2.2 (fun e => HB4.out _ e rfl)⟩
        clear hS5 hM5 HRL
        go_wp2
        go_roundw
        case rel => exact ⟨c + 1, by omega, by go_num, HR5⟩
        case measure => simp [intOf]; omega
    · obtain rfl : n = c := by omega
      have b1 := (blk_cells HR.out.2.2.2 1).trans rfl
      have c4 := HR.out.1.c4
      by_cases hn1 : n = 1
      · subst hn1
        obtain ⟨x, hx⟩ : ∃ x, x = (m + 1) * size := ⟨_, rfl⟩
        have hx2 : x ≤ 1048576 := by rw [hx]; exact Nat.le_trans (Nat.mul_le_mul (show m + 1 ≤ 1024 by omega) hs2) (by decide)
        have r1 : IntKind.i64.wrap ((m : Int) + 1) = (m : Int) + 1 := by rw [IntKind.wrap_i64]; omega
        have r2 : IntKind.i64.wrap (((m : Int) + 1) * (size : Int)) = (x : Int) := by
          rw [show (((m : Int) + 1) * (size : Int)) = (x : Int) by rw [hx]; simp, IntKind.wrap_i64]; omega
        have HX2 := Lib.hid hx
        have HWQ : Hid (∀ k2, Calls Tryd.prog 39 #[.pointer (some ⟨B, 0, none⟩)] (wr.drewN k2) fun e w' => e = .returned (.int .i64 size) ∧ w' = wr.drewN k2) := Lib.hid (fun k2 => (words_any (HR.out.2.1.on (below_drewN (Below.refl _ _) k2))).mono fun e w' ⟨h1, h2⟩ => ⟨h1, h2.symm⟩)
        clear hx hx2
        by_cases hex : end_ = x
        · have HDP : Hid (dropP size end_ m 1 = true) := Lib.hid (dropP_yes (by rw [hex, HX2.out]))
          have f1 : ((end_ : Int) == (x : Int)) = true := by rw [hex]; simp
          have c3 := HR.out.1.c3
          have t3 := blk_thaw HR.out.1.head 3
          have t4 := blk_thaw HR.out.1.head 4
          clear hex
          go_wp2_with fail
          go_quiet ((go_at_call 39; exact Calls.quiet_of_same (HWQ.out _)))
          go_wp2
          go_ret
          have hY := HR.out.1.on (below_drewN (Below.refl _ _) nq)
          have hm : Mod (fun k => k = Pb) (wr.drewN nq) (((wr.drewN nq).setCell ⟨Pb, 3, none⟩ (.int .i64 0)).setCell ⟨Pb, 4, none⟩ (.int .i64 0)) := (Mod.setCell (fun k => k = Pb) _ ⟨Pb, 3, none⟩ _ rfl).trans (Mod.setCell (fun k => k = Pb) _ ⟨Pb, 4, none⟩ _ rfl)
          have hm0 : Mod (fun k => k = Pb) wr (((wr.drewN nq).setCell ⟨Pb, 3, none⟩ (.int .i64 0)).setCell ⟨Pb, 4, none⟩ (.int .i64 0)) := (Mod.of_below (below_drewN (Below.refl _ _) nq)).trans hm
          refine ⟨rfl, v2, ?_, HR.out.2.1.mod hm0 (fun k hk e => (HFAR.out k hk).1 e), HR.out.2.2.1.trans (hm0.mono fun k _ e => .inr e), HV2.out⟩
          rw [HDP.out]
          show SpaceAt _ Pb B bd ow v2 _ 0 0
          exact ⟨blk_set (blk_set hY.head 3 _) 4 _, wrow_mod hY.row hm (fun k hk e => hY.np (hk.trans (by rw [e]))), Nat.le_refl _, by decide, hY.o1, hY.pin⟩
        · have HDP : Hid (dropP size end_ m 1 = false) := Lib.hid (dropP_not (by rw [← HX2.out]; exact hex))
          have f1 : ((end_ : Int) == (x : Int)) = false := by simp; omega
          clear hex
          go_wp2_with fail
          go_quiet ((go_at_call 39; exact Calls.quiet_of_same (HWQ.out _)))
          go_wp2
          go_ret
          refine ⟨rfl, v2, ?_, ?_, ?_, HV2.out⟩
          · rw [HDP.out]; exact HR.out.1.on (below_drewN (Below.refl _ _) _)
          · exact HR.out.2.1.on (below_drewN (Below.refl _ _) _)
          · exact HR.out.2.2.1.trans (.of_below (below_drewN (Below.refl _ _) _))
      · have HDP : Hid (dropP size end_ m n = false) := Lib.hid (by unfold dropP; rw [decide_eq_false hn1]; rfl)
        have hn2 : ((n : Int) == 1) = false := by simp; omega
        go_wp2_with fail
        go_quiet (fail)
        go_wp2
        go_ret
        refine ⟨rfl, v2, ?_, ?_, ?_, HV2.out⟩
        · rw [HDP.out]; exact HR.out.1.on (below_drewN (Below.refl _ _) _)
        · exact HR.out.2.1.on (below_drewN (Below.refl _ _) _)
        · exact HR.out.2.2.1.trans (.of_below (below_drewN (Below.refl _ _) _))
end Go.Proofs.YtkaflgbipjppmaaDoor
