/- StoreActs: a walk. -/
import Derived.Test.YtkaflgbipjppmaaDoorGo
namespace Go.Proofs.YtkaflgbipjppmaaDoor
open Go.RowKit
set_option linter.unusedVariables false
set_option linter.unusedSimpArgs false
variable {w w' : World} {B Wb Ob p q G Wg Og size : Nat} {W W' own own' : List Int} {c : Nat}
theorem tab_on {w w' : World} (hT : Tab w) (hb : Below w.heap.size w w') : Tab w' := hT.on hb
theorem ownedL_zero (own : List Int) : ownedL own 0 = [] := by
  unfold ownedL selO
  rw [List.filter_eq_nil_iff]
  intro c hc
  have hm := (List.mem_filter.1 (show c ∈ onesTo (own.map busy) (own.map busy).length from hc))
  have hcl : c < own.length := by simpa using hm.1
  have h2 := hm.2
  rw [busy_get hcl] at h2
  simpa [busy] using h2
set_option maxRecDepth 100000 in
set_option maxHeartbeats 4000000 in
theorem acts3_walk (zc zw : Int) (A : Option Addr) (l : List Act3) (cp : Nat) (hz1 : i64B zc) (hz2 : i64B zw) (hl : l.length ≤ cp) (hm : l.length ≤ maxLen) (hS : SliceOf w A 5 act3Enc act30 l) (hg : ∀ x ∈ l, good3 x) (hT : Tab w) :
    Calls Tryd.prog 11 #[.agg #[.int .i64 zc, .int .i64 zw], .slice A l.length cp] w fun e w' => e = .returned (.bool true) ∧ Below w.heap.size w w' := by
  unfold maxLen at hm
  obtain ⟨c, hc, hc1, hc2⟩ := size_n zc hz1
  obtain ⟨n, hn, hn1, hn2⟩ := size_n zw hz2
  have hb0 := below1 w (.cells #[.int .i64 zc, .int .i64 zw] 36)
  have hbx := heap_alloc_new w (.cells #[.int .i64 zc, .int .i64 zw] 36)
  have k0 := (blk_cells hbx 0).trans rfl
  have k1 := (blk_cells hbx 1).trans rfl
  have HM := Lib.hid (made3_any zc zw c n (w.alloc (.cells #[.int .i64 zc, .int .i64 zw] 36)) hc hc1 hc2 hn hn1 hn2)
  have HB0 := Lib.hid hb0
  have hz0 : (w.alloc (.cells #[.int .i64 zc, .int .i64 zw] 36)).heap.size = w.heap.size + 1 := World.size_alloc _ _
  have HS := Lib.hid hS
  have HG := Lib.hid hg
  have HT := Lib.hid hT
  have HAL : Hid (∀ Y, Below w.heap.size w Y → Calls Tryd.prog 22 #[] Y fun e w' => e = .returned (.bool true) ∧ Below Y.heap.size Y w') := Lib.hid (fun Y hY => alive3_any (by
    have hlt := lt_of_cell (hT 0 (by decide))
    exact fun j hj => (hY.cell (p := ⟨0, j, none⟩) hlt).trans (hT j hj)))
  clear hbx hb0 hc hn hS hg hT hz1 hz2
  go_enter Tryd.func11, Tryd.ntmps11
  go_wp2_with fail
  refine HM.out.mono ?_
  rintro e w1 ⟨B, Wb, Ob, p, q, G, Wg, Og, rfl, hP, hb1, hF⟩
  have HP := Lib.hid hP
  have HB1 := Lib.hid (HB0.out.on hb1)
  have HF : Hid (Fresh8 w.heap.size B Wb Ob p q G Wg Og) := Lib.hid (fun k e => by have := hF k e; omega)
  clear hP hb1 hF HM k0 k1
  go_wp2_with fail
  refine (HAL.out _ HB1.out).mono ?_
  rintro e w2 ⟨rfl, hb2⟩
  have HSt : Hid (GrowSt w w2 B Wb Ob p q G Wg Og n c) := Lib.hid ⟨_, _, HP.out.on hb2, ⟨by simp, bnd_zero _⟩, HB1.out.on hb2⟩
  clear HP HB1 hb2
  by_cases hlong : 80 < l.length
  · have hl' : (80 : Int) < (l.length : Int) := by omega
    have HB2 : Hid (Below w.heap.size w w2) := Lib.hid (by obtain ⟨_, _, _, _, h⟩ := HSt.out; exact h)
    go_wp2_with fail
    refine (HAL.out _ HB2.out).mono ?_
    rintro e w3 ⟨rfl, hb3⟩
    go_wp2
    go_ret
    exact ⟨rfl, HB2.out.on hb3⟩
  · have hl' : ¬ (80 : Int) < (l.length : Int) := by omega
    have hl'' : decide ((80 : Int) < (l.length : Int)) = false := decide_eq_false hl'
    go_wp2_with fail
    go_loopw [32] (fun v32 wr => ∃ k : Nat, k ≤ l.length ∧ v32 = .int .i64 k ∧ Hid (GrowSt w wr B Wb Ob p q G Wg Og n c)) (fun v32 _ => l.length - (intOf v32).toNat)
    case atStart => exact ⟨0, by omega, rfl, HSt⟩
    case round =>
      obtain ⟨k, hk, rfl, HSr⟩ := hrel
      clear HSt
      have hBr : Below w.heap.size w wr := by obtain ⟨_, _, _, _, h9⟩ := HSr.out; exact h9
      by_cases hlt : k < l.length
      · obtain ⟨b, o, rfl, e0, e1, e2, e3, e4⟩ := act3_cells (HS.out.on hBr) k hlt
        have hgx : good3 (l.getD k act30) := by
          have : l.getD k act30 = l[k] := by simp [List.getD, hlt]
          rw [this]; exact HG.out _ (List.getElem_mem hlt)
        generalize l.getD k act30 = x at *
        have HST : Hid _ := Lib.hid (GrowSt.step (w' := wr.alloc (.cells #[.int .i64 x.kind, .int .i64 x.a, .int .i64 x.b, .int .i64 x.c, .int .u64 x.x] 67)) (by
          obtain ⟨W, own, h1, h2, h3⟩ := HSr.out
          exact ⟨W, own, h1.on (below1 _ _), h2, h3.on (below1 _ _)⟩) HF.out HT.out x hgx)
        obtain ⟨xk, xa, xb, xc, xx⟩ := x
        dsimp only at e0 e1 e2 e3 e4 HST
        clear hgx hBr
        go_wp2_with fail
        refine HST.out.mono ?_
        rintro e w3 ⟨rfl, hS2⟩
        have HS2 := Lib.hid hS2
        clear hS2 HST e0 e1 e2 e3 e4
        go_wp2
        go_roundw
        case rel => exact ⟨k + 1, by omega, by go_num, HS2⟩
        case measure => simp [intOf]; omega
      · obtain rfl : k = l.length := by omega
        obtain ⟨W, own, h1, h2, h3⟩ := HSr.out
        have hlT := lt_of_cell (HT.out 0 (by decide))
        have HTT : Hid (∀ Y, Below w.heap.size w Y → Tab Y) := Lib.hid (fun Y hY j hj => (hY.cell (p := ⟨0, j, none⟩) hlT).trans (HT.out j hj))
        have HP := Lib.hid h1
        have HB := Lib.hid h3
        have HC := Lib.hid (same3_any h1 (HTT.out _ h3))
        have hol := h1.rf.o2
        clear h1 h2 h3 hBr
        go_wp2_with fail
        refine HC.out.mono ?_
        rintro e w3 ⟨rfl, hb3⟩
        have HP3 := Lib.hid (HP.out.on hb3)
        have HB3 := Lib.hid (HB.out.on hb3)
        have HC3 := Lib.hid (owned_any HP3.out.st (HTT.out _ HB3.out) 0)
        rw [ownedL_zero] at HC3
        clear hb3 HC
        go_wp2_with fail
        refine HC3.out.mono ?_
        rintro e w4 ⟨v, rfl, hI, hb4⟩
        obtain ⟨A4, c4, rfl, -, -, -⟩ := hI
        have HP4 := Lib.hid (HP3.out.on hb4)
        have HB4 := Lib.hid (HB3.out.on hb4)
        have q2 := HP4.out.rf.c2
        have HC4 := Lib.hid (owner_out HP4.out.st (-1) (.inl (by decide)))
        have HC5 := Lib.hid (owner_out HP4.out.st own.length (by omega))
        clear hb4 HC3
        go_wp2_with fail
        refine HC4.out.mono ?_
        rintro e w5 ⟨rfl, rfl⟩
        go_wp2_with fail
        refine HC5.out.mono ?_
        rintro e w5 ⟨rfl, rfl⟩
        go_wp2
        go_ret
        exact ⟨rfl, HB4.out⟩
end Go.Proofs.YtkaflgbipjppmaaDoor
