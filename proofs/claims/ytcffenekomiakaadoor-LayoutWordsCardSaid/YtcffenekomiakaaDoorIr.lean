/- Which words are references, asked one by one: walks. -/
import Derived.Test.YtcffenekomiakaaDoorIs
namespace Go.Proofs.YtcffenekomiakaaDoor
open Go.RowKit
set_option linter.unusedVariables false
set_option linter.unusedSimpArgs false
variable {w w' : World}
theorem riseGo_len : ∀ (l : List Int) (size last : Int), riseGo size last l = true → last < size → last + l.length < size
  | [], _, _, _, h => by simpa using h
  | p :: t, size, last, h, _ => by
    simp only [riseGo, Bool.and_eq_true, decide_eq_true_eq] at h
    obtain ⟨h1, h2, h3⟩ := h
    have := riseGo_len t size p h3 h2
    simp only [List.length_cons]
    omega
theorem rise_len {l : List Int} {size : Int} (h : riseB l size = true) (h0 : 0 ≤ size) : (l.length : Int) ≤ size := by
  have := riseGo_len l size (-1) h (by omega)
  omega
def Lay.isRefE (x : Lay) (c p : Int) : Bool × Int := if (x.size c).2 = 0 then (if p < 0 ∨ (x.size c).1 ≤ p then (false, 3) else (x.isRef p, 0)) else (false, (x.size c).2)
theorem Lay.size_ok {x : Lay} {c : Int} (h : (x.size c).2 = 0) : x.right = true ∧ 0 ≤ c ∧ c ≤ 1024 ∧ (0 < c → 0 < x.record) ∧ (x.size c).1 = x.fixed + c * x.record ∧ (x.size c).1 < 8192 := by
  unfold Lay.size at h ⊢
  by_cases hr : x.right = true
  · rw [if_pos hr] at h ⊢
    have := Lay.right_out hr
    split at h
    · cases h
    · rename_i h1
      split at h
      · cases h
      · rename_i h2
        rw [if_neg h1, if_neg h2]
        exact ⟨hr, by omega, by omega, by omega, rfl, by simp; omega⟩
  · rw [if_neg hr] at h
    cases h
theorem ref_same (x y : Lay) (A1 : Option Addr) (c1 : Nat) (A2 : Option Addr) (c2 : Nat) (B1 : Option Addr) (d1 : Nat) (B2 : Option Addr) (d2 : Nat) (w : World) (h : LayIs w x A1 c1 A2 c2) (k : LayIs w y B1 d1 B2 d2) :
    Calls Tryd.prog 13 #[layV x A1 c1 A2 c2, layV y B1 d1 B2 d2] w fun e w' => e = .returned (.bool (decide (x.fixed = y.fixed ∧ x.record = y.record ∧ x.refs = y.refs ∧ x.recs = y.recs))) ∧ Below w.heap.size w w' := by
  have HW := Lib.hid h
  have HK := Lib.hid k
  clear h k
  have hb1 := below1 w (.cells #[.int .i64 x.fixed, .slice A1 x.refs.length c1, .int .i64 x.record, .slice A2 x.recs.length c2] 24)
  have hb2 := hb1.on (below1 _ (.cells #[.int .i64 y.fixed, .slice B1 y.refs.length d1, .int .i64 y.record, .slice B2 y.recs.length d2] 24))
  have hblk := (Below.heap_alloc _ (.cells #[.int .i64 y.fixed, .slice B1 y.refs.length d1, .int .i64 y.record, .slice B2 y.recs.length d2] 24) w.heap.size (by simp)).trans (heap_alloc_new w (.cells #[.int .i64 x.fixed, .slice A1 x.refs.length c1, .int .i64 x.record, .slice A2 x.recs.length c2] 24))
  have hblk2 := heap_alloc_new (w.alloc (.cells #[.int .i64 x.fixed, .slice A1 x.refs.length c1, .int .i64 x.record, .slice A2 x.recs.length c2] 24)) (.cells #[.int .i64 y.fixed, .slice B1 y.refs.length d1, .int .i64 y.record, .slice B2 y.recs.length d2] 24)
  rw [World.size_alloc] at hblk2
  have k1 := (blk_cells hblk 1).trans rfl
  have k3 := (blk_cells hblk 3).trans rfl
  have j1 := (blk_cells hblk2 1).trans rfl
  have j3 := (blk_cells hblk2 3).trans rfl
  have HB := Lib.hid hb2
  have HX := Lib.hid (HW.out.on hb2)
  have HY := Lib.hid (HK.out.on hb2)
  have hA : Hid (∀ X, LayIs X x A1 c1 A2 c2 → LayIs X y B1 d1 B2 d2 → Calls Tryd.prog 26 #[.slice A1 x.refs.length c1, .slice B1 y.refs.length d1] X fun e w' => e = .returned (.bool (decide (x.refs = y.refs))) ∧ Below X.heap.size X w') := Lib.hid (fun X h1 h2 => list_any ⟨A1, c1, rfl, h1.k1, h1.m1, h1.h1⟩ ⟨B1, d1, rfl, h2.k1, h2.m1, h2.h1⟩)
  have hB : Hid (∀ X, LayIs X x A1 c1 A2 c2 → LayIs X y B1 d1 B2 d2 → Calls Tryd.prog 26 #[.slice A2 x.recs.length c2, .slice B2 y.recs.length d2] X fun e w' => e = .returned (.bool (decide (x.recs = y.recs))) ∧ Below X.heap.size X w') := Lib.hid (fun X h1 h2 => list_any ⟨A2, c2, rfl, h1.k2, h1.m2, h1.h2⟩ ⟨B2, d2, rfl, h2.k2, h2.m2, h2.h2⟩)
  clear hb1 hb2 hblk hblk2 HW HK
  unfold layV
  have hd : decide (x.fixed = y.fixed ∧ x.record = y.record ∧ x.refs = y.refs ∧ x.recs = y.recs) = ((x.fixed == y.fixed) && ((x.record == y.record) && (decide (x.refs = y.refs) && decide (x.recs = y.recs)))) := by
    rw [Bool.decide_and, Bool.decide_and, Bool.decide_and]; rfl
  rw [hd]
  clear hd
  generalize decide (x.refs = y.refs) = ra at *
  generalize decide (x.recs = y.recs) = rb at *
  cases e1 : x.fixed == y.fixed with
  | false =>
    go_enter Tryd.func13, Tryd.ntmps13
    go_wp2
    go_ret
    exact ⟨rfl, HB.out⟩
  | true =>
    cases e2 : x.record == y.record with
    | false =>
      go_enter Tryd.func13, Tryd.ntmps13
      go_wp2
      go_ret
      exact ⟨rfl, HB.out⟩
    | true =>
      go_enter Tryd.func13, Tryd.ntmps13
      go_wp2_with fail
      refine (hA.out _ HX.out HY.out).mono ?_
      rintro e w2 ⟨rfl, hb⟩
      have HB2 := Lib.hid (HB.out.on hb)
      have HX2 := Lib.hid (HX.out.on hb)
      have HY2 := Lib.hid (HY.out.on hb)
      have g3 := cell_on hb k3
      have q3 := cell_on hb j3
      clear hb k1 k3 j1 j3 HX HY HB
      cases ra with
      | false =>
        go_wp2
        go_ret
        exact ⟨rfl, HB2.out⟩
      | true =>
        go_wp2_with fail
        refine (hB.out _ HX2.out HY2.out).mono ?_
        rintro e w3 ⟨rfl, hb⟩
        have HB3 := Lib.hid (HB2.out.on hb)
        clear hb g3 q3
        go_wp2
        go_ret
        exact ⟨ret_bool (by cases rb <;> rfl), HB3.out⟩
end Go.Proofs.YtcffenekomiakaaDoor
