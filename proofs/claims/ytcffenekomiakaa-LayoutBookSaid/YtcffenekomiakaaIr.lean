/- Which words are references, asked one by one: walks. -/
import Derived.Test.YtcffenekomiakaaIs
namespace Go.Proofs.Ytcffenekomiakaa
open Go.RowKit
set_option linter.unusedVariables false
set_option linter.unusedSimpArgs false
variable {w w' : World}
theorem riseGo_len : ∀ (l : List Int) (size last : Int), riseGo size last l = true → last < size → last + l.length < size
  | [], _, _, _, h => by simpa using h
  | p :: t, size, last, h, _ => by
    simp only [riseGo, Bool.and_eq_true, decide_eq_true_eq] at h
    obtain ⟨h1, h2, h3⟩ := h
    have := riseGo_len t size p h3 h2
    simp only [List.length_cons]
    omega
theorem rise_len {l : List Int} {size : Int} (h : riseB l size = true) (h0 : 0 ≤ size) : (l.length : Int) ≤ size := by
  have := riseGo_len l size (-1) h (by omega)
  omega
def Lay.isRefE (x : Lay) (c p : Int) : Bool × Int := if (x.size c).2 = 0 then (if p < 0 ∨ (x.size c).1 ≤ p then (false, 3) else (x.isRef p, 0)) else (false, (x.size c).2)
theorem Lay.size_ok {x : Lay} {c : Int} (h : (x.size c).2 = 0) : x.right = true ∧ 0 ≤ c ∧ c ≤ 1024 ∧ (0 < c → 0 < x.record) ∧ (x.size c).1 = x.fixed + c * x.record ∧ (x.size c).1 < 8192 := by
  unfold Lay.size at h ⊢
  by_cases hr : x.right = true
  · rw [if_pos hr] at h ⊢
    have := Lay.right_out hr
    split at h
    · cases h
    · rename_i h1
      split at h
      · cases h
      · rename_i h2
        rw [if_neg h1, if_neg h2]
        exact ⟨hr, by omega, by omega, by omega, rfl, by simp; omega⟩
  · rw [if_neg hr] at h
    cases h
set_option maxRecDepth 100000 in
theorem isref_any (x : Lay) (c p : Int) (A1 : Option Addr) (c1 : Nat) (A2 : Option Addr) (c2 : Nat) (w : World) (h : LayIs w x A1 c1 A2 c2) :
    Calls Try.prog 19 #[layV x A1 c1 A2 c2, .int .i64 c, .int .i64 p] w fun e w' => e = .returned (.tuple #[.bool (x.isRefE c p).1, .int .i64 (x.isRefE c p).2]) ∧ Below w.heap.size w w' := by
  have hA : Hid (∀ X, LayIs X x A1 c1 A2 c2 → Calls Try.prog 9 #[.agg #[.int .i64 x.fixed, .slice A1 x.refs.length c1, .int .i64 x.record, .slice A2 x.recs.length c2], .int .i64 c] X fun e w' => e = .returned (.tuple #[.int .i64 (x.size c).1, .int .i64 (x.size c).2]) ∧ Below X.heap.size X w') := Lib.hid (fun X hX => size_any _ _ _ _ _ _ X hX)
  have hb0 := below1 w (.cells #[.int .i64 x.fixed, .slice A1 x.refs.length c1, .int .i64 x.record, .slice A2 x.recs.length c2] 24)
  have HL := Lib.hid (h.on hb0)
  have HB0 := Lib.hid hb0
  have hblk := heap_alloc_new w (.cells #[.int .i64 x.fixed, .slice A1 x.refs.length c1, .int .i64 x.record, .slice A2 x.recs.length c2] 24)
  have k0 := (blk_cells hblk 0).trans rfl
  have k1 := (blk_cells hblk 1).trans rfl
  have k2 := (blk_cells hblk 2).trans rfl
  have k3 := (blk_cells hblk 3).trans rfl
  clear h hb0 hblk
  unfold layV Lay.isRefE
  by_cases h0 : (x.size c).2 = 0
  · obtain ⟨g1, g2, g3, g4, g5, g6⟩ := Lay.size_ok h0
    obtain ⟨r1, r2, r3, r4, r5, r6, r7⟩ := Lay.right_out g1
    rw [if_pos h0]
    rw [h0, g5] at hA
    rw [g5]
    by_cases hp : p < 0 ∨ x.fixed + c * x.record ≤ p
    · rw [if_pos hp]
      clear h0 g1 g2 g3 g4 g5 g6 r1 r2 r3 r4 r5 r6 r7
      generalize x.fixed = F at *
      generalize x.record = R at *
      generalize F + c * R = n at *
      go_enter Try.func19, Try.ntmps19
      go_wp2_with fail
      refine (hA.out _ HL.out).mono ?_
      rintro e w2 ⟨rfl, hb⟩
      have HB2 := Lib.hid (HB0.out.on hb)
      clear hb k0 k1 k2 k3 hA HL HB0
      by_cases hp0 : p < 0
      · have d0 : decide (p < 0) = true := decide_eq_true hp0
        clear hp hp0
        go_wp2
        go_ret2
        exact ⟨rfl, HB2.out⟩
      · have d0 : decide (p < 0) = false := decide_eq_false hp0
        have d1 : decide (n ≤ p) = true := decide_eq_true (by omega)
        clear hp hp0
        go_wp2
        go_ret2
        exact ⟨rfl, HB2.out⟩
    · rw [if_neg hp]
      have hp0 : ¬ p < 0 := fun e => hp (.inl e)
      have hpn : ¬ (x.fixed + c * x.record ≤ p) := fun e => hp (.inr e)
      have hl1 := rise_len r6 r1
      have hl2 := rise_len r7 r3
      have hBS1 : Hid (∀ X q, LayIs X x A1 c1 A2 c2 → Calls Try.prog 28 #[.slice A1 x.refs.length c1, .int .i64 q] X fun e w' => (∃ i : Int, e = .returned (.tuple #[.int .i64 i, .bool (decide (q ∈ x.refs))])) ∧ X = w') := Lib.hid (fun X q hX => bs_any _ _ _ _ X hX.h1 (by omega) (rise_all r6).1)
      have hBS2 : Hid (∀ X q, LayIs X x A1 c1 A2 c2 → Calls Try.prog 28 #[.slice A2 x.recs.length c2, .int .i64 q] X fun e w' => (∃ i : Int, e = .returned (.tuple #[.int .i64 i, .bool (decide (q ∈ x.recs))])) ∧ X = w') := Lib.hid (fun X q hX => bs_any _ _ _ _ X hX.h2 (by omega) (rise_all r7).1)
      unfold Lay.isRef
      by_cases hf : p < x.fixed
      · rw [if_pos hf]
        clear h0 g1 g2 g3 g4 g5 g6 r1 r2 r3 r4 r5 r6 r7 hl1 hl2 hp hBS2
        generalize hrr : decide (p ∈ x.refs) = res at *
        generalize x.fixed = F at *
        generalize x.record = R at *
        generalize F + c * R = n at *
        have d0 : decide (p < 0) = false := decide_eq_false hp0
        have d1 : decide (n ≤ p) = false := decide_eq_false hpn
        have d2 : decide (F ≤ p) = false := decide_eq_false (by omega)
        clear hp0 hpn hf
        go_enter Try.func19, Try.ntmps19
        go_wp2_with fail
        refine (hA.out _ HL.out).mono ?_
        rintro e w2 ⟨rfl, hb⟩
        have HB2 := Lib.hid (HB0.out.on hb)
        have HL2 := Lib.hid (HL.out.on hb)
        have g0 := cell_on hb k0
        have g1 := cell_on hb k1
        have g2 := cell_on hb k2
        have g3 := cell_on hb k3
        clear hb k0 k1 k2 k3 hA HL HB0
        go_wp2_with fail
        refine (hBS1.out _ p HL2.out).mono ?_
        rintro e w3 ⟨⟨i, rfl⟩, rfl⟩
        rw [hrr]
        go_wp2
        go_ret2
        exact ⟨rfl, HB2.out⟩
      · rw [if_neg hf]
        have hR0 : x.record ≠ 0 := fun e => by rw [e, Int.mul_zero] at hpn; omega
        have hrem : (p - x.fixed).tmod x.record = (p - x.fixed) % x.record := Int.tmod_eq_emod_of_nonneg (by omega)
        have hw : wrap64 (p - x.fixed) = p - x.fixed := by unfold wrap64; omega
        clear h0 g2 g3 g4 g5 g1 r1 r2 r3 r4 r5 r6 r7 hl1 hl2 hp hBS1
        have HRR := Lib.hid (And.intro hrem hw)
        clear hrem hw
        generalize hq : (p - x.fixed) % x.record = q at *
        generalize hrr : decide (q ∈ x.recs) = res at *
        generalize x.fixed = F at *
        generalize x.record = R at *
        generalize F + c * R = n at *
        have d0 : decide (p < 0) = false := decide_eq_false hp0
        have d1 : decide (n ≤ p) = false := decide_eq_false hpn
        have d2 : decide (F ≤ p) = true := decide_eq_true (by omega)
        have d3 : (R == 0) = false := by simpa using hR0
        clear hp0 hpn hf g6
        go_enter Try.func19, Try.ntmps19
        go_wp2_with fail
        refine (hA.out _ HL.out).mono ?_
        rintro e w2 ⟨rfl, hb⟩
        have HB2 := Lib.hid (HB0.out.on hb)
        have HL2 := Lib.hid (HL.out.on hb)
        have g0 := cell_on hb k0
        have g1 := cell_on hb k1
        have g2 := cell_on hb k2
        have g3 := cell_on hb k3
        clear hb k0 k1 k2 k3 hA HL HB0
        go_wp2_with fail
        go_quiet (fail)
        rw [HRR.out.2, HRR.out.1]
        have HL3 := Lib.hid (HL2.out.on (below_drewN (Below.refl _ _) nq))
        go_wp2_with fail
        refine (hBS2.out _ q HL3.out).mono ?_
        rintro e w3 ⟨⟨i, rfl⟩, rfl⟩
        rw [hrr]
        go_wp2
        go_ret2
        exact ⟨rfl, below_drewN HB2.out _⟩
  · rw [if_neg h0]
    have hn : ((x.size c).2 != 0) = true := by simpa using h0
    generalize (x.size c).2 = s2 at *
    generalize (x.size c).1 = s1 at *
    clear h0
    generalize x.fixed = F at *
    generalize x.record = R at *
    go_enter Try.func19, Try.ntmps19
    go_wp2_with fail
    refine (hA.out _ HL.out).mono ?_
    rintro e w2 ⟨rfl, hb⟩
    have HB2 := Lib.hid (HB0.out.on hb)
    clear hb k0 k1 k2 k3 hA HL HB0
    go_wp2
    go_ret2
    exact ⟨rfl, HB2.out⟩
set_option maxRecDepth 100000 in
theorem refisref_any (x : Lay) (c p : Int) (A1 : Option Addr) (c1 : Nat) (A2 : Option Addr) (c2 : Nat) (w : World) (h : LayIs w x A1 c1 A2 c2) (h0 : (x.size c).2 = 0) (hp0 : 0 ≤ p) (hpn : p < (x.size c).1) :
    Calls Try.prog 20 #[layV x A1 c1 A2 c2, .int .i64 p] w fun e w' => e = .returned (.bool (x.isRef p)) ∧ Below w.heap.size w w' := by
  have hb0 := below1 w (.cells #[.int .i64 x.fixed, .slice A1 x.refs.length c1, .int .i64 x.record, .slice A2 x.recs.length c2] 24)
  have HL := Lib.hid (h.on hb0)
  have HB0 := Lib.hid hb0
  have hblk := heap_alloc_new w (.cells #[.int .i64 x.fixed, .slice A1 x.refs.length c1, .int .i64 x.record, .slice A2 x.recs.length c2] 24)
  have k0 := (blk_cells hblk 0).trans rfl
  have k1 := (blk_cells hblk 1).trans rfl
  have k2 := (blk_cells hblk 2).trans rfl
  have k3 := (blk_cells hblk 3).trans rfl
  have HW := Lib.hid h
  obtain ⟨g1, g2, g3, g4, g5, g6⟩ := Lay.size_ok h0
  obtain ⟨r1, r2, r3, r4, r5, r6, r7⟩ := Lay.right_out g1
  have hH1 : Hid (∀ X q, LayIs X x A1 c1 A2 c2 → Calls Try.prog 29 #[.slice A1 x.refs.length c1, .int .i64 q] X fun e w' => e = .returned (.bool (decide (q ∈ x.refs))) ∧ Below X.heap.size X w') := Lib.hid (fun X q hX => has_any _ _ _ _ X hX.h1 hX.m1)
  have hH2 : Hid (∀ X q, LayIs X x A1 c1 A2 c2 → Calls Try.prog 29 #[.slice A2 x.recs.length c2, .int .i64 q] X fun e w' => e = .returned (.bool (decide (q ∈ x.recs))) ∧ Below X.heap.size X w') := Lib.hid (fun X q hX => has_any _ _ _ _ X hX.h2 hX.m2)
  clear h hb0 hblk
  rw [g5] at hpn
  unfold layV Lay.isRef
  by_cases hf : p < x.fixed
  · rw [if_pos hf]
    clear h0 g1 g2 g3 g4 g5 g6 r1 r2 r3 r4 r5 r6 r7 hpn hH2
    generalize hrr : decide (p ∈ x.refs) = res at *
    generalize x.fixed = F at *
    generalize x.record = R at *
    have d2 : decide (p < F) = true := decide_eq_true (by omega)
    clear hf
    go_enter Try.func20, Try.ntmps20
    go_wp2_with fail
    refine (hH1.out _ p HL.out).mono ?_
    rintro e w3 ⟨rfl, hb⟩
    have HB3 := Lib.hid (HB0.out.on hb)
    clear hb k0 k1 k2 k3
    rw [hrr]
    go_wp2
    go_ret
    exact ⟨rfl, HB3.out⟩
  · rw [if_neg hf]
    have hR0 : x.record ≠ 0 := fun e => by rw [e, Int.mul_zero] at hpn; omega
    have hrem : (p - x.fixed).tmod x.record = (p - x.fixed) % x.record := Int.tmod_eq_emod_of_nonneg (by omega)
    have hw : wrap64 (p - x.fixed) = p - x.fixed := by unfold wrap64; omega
    clear h0 g2 g3 g4 g5 g1 g6 r1 r2 r3 r4 r5 r6 r7 hH1 hpn
    have HRR := Lib.hid (And.intro hrem hw)
    clear hrem hw
    generalize hq : (p - x.fixed) % x.record = q at *
    generalize hrr : decide (q ∈ x.recs) = res at *
    generalize x.fixed = F at *
    generalize x.record = R at *
    have d2 : decide (p < F) = false := decide_eq_false (by omega)
    have d3 : (R == 0) = false := by simpa using hR0
    clear hf
    have HQ := Lib.hid hq
    clear hq
    go_enter Try.func20, Try.ntmps20
    go_wp2_with fail
    have HH : Hid (∀ X, LayIs X x A1 c1 A2 c2 → Calls Try.prog 29 #[.slice A2 x.recs.length c2, .int .i64 q] X fun e w' => e = .returned (.bool res) ∧ Below X.heap.size X w') := Lib.hid (fun X hX => by
      rw [← hrr]
      exact hH2.out X q hX)
    have hw1 : wrap64 (p - F) = p - F := HRR.out.2
    have hw2 : IntKind.i64.wrap (p - F) = p - F := by
      have h9 := hw1
      unfold wrap64 at h9
      rw [IntKind.wrap_i64]; omega
    have hw3 : (p - F).tmod R = q := HRR.out.1
    have s0 : _ = some (Value.int .i64 F) := k0
    have s2 : _ = some (Value.int .i64 R) := k2
    have s3 : _ = some (Value.slice A2 x.recs.length c2) := k3
    have B := HB0.out
    have hRR : R ≠ 0 := hR0
    clear k0 k1 k2 k3 hH2 HRR HQ hrr
    go_region_held3 (fun wk => (wk.cell? ⟨w.heap.size, 0, none⟩ = some (.int .i64 F) ∧ wk.cell? ⟨w.heap.size, 2, none⟩ = some (.int .i64 R) ∧ wk.cell? ⟨w.heap.size, 3, none⟩ = some (.slice A2 x.recs.length c2)) ∧ Below w.heap.size w wk) (first | exact kp3_drew ⟨⟨s0, s2, s3⟩, B⟩ | exact kp3_call (by assumption) (by assumption)) (first | (go_at_call 29; refine (HH.out _ (HW.out.on (by assumption : _ ∧ Below w.heap.size w _).2)).mono ?_; rintro e w1 ⟨rfl, hb1⟩))
    go_wp2
    go_ret
    exact ⟨rfl, (by assumption : _ ∧ Below w.heap.size w _).2⟩
theorem ref_same (x y : Lay) (A1 : Option Addr) (c1 : Nat) (A2 : Option Addr) (c2 : Nat) (B1 : Option Addr) (d1 : Nat) (B2 : Option Addr) (d2 : Nat) (w : World) (h : LayIs w x A1 c1 A2 c2) (k : LayIs w y B1 d1 B2 d2) :
    Calls Try.prog 17 #[layV x A1 c1 A2 c2, layV y B1 d1 B2 d2] w fun e w' => e = .returned (.bool (decide (x.fixed = y.fixed ∧ x.record = y.record ∧ x.refs = y.refs ∧ x.recs = y.recs))) ∧ Below w.heap.size w w' := by
  have HW := Lib.hid h
  have HK := Lib.hid k
  clear h k
  have hb1 := below1 w (.cells #[.int .i64 x.fixed, .slice A1 x.refs.length c1, .int .i64 x.record, .slice A2 x.recs.length c2] 24)
  have hb2 := hb1.on (below1 _ (.cells #[.int .i64 y.fixed, .slice B1 y.refs.length d1, .int .i64 y.record, .slice B2 y.recs.length d2] 24))
  have hblk := (Below.heap_alloc _ (.cells #[.int .i64 y.fixed, .slice B1 y.refs.length d1, .int .i64 y.record, .slice B2 y.recs.length d2] 24) w.heap.size (by simp)).trans (heap_alloc_new w (.cells #[.int .i64 x.fixed, .slice A1 x.refs.length c1, .int .i64 x.record, .slice A2 x.recs.length c2] 24))
  have hblk2 := heap_alloc_new (w.alloc (.cells #[.int .i64 x.fixed, .slice A1 x.refs.length c1, .int .i64 x.record, .slice A2 x.recs.length c2] 24)) (.cells #[.int .i64 y.fixed, .slice B1 y.refs.length d1, .int .i64 y.record, .slice B2 y.recs.length d2] 24)
  rw [World.size_alloc] at hblk2
  have k1 := (blk_cells hblk 1).trans rfl
  have k3 := (blk_cells hblk 3).trans rfl
  have j1 := (blk_cells hblk2 1).trans rfl
  have j3 := (blk_cells hblk2 3).trans rfl
  have HB := Lib.hid hb2
  have HX := Lib.hid (HW.out.on hb2)
  have HY := Lib.hid (HK.out.on hb2)
  have hA : Hid (∀ X, LayIs X x A1 c1 A2 c2 → LayIs X y B1 d1 B2 d2 → Calls Try.prog 27 #[.slice A1 x.refs.length c1, .slice B1 y.refs.length d1] X fun e w' => e = .returned (.bool (decide (x.refs = y.refs))) ∧ Below X.heap.size X w') := Lib.hid (fun X h1 h2 => list_any ⟨A1, c1, rfl, h1.k1, h1.m1, h1.h1⟩ ⟨B1, d1, rfl, h2.k1, h2.m1, h2.h1⟩)
  have hB : Hid (∀ X, LayIs X x A1 c1 A2 c2 → LayIs X y B1 d1 B2 d2 → Calls Try.prog 27 #[.slice A2 x.recs.length c2, .slice B2 y.recs.length d2] X fun e w' => e = .returned (.bool (decide (x.recs = y.recs))) ∧ Below X.heap.size X w') := Lib.hid (fun X h1 h2 => list_any ⟨A2, c2, rfl, h1.k2, h1.m2, h1.h2⟩ ⟨B2, d2, rfl, h2.k2, h2.m2, h2.h2⟩)
  clear hb1 hb2 hblk hblk2 HW HK
  unfold layV
  have hd : decide (x.fixed = y.fixed ∧ x.record = y.record ∧ x.refs = y.refs ∧ x.recs = y.recs) = ((x.fixed == y.fixed) && ((x.record == y.record) && (decide (x.refs = y.refs) && decide (x.recs = y.recs)))) := by
    rw [Bool.decide_and, Bool.decide_and, Bool.decide_and]; rfl
  rw [hd]
  clear hd
  generalize decide (x.refs = y.refs) = ra at *
  generalize decide (x.recs = y.recs) = rb at *
  cases e1 : x.fixed == y.fixed with
  | false =>
    go_enter Try.func17, Try.ntmps17
    go_wp2
    go_ret
    exact ⟨rfl, HB.out⟩
  | true =>
    cases e2 : x.record == y.record with
    | false =>
      go_enter Try.func17, Try.ntmps17
      go_wp2
      go_ret
      exact ⟨rfl, HB.out⟩
    | true =>
      go_enter Try.func17, Try.ntmps17
      go_wp2_with fail
      refine (hA.out _ HX.out HY.out).mono ?_
      rintro e w2 ⟨rfl, hb⟩
      have HB2 := Lib.hid (HB.out.on hb)
      have HX2 := Lib.hid (HX.out.on hb)
      have HY2 := Lib.hid (HY.out.on hb)
      have g3 := cell_on hb k3
      have q3 := cell_on hb j3
      clear hb k1 k3 j1 j3 HX HY HB
      cases ra with
      | false =>
        go_wp2
        go_ret
        exact ⟨rfl, HB2.out⟩
      | true =>
        go_wp2_with fail
        refine (hB.out _ HX2.out HY2.out).mono ?_
        rintro e w3 ⟨rfl, hb⟩
        have HB3 := Lib.hid (HB2.out.on hb)
        clear hb g3 q3
        go_wp2
        go_ret
        exact ⟨ret_bool (by cases rb <;> rfl), HB3.out⟩
end Go.Proofs.Ytcffenekomiakaa
