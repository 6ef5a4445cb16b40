/- Contracts of the package header and of its document: walks (2). -/
import Derived.Test.YtagccnjkgnaimaaH2
namespace Go.Proofs.Ytagccnjkgnaimaa
open Go.RowKit Go.Proofs.YtagccnjkgnaimaaW.PrintWords
set_option linter.unusedVariables false
set_option linter.unusedSimpArgs false
def mayLinkB (k i g : Int) : Bool := if k = 2 then aliveB i g else ((decide (k = 0) || decide (k = 1)) && (decide (i = 0) && decide (g = 0)))
def refWordI (k i g : Int) : Int := if k = 2 then g * 4294967296 + i + 2 else k
theorem word_null (w : World) : Calls Try.prog 32 #[.agg #[.int .i64 0, .int .i64 0, .int .i64 0]] w fun e w' => e = .returned (.tuple #[.int .u64 0, .int .i64 0]) ∧ Below w.heap.size w w' := by
  go_enter Try.func32, Try.ntmps32
  go_wp2
  go_ret2
  exact ⟨rfl, below1 _ _⟩
theorem word_tomb (w : World) : Calls Try.prog 32 #[.agg #[.int .i64 1, .int .i64 0, .int .i64 0]] w fun e w' => e = .returned (.tuple #[.int .u64 1, .int .i64 0]) ∧ Below w.heap.size w w' := by
  go_enter Try.func32, Try.ntmps32
  go_wp2
  go_ret2
  exact ⟨rfl, below1 _ _⟩
theorem word_dead (i g : Int) (w : World) (h : aliveB i g = false) : Calls Try.prog 32 #[.agg #[.int .i64 2, .int .i64 i, .int .i64 g]] w fun e w' => e = .returned (.tuple #[.int .u64 0, .int .i64 3]) ∧ Below w.heap.size w w' := by
  go_enter Try.func32, Try.ntmps32
  go_wp2_with (go_at_call 45; refine (alive5_any i g _).mono ?_; rintro e w1 ⟨rfl, hbx⟩)
  go_ret2
  exact ⟨rfl, (below1 _ _).on hbx⟩
theorem word_other (k i g : Int) (w : World) (h2 : k ≠ 2) (h0 : ¬ (k = 0 ∧ i = 0 ∧ g = 0)) (h1 : ¬ (k = 1 ∧ i = 0 ∧ g = 0)) : Calls Try.prog 32 #[.agg #[.int .i64 k, .int .i64 i, .int .i64 g]] w fun e w' => e = .returned (.tuple #[.int .u64 0, .int .i64 3]) ∧ Below w.heap.size w w' := by
  have H0 := Lib.hid h0
  have H1 := Lib.hid h1
  clear h0 h1
  go_enter Try.func32, Try.ntmps32
  go_wp2
  all_goals first
    | (exact absurd ⟨by assumption, by assumption, by assumption⟩ H0.out)
    | (exact absurd ⟨by assumption, by assumption, by assumption⟩ H1.out)
    | (exfalso; have q0 := H0.out; have q1 := H1.out; omega)
    | (go_ret2; exact ⟨rfl, below1 _ _⟩)
theorem word_alive (i g : Int) (w : World) (h : aliveB i g = true) : Calls Try.prog 32 #[.agg #[.int .i64 2, .int .i64 i, .int .i64 g]] w fun e w' => e = .returned (.tuple #[.int .u64 (g * 4294967296 + i + 2), .int .i64 0]) ∧ Below w.heap.size w w' := by
  have HP := Lib.hid (show packI [(0, 32), (32, 32)] [i + 2, g] = (g * 4294967296 + i + 2, 0) from pack_link i g h)
  obtain ⟨h1, h2, h3, h4⟩ := aliveB_iff.1 h
  have HM := Lib.hid h
  clear h
  have e1 : IntKind.u64.wrap i = i := by rw [IntKind.wrap_u64]; omega
  have e2 : IntKind.u64.wrap g = g := by rw [IntKind.wrap_u64]; omega
  have e3 : IntKind.u64.wrap (i + 2) = i + 2 := by rw [IntKind.wrap_u64]; omega
  go_enter Try.func32, Try.ntmps32
  go_wp2_with (go_at_call 45; refine (alive5_any i g _).mono ?_; rintro e w1 ⟨rfl, hbx⟩; rw [HM.out])
  have d0 : w1.cell? ⟨w.heap.size, 1, none⟩ = some (.int .i64 i) := cell_on hbx (by go_simp)
  have d1 : w1.cell? ⟨w.heap.size, 2, none⟩ = some (.int .i64 g) := cell_on hbx (by go_simp)
  have B1 := (below1 w _).on hbx
  clear hbx
  go_region_held3 (fun wk => (wk.cell? ⟨w.heap.size, 1, none⟩ = some (.int .i64 i) ∧ wk.cell? ⟨w.heap.size, 2, none⟩ = some (.int .i64 g)) ∧ Below w.heap.size w wk) (first | exact kp2_drew ⟨⟨d0, d1⟩, B1⟩ | exact kp2_alloc _ (by assumption) | exact kp2_call (by assumption) (by assumption)) (first | (go_at_call 46; refine (links_any _).mono ?_; rintro e w2 ⟨rfl, rfl⟩) | (go_at_call 22; refine (pack_ok _ _ [(0, 32), (32, 32)] [i + 2, g] 2 2 _ (by intro i hi; refine ⟨_, _, rfl, ?_, ?_⟩ <;> (rcases i with _ | _ | i <;> first | (go_simp; done) | (simp at hi; omega))) (by intro i hi; refine ⟨_, _, rfl, ?_⟩; (rcases i with _ | _ | i <;> first | (go_simp; done) | (simp at hi; omega))) (by intro x hx; simp at hx; omega) (by unfold maxLen; simp) rfl (by decide +kernel)).mono ?_; rintro e w3 ⟨rfl, hb3⟩; rw [HP.out]))
  all_goals (
    have B3 := (by assumption : _ ∧ Below w.heap.size w w3).2
    go_wp2
    go_ret2
    exact ⟨rfl, B3⟩)
theorem enc_alive : encI 2 3 4 = 11889503024848240644 := by decide +kernel
theorem alive5law_any (w : World) : Calls Try.prog 31 #[] w fun e w' => e = .returned (.bool true) ∧ Below w.heap.size w w' := by
  go_enter Try.func31, Try.ntmps31
  go_wp2_with (first | (go_at_call 29; refine (encode_yes 2 3 4 _ (by decide)).mono ?_; rintro e w1 ⟨rfl, hb1⟩; simp only [enc_alive]) | (go_at_call 32; refine (word_alive 7 1 _ (by decide)).mono ?_; rintro e w2 ⟨rfl, hb2⟩))
  go_ret
  exact ⟨rfl, hb1.on hb2⟩
theorem mayLink_two (i g : Int) : mayLinkB 2 i g = aliveB i g := rfl
theorem reflinkmay_any (k i g : Int) (w : World) : Calls Try.prog 36 #[.agg #[.int .i64 k, .int .i64 i, .int .i64 g]] w fun e w' => e = .returned (.bool (mayLinkB k i g)) ∧ Below w.heap.size w w' := by
  by_cases hk : k = 2
  · subst hk
    go_enter Try.func36, Try.ntmps36
    go_wp2
    all_goals (go_ret; exact ⟨ret_bool (by rw [mayLink_two]; simp [aliveB, *] <;> omega), below1 _ _⟩)
  · have hm : mayLinkB k i g = ((decide (k = 0) || decide (k = 1)) && (decide (i = 0) && decide (g = 0))) := by unfold mayLinkB; rw [if_neg hk]
    have HM := Lib.hid hm
    clear hm
    go_enter Try.func36, Try.ntmps36
    go_wp2
    all_goals (go_ret; exact ⟨ret_bool (by rw [HM.out]; simp [*] <;> (rw [Bool.eq_iff_iff]; simp)), below1 _ _⟩)
theorem refword_any (k i g : Int) (w : World) (h : mayLinkB k i g = true) : Calls Try.prog 37 #[.agg #[.int .i64 k, .int .i64 i, .int .i64 g]] w fun e w' => e = .returned (.int .u64 (refWordI k i g)) ∧ Below w.heap.size w w' := by
  by_cases hk : k = 2
  · subst hk
    have ha : aliveB i g = true := by simpa [mayLinkB] using h
    obtain ⟨h1, h2, h3, h4⟩ := aliveB_iff.1 ha
    clear h ha
    go_enter Try.func37, Try.ntmps37
    go_wp2
    go_ret
    exact ⟨ret_int (by unfold refWordI; simp), below1 _ _⟩
  · have ha : k = 0 ∨ k = 1 := by simp [mayLinkB, hk] at h; omega
    have hb : 0 ≤ k ∧ k ≤ 1 := by omega
    clear h ha
    have hr : refWordI k i g = k := by unfold refWordI; rw [if_neg hk]
    obtain ⟨hb0, hb1⟩ := hb
    go_enter Try.func37, Try.ntmps37
    go_wp2
    go_ret
    exact ⟨ret_int hr.symm, below1 _ _⟩
theorem dec_law (w : Int) (h0 : 0 ≤ w) (h1 : w < 18446744073709551616) : decOK w = true ↔ mayB (w / 4294967296 % 256) (w / 65536 % 65536) (w % 65536) = true ∧ encI (w / 4294967296 % 256) (w / 65536 % 65536) (w % 65536) = w := by
  rw [decOK_iff]
  unfold encI
  constructor
  · rintro ⟨a, b, c⟩
    exact ⟨c, by omega⟩
  · rintro ⟨c, d⟩
    exact ⟨by omega, by omega, c⟩
/-- No cell of a block is frozen. -/
def Thawed (w : World) (b : Nat) : Prop := b < w.heap.size ∧ ∀ o, w.frozen? ⟨b, o, none⟩ = false
theorem Thawed.on {w w1 : World} {b : Nat} (h : Thawed w b) (hb : Below w.heap.size w w1) : Thawed w1 b := ⟨by have := hb.size; have := h.1; omega, fun o => (hb.frozen (p := ⟨b, o, none⟩) h.1).trans (h.2 o)⟩
theorem thawed_on {w w1 : World} {b : Nat} (hb : Below w.heap.size w w1) (h1 : b < w.heap.size) (h2 : ∀ o, w.frozen? ⟨b, o, none⟩ = false) : Thawed w1 b := Thawed.on ⟨h1, h2⟩ hb
theorem refdecode_any (w : Int) (W : World) (h0 : 0 ≤ w) (h1 : w < 18446744073709551616) : Calls Try.prog 35 #[.int .u64 w] W fun e w' => e = .returned (.tuple #[.agg #[.int .i64 (decI w).1, .int .i64 (decI w).2.1, .int .i64 (decI w).2.2.1], .bool (decOK w)]) ∧ Below W.heap.size W w' := by
  have HLAW := Lib.hid (dec_law w h0 h1)
  by_cases hm : mayB (w / 4294967296 % 256) (w / 65536 % 65536) (w % 65536) = true
  · have HM := Lib.hid hm
    have HD := Lib.hid (show decI w = if decOK w = true then (w / 4294967296 % 256, w / 65536 % 65536, w % 65536, 0) else (0, 0, 0, 4) from rfl)
    clear hm
    go_enter Try.func35, Try.ntmps35
    go_wp2_with fail
    generalize w / 4294967296 % 256 = z1 at *
    generalize w / 65536 % 65536 = z2 at *
    generalize w % 65536 = z3 at *
    refine (refmay_any z1 z2 z3 _).mono ?_
    rintro e w1 ⟨rfl, hbx⟩
    rw [HM.out]
    have c0 : w1.cell? ⟨W.heap.size + 1, 0, none⟩ = some (.int .i64 z1) := cell_on hbx (by go_simp)
    have c1 : w1.cell? ⟨W.heap.size + 1, 1, none⟩ = some (.int .i64 z2) := cell_on hbx (by go_simp)
    have c2 : w1.cell? ⟨W.heap.size + 1, 2, none⟩ = some (.int .i64 z3) := cell_on hbx (by go_simp)
    have r0 : w1.cell? ⟨W.heap.size, 0, none⟩ = some (.int .i64 0) := cell_on hbx (by go_simp)
    have r1 : w1.cell? ⟨W.heap.size, 1, none⟩ = some (.int .i64 0) := cell_on hbx (by go_simp)
    have r2 : w1.cell? ⟨W.heap.size, 2, none⟩ = some (.int .i64 0) := cell_on hbx (by go_simp)
    have B1 := ((below1 W _).on (below1 _ _)).on hbx
    have hfz : Thawed w1 W.heap.size := thawed_on hbx (by simp; omega) (fun o => by go_simp)
    clear hbx
    go_wp2_with fail
    refine (refenc_any z1 z2 z3 _ HM.out).mono ?_
    rintro e w2 ⟨rfl, hbx⟩
    replace c0 := cell_on hbx c0
    replace c1 := cell_on hbx c1
    replace c2 := cell_on hbx c2
    replace r0 := cell_on hbx r0
    replace r1 := cell_on hbx r1
    replace r2 := cell_on hbx r2
    have fz0 := hfz.on hbx
    replace B1 := B1.on hbx
    have fz0' := fz0.2
    have fz1 := fz0.1
    clear hbx
    by_cases hok : decOK w = true
    · have HOK := Lib.hid hok
      have he := (HLAW.out.1 hok).2
      rw [he]
      clear he hok
      go_wp2
      exact bodyPost_ret (v := .tuple #[.agg #[.int .i64 z1, .int .i64 z2, .int .i64 z3], .bool true]) (by simp [results, Try.results35, go_sem, r0, r1, r2]) rfl ⟨by rw [HD.out, if_pos HOK.out, HOK.out], ((B1.setCell (p := ⟨W.heap.size, 0, none⟩) (Nat.le_refl _) _).setCell (p := ⟨W.heap.size, 1, none⟩) (Nat.le_refl _) _).setCell (p := ⟨W.heap.size, 2, none⟩) (Nat.le_refl _) _⟩
    · have hne : (encI z1 z2 z3 == w) = false := by rw [beq_eq_false_iff_ne]; intro h; exact hok (HLAW.out.2 ⟨HM.out, h⟩)
      have hne' : (encI z1 z2 z3 != w) = true := by rw [bne, hne]; rfl
      have HOK := Lib.hid hok
      clear hok
      go_wp2
      exact bodyPost_ret (v := .tuple #[.agg #[.int .i64 0, .int .i64 0, .int .i64 0], .bool false]) (by simp [results, Try.results35, go_sem, r0, r1, r2]) rfl ⟨by rw [HD.out, if_neg HOK.out, Bool.eq_false_iff.2 HOK.out], ((B1.setCell (p := ⟨W.heap.size, 0, none⟩) (Nat.le_refl _) _).setCell (p := ⟨W.heap.size, 1, none⟩) (Nat.le_refl _) _).setCell (p := ⟨W.heap.size, 2, none⟩) (Nat.le_refl _) _⟩
  · have hok : ¬ decOK w = true := fun h => hm (HLAW.out.1 h).1
    have HD := Lib.hid (show decI w = (0, 0, 0, 4) by unfold decI; rw [if_neg hok])
    have HOK := Lib.hid (Bool.eq_false_iff.2 hok)
    have HM := Lib.hid (Bool.eq_false_iff.2 hm)
    clear hok hm
    go_enter Try.func35, Try.ntmps35
    go_wp2_with fail
    generalize w / 4294967296 % 256 = z1 at *
    generalize w / 65536 % 65536 = z2 at *
    generalize w % 65536 = z3 at *
    refine (refmay_any z1 z2 z3 _).mono ?_
    rintro e w1 ⟨rfl, hbx⟩
    rw [HM.out]
    have c0 : w1.cell? ⟨W.heap.size + 1, 0, none⟩ = some (.int .i64 z1) := cell_on hbx (by go_simp)
    have c1 : w1.cell? ⟨W.heap.size + 1, 1, none⟩ = some (.int .i64 z2) := cell_on hbx (by go_simp)
    have c2 : w1.cell? ⟨W.heap.size + 1, 2, none⟩ = some (.int .i64 z3) := cell_on hbx (by go_simp)
    have r0 : w1.cell? ⟨W.heap.size, 0, none⟩ = some (.int .i64 0) := cell_on hbx (by go_simp)
    have r1 : w1.cell? ⟨W.heap.size, 1, none⟩ = some (.int .i64 0) := cell_on hbx (by go_simp)
    have r2 : w1.cell? ⟨W.heap.size, 2, none⟩ = some (.int .i64 0) := cell_on hbx (by go_simp)
    have B1 := ((below1 W _).on (below1 _ _)).on hbx
    have hfz : Thawed w1 W.heap.size := thawed_on hbx (by simp; omega) (fun o => by go_simp)
    clear hbx
    have fz0' := hfz.2
    have fz1 := hfz.1
    go_wp2
    exact bodyPost_ret (v := .tuple #[.agg #[.int .i64 0, .int .i64 0, .int .i64 0], .bool false]) (by simp [results, Try.results35, go_sem, r0, r1, r2]) rfl ⟨by rw [HD.out, HOK.out], ((B1.setCell (p := ⟨W.heap.size, 0, none⟩) (Nat.le_refl _) _).setCell (p := ⟨W.heap.size, 1, none⟩) (Nat.le_refl _) _).setCell (p := ⟨W.heap.size, 2, none⟩) (Nat.le_refl _) _⟩
def linkOK (w : Int) : Bool := decide ((linkI w).2.2.2 = 0)
theorem link_low (w : Int) (h0 : 0 ≤ w) (h2 : w < 2) : linkI w = (w, 0, 0, 0) := by
  unfold linkI linkG
  rcases (show w = 0 ∨ w = 1 by omega) with h | h
  · rw [if_pos h, h]
  · rw [if_neg (by omega), if_pos h, h]
theorem link_high (w z1 z2 : Int) (h2 : ¬ w < 2) (h0 : 0 ≤ w) : linkG w z1 z2 = if aliveB z1 z2 = true then (2, z1, z2, 0) else (0, 0, 0, 4) := by
  unfold linkG
  rw [if_neg (by omega), if_neg (by omega)]
theorem reflink_any (w : Int) (W : World) (h0 : 0 ≤ w) (h1 : w < 18446744073709551616) : Calls Try.prog 39 #[.int .u64 w] W fun e w' => e = .returned (.tuple #[.agg #[.int .i64 (linkI w).1, .int .i64 (linkI w).2.1, .int .i64 (linkI w).2.2.1], .bool (linkOK w)]) ∧ Below W.heap.size W w' := by
  by_cases hlow : w < 2
  · have HD := Lib.hid (link_low w h0 hlow)
    have HK := Lib.hid (show linkOK w = true by unfold linkOK; rw [link_low w h0 hlow]; rfl)
    go_enter Try.func39, Try.ntmps39
    go_wp2
    exact bodyPost_ret (v := .tuple #[.agg #[.int .i64 w, .int .i64 0, .int .i64 0], .bool true]) (by simp [results, Try.results39, go_sem]) rfl ⟨by rw [HD.out, HK.out], below1 _ _⟩
  · by_cases hl2 : w % 4294967296 < 2
    · have hdead : ¬ aliveB (w % 4294967296 - 2) (w / 4294967296) = true := fun h => by have := (aliveB_iff.1 h).1; omega
      have hD : linkI w = (0, 0, 0, 4) := by unfold linkI; rw [link_high w _ _ hlow h0, if_neg hdead]
      have HD := Lib.hid hD
      have HK := Lib.hid (show linkOK w = false by unfold linkOK; rw [hD]; rfl)
      clear hD hdead
      go_enter Try.func39, Try.ntmps39
      go_wp2
      exact bodyPost_ret (v := .tuple #[.agg #[.int .i64 0, .int .i64 0, .int .i64 0], .bool false]) (by simp [results, Try.results39, go_sem]) rfl ⟨by rw [HD.out, HK.out], below1 _ _⟩
    · by_cases ha : aliveB (w % 4294967296 - 2) (w / 4294967296) = true
      · have hD : linkI w = (2, w % 4294967296 - 2, w / 4294967296, 0) := by unfold linkI; rw [link_high w _ _ hlow h0, if_pos ha]
        have HD := Lib.hid hD
        have HK := Lib.hid (show linkOK w = true by unfold linkOK; rw [hD]; rfl)
        have HM := Lib.hid (show mayLinkB 2 (w % 4294967296 - 2) (w / 4294967296) = true by rw [mayLink_two]; exact ha)
        clear hD ha
        go_enter Try.func39, Try.ntmps39
        go_wp2_with fail
        generalize w % 4294967296 - 2 = z1 at *
        generalize w / 4294967296 = z2 at *
        refine (reflinkmay_any 2 z1 z2 _).mono ?_
        rintro e w1 ⟨rfl, hbx⟩
        rw [HM.out]
        have c0 : w1.cell? ⟨W.heap.size + 1, 0, none⟩ = some (.int .i64 2) := cell_on hbx (by go_simp)
        have c1 : w1.cell? ⟨W.heap.size + 1, 1, none⟩ = some (.int .i64 z1) := cell_on hbx (by go_simp)
        have c2 : w1.cell? ⟨W.heap.size + 1, 2, none⟩ = some (.int .i64 z2) := cell_on hbx (by go_simp)
        have r0 : w1.cell? ⟨W.heap.size, 0, none⟩ = some (.int .i64 0) := cell_on hbx (by go_simp)
        have r1 : w1.cell? ⟨W.heap.size, 1, none⟩ = some (.int .i64 0) := cell_on hbx (by go_simp)
        have r2 : w1.cell? ⟨W.heap.size, 2, none⟩ = some (.int .i64 0) := cell_on hbx (by go_simp)
        have B1 := ((below1 W _).on (below1 _ _)).on hbx
        have hfz : Thawed w1 W.heap.size := thawed_on hbx (by simp; omega) (fun o => by go_simp)
        have fz0' := hfz.2
        have fz1 := hfz.1
        clear hbx
        go_wp2
        exact bodyPost_ret (v := .tuple #[.agg #[.int .i64 2, .int .i64 z1, .int .i64 z2], .bool true]) (by simp [results, Try.results39, go_sem, r0, r1, r2]) rfl ⟨by rw [HD.out, HK.out], ((B1.setCell (p := ⟨W.heap.size, 0, none⟩) (Nat.le_refl _) _).setCell (p := ⟨W.heap.size, 1, none⟩) (Nat.le_refl _) _).setCell (p := ⟨W.heap.size, 2, none⟩) (Nat.le_refl _) _⟩
      · have hD : linkI w = (0, 0, 0, 4) := by unfold linkI; rw [link_high w _ _ hlow h0, if_neg ha]
        have HD := Lib.hid hD
        have HK := Lib.hid (show linkOK w = false by unfold linkOK; rw [hD]; rfl)
        have HM := Lib.hid (show mayLinkB 2 (w % 4294967296 - 2) (w / 4294967296) = false by rw [mayLink_two]; exact Bool.eq_false_iff.2 ha)
        clear hD ha
        go_enter Try.func39, Try.ntmps39
        go_wp2_with fail
        generalize w % 4294967296 - 2 = z1 at *
        generalize w / 4294967296 = z2 at *
        refine (reflinkmay_any 2 z1 z2 _).mono ?_
        rintro e w1 ⟨rfl, hbx⟩
        rw [HM.out]
        have c0 : w1.cell? ⟨W.heap.size + 1, 0, none⟩ = some (.int .i64 2) := cell_on hbx (by go_simp)
        have c1 : w1.cell? ⟨W.heap.size + 1, 1, none⟩ = some (.int .i64 z1) := cell_on hbx (by go_simp)
        have c2 : w1.cell? ⟨W.heap.size + 1, 2, none⟩ = some (.int .i64 z2) := cell_on hbx (by go_simp)
        have r0 : w1.cell? ⟨W.heap.size, 0, none⟩ = some (.int .i64 0) := cell_on hbx (by go_simp)
        have r1 : w1.cell? ⟨W.heap.size, 1, none⟩ = some (.int .i64 0) := cell_on hbx (by go_simp)
        have r2 : w1.cell? ⟨W.heap.size, 2, none⟩ = some (.int .i64 0) := cell_on hbx (by go_simp)
        have B1 := ((below1 W _).on (below1 _ _)).on hbx
        have hfz : Thawed w1 W.heap.size := thawed_on hbx (by simp; omega) (fun o => by go_simp)
        have fz0' := hfz.2
        have fz1 := hfz.1
        clear hbx
        go_wp2
        exact bodyPost_ret (v := .tuple #[.agg #[.int .i64 0, .int .i64 0, .int .i64 0], .bool false]) (by simp [results, Try.results39, go_sem, r0, r1, r2]) rfl ⟨by rw [HD.out, HK.out], ((B1.setCell (p := ⟨W.heap.size, 0, none⟩) (Nat.le_refl _) _).setCell (p := ⟨W.heap.size, 1, none⟩) (Nat.le_refl _) _).setCell (p := ⟨W.heap.size, 2, none⟩) (Nat.le_refl _) _⟩
end Go.Proofs.Ytagccnjkgnaimaa
