/- BumpFew: a walk. -/
import Derived.Test.YtkaflgbipjppmaaDoorAl9
namespace Go.Proofs.YtkaflgbipjppmaaDoor
open Go.RowKit
set_option linter.unusedVariables false
set_option linter.unusedSimpArgs false
variable {base w w' : World} {B Wb Ob p q size P0 P1 : Nat} {W own : List Int} {v v0 v1 : Value}
def encI (x : Int) : List Value := [.int .i64 x]
/-- The owners when the first c chunks of 200 are 1's. -/
def ones200 (c : Nat) : List Int := List.replicate c 1 ++ List.replicate (200 - c) 0
def parts200 (c : Nat) : List (Nat × Nat) := (List.range c).map fun i => (i, 1)
theorem ones200_get (c j : Nat) (hc : c ≤ 200) : (ones200 c).getD j 0 = if j < c then 1 else 0 := by
  unfold ones200
  simp only [List.getD, List.getElem?_append, List.length_replicate, List.getElem?_replicate]
  by_cases h : j < c
  · simp [h]
  · simp [h]
    split <;> rfl
theorem ones200_len (c : Nat) (hc : c ≤ 200) : (ones200 c).length = 200 := by simp [ones200]; omega
theorem ones200_run (c : Nat) (hc : c < 200) : runAtO (ones200 c) 1 = (c, true) := by
  refine runAtO_first (by decide) (by rw [ones200_len c (by omega)]; omega) (fun j h1 h2 => ?_) (fun j hj => ?_)
  · rw [ones200_get c j (by omega), if_neg (by omega)]
  · rw [ones200_get c j (by omega), if_pos hj]; decide
theorem ones200_next (c : Nat) (hc : c < 200) : fillO (ones200 c) c 1 1 = ones200 (c + 1) := by
  show (ones200 c).set (c + 0) 1 = _
  unfold ones200
  rw [Nat.add_zero, List.set_append, List.length_replicate, if_neg (by omega), Nat.sub_self]
  have : List.replicate (200 - c) (0 : Int) = 0 :: List.replicate (200 - (c + 1)) 0 := by
    rw [show 200 - c = (200 - (c + 1)) + 1 by omega, List.replicate_succ]
  rw [this, List.set_cons_zero, List.replicate_succ' (n := c), List.append_assoc]
  rfl
theorem ones200_free (c : Nat) (hc : c ≤ 200) : freeN (ones200 c) = 200 - c := by
  unfold freeN
  rw [ones200_len c hc]
  congr 1
  unfold ones200 many
  rw [List.map_append, List.count_append, List.map_replicate, List.map_replicate]
  simp [busy, List.count_replicate]
theorem parts200_next (c : Nat) : parts200 c ++ [(c, 1)] = parts200 (c + 1) := by unfold parts200; rw [List.range_succ]; simp
theorem parts200_len (c : Nat) : (parts200 c).length = c := by simp [parts200]
theorem parts200_chunks (c : Nat) : (chunksL (parts200 c)).length = c := by
  induction c with
  | zero => rfl
  | succ c ih => rw [← parts200_next, chunksL_snoc, List.length_append, ih]; rfl
/-- The state behind some pieces of at most k words, of s words in all. -/
def Few (base : Nat → Prop) (d i c r s : Nat) : Prop := c ≤ i ∧ r ≤ 8 ∧ (c = 0 → r = 0) ∧ (c = 0 ∨ (c - 1) * d + 8 ≤ s + r)
theorem few_room {b : Nat → Prop} {d i c r s n : Nat} (h : Few b d i c r s) (h1 : 1 ≤ n) (hn : n ≤ r) : Few b d (i + 1) c (r - n) (s + n) := by
  obtain ⟨h2, h3, h4, h5⟩ := h
  refine ⟨by omega, by omega, fun e => by have := h4 e; omega, ?_⟩
  rcases h5 with e | e
  · exact .inl e
  · exact .inr (by omega)
theorem few_new {b : Nat → Prop} {d k i c r s n : Nat} (h : Few b d i c r s) (hd : d + k = 9) (hn : n ≤ k) (hr : r < n) : Few b d (i + 1) (c + 1) (8 - n) (s + n) := by
  obtain ⟨h2, h3, h4, h5⟩ := h
  refine ⟨by omega, by omega, fun e => by omega, .inr ?_⟩
  rw [Nat.add_sub_cancel]
  rcases h5 with e | e
  · subst e; simp; omega
  · rcases Nat.eq_zero_or_pos c with h6 | h6
    · subst h6; simp; omega
    · obtain ⟨c', rfl⟩ : ∃ c', c = c' + 1 := ⟨c - 1, by omega⟩
      rw [Nat.add_sub_cancel] at e
      rw [Nat.succ_mul]
      omega
theorem few_end {b : Nat → Prop} {d i c r s : Nat} (h : Few b d i c r s) (hd : 1 ≤ d) : c ≤ s / d + 1 := by
  obtain ⟨h2, h3, h4, h5⟩ := h
  rcases h5 with e | e
  · rw [e]; exact Nat.zero_le _
  · have : (c - 1) * d ≤ s := by omega
    have := (Nat.le_div_iff_mul_le (by omega)).2 this
    omega
def FewSt (base : World) (B Wb Ob p q P0 P1 d i s : Nat) (w : World) : Prop := ∃ W v0 c a e, TW base w B Wb Ob p q W 8 (ones200 c) P0 P1 v0 (.slice none 0 0) (parts200 c) [] a e 0 0 ∧ Few (fun _ => True) d i c (e - a) s ∧ c ≤ 150
theorem FewSt.put {d i s : Nat} (h : FewSt base B Wb Ob p q P0 P1 d i s w) (o : Obj) : FewSt base B Wb Ob p q P0 P1 d i s (w.alloc o) := by
  obtain ⟨W, v0, c, a, e, h1, h2, h3⟩ := h
  exact ⟨W, v0, c, a, e, h1.put o, h2, h3⟩
theorem FewSt.step {d k i s n : Nat} (h : FewSt base B Wb Ob p q P0 P1 d i s w) (hT : Tab base) (h0 : 0 < base.heap.size) (hi : i < 150) (hd : d + k = 9) (hk : k ≤ 8) (hn1 : 1 ≤ n) (hn : n ≤ k) :
    Calls Tryd.prog 18 #[.pointer (some ⟨P0, 0, none⟩), .int .i64 n] w fun e w' => (∃ x : Int, e = .returned (.tuple #[.int .i64 x, .int .i64 0])) ∧ FewSt base B Wb Ob p q P0 P1 d (i + 1) (s + n) w' ∧ Keeps w w' := by
  obtain ⟨W, v0, c, a, e, h1, h2, h3⟩ := h
  have hcs := h2.1
  by_cases hr : n ≤ e - a
  · refine (h1.room0 n hn1 hr).mono ?_
    rintro e' w' ⟨rfl, h4, hm⟩
    refine ⟨⟨_, rfl⟩, ⟨W, v0, c, a + n, e, h4, ?_, h3⟩, AllocS_calm h1.two.s0 h1.two.st hm⟩
    rw [show e - (a + n) = e - a - n by omega]
    exact few_room h2 hn1 hr
  · have hneed : need 8 n = 1 := by unfold need; omega
    have hrun : runAtO (ones200 c) (need 8 n) = (c, true) := by rw [hneed]; exact ones200_run c (by omega)
    refine (h1.run0 hT h0 n c hn1 (by omega) hr hrun (by rw [parts200_len]; omega)).mono ?_
    rintro e' w' ⟨rfl, ⟨v', h4⟩, hm⟩
    rw [hneed, ones200_next c (by omega), parts200_next, if_pos rfl, if_pos rfl] at h4
    refine ⟨⟨_, rfl⟩, ⟨_, v', c + 1, c * 8 + n, (c + 1) * 8, h4, ?_, by omega⟩, AllocS_calm h1.two.s0 h1.two.st hm⟩
    rw [show (c + 1) * 8 - (c * 8 + n) = 8 - n by omega]
    exact few_new h2 hd hn (by omega)
theorem ones200_zero : ones200 0 = List.replicate 200 0 := rfl
set_option maxRecDepth 100000 in
set_option maxHeartbeats 4000000 in
theorem few_walk (most : Int) (A : Option Addr) (al : List Int) (c : Nat) (hc : al.length ≤ c) (hm : al.length ≤ maxLen) (hS : SliceOf w A 1 encI 0 al) (hT : Tab w) :
    Calls Tryd.prog 3 #[.int .i64 most, .slice A al.length c] w fun e w' => e = .returned (.bool true) ∧ Below w.heap.size w w' := by
  unfold maxLen at hm
  obtain ⟨k, hk⟩ : ∃ k : Nat, (k : Int) = 1 + max 0 most % 8 := ⟨(1 + max 0 most % 8).toNat, by have := Int.emod_nonneg (max 0 most) (show (8 : Int) ≠ 0 by decide); omega⟩
  have hk1 : 1 ≤ k := by have := Int.emod_nonneg (max 0 most) (show (8 : Int) ≠ 0 by decide); omega
  have hk8 : k ≤ 8 := by have := Int.emod_lt_of_pos (max 0 most) (show (0 : Int) < 8 by decide); omega
  have HK := Lib.hid hk
  have HT := Lib.hid hT
  have HS := Lib.hid hS
  have h0 : 0 < w.heap.size := lt_of_cell (hT 0 (by decide))
  have HAL : Hid (∀ Y, Below w.heap.size w Y → Calls Tryd.prog 17 #[] Y fun e w' => e = .returned (.bool true) ∧ Below Y.heap.size Y w') := Lib.hid (fun Y hY => alive9_any (fun j hj => (hY.cell (p := ⟨0, j, none⟩) h0).trans (hT j hj)))
  have hmax : (if (0 : Int) < most then most else 0) = max 0 most := by omega
  clear hT hS hk
  go_enter Tryd.func3, Tryd.ntmps3
  go_wp2_with fail
  rw [← HK.out]
  refine (made9 200 8 w.heap.size w (by decide) (by decide) (by decide) (by decide)).mono ?_
  rintro e w1 ⟨B, Wb, Ob, p, q, P0, P1, rfl, h2, hb, hF, hp0, hp1⟩
  have hTW : TW w w1 B Wb Ob p q (List.replicate (200 * 8) 0) 8 (List.replicate 200 0) P0 P1 (.slice none 0 0) (.slice none 0 0) [] [] 0 0 0 0 := ⟨h2, hb, fun k e => by rcases e with e | e | e; exact hF k e; omega; omega⟩
  have HF0 : Hid (FewSt w B Wb Ob p q P0 P1 (9 - k) 0 0 w1) := Lib.hid ⟨_, _, 0, 0, 0, hTW, ⟨Nat.le_refl _, by omega, fun _ => rfl, .inl rfl⟩, by omega⟩
  have HB1 := Lib.hid hb
  have ha := heap_alloc_new w1 (.cells #[.pointer (some ⟨P0, 0, none⟩), .pointer (some ⟨P1, 0, none⟩)] 25)
  have hba := below1 w1 (.cells #[.pointer (some ⟨P0, 0, none⟩), .pointer (some ⟨P1, 0, none⟩)] 25)
  have hBa := hb.on hba
  have hb1 := hb.size
  clear h2 hb hF hp0 hp1 hTW hmax
  go_wp2_with fail
  refine (HAL.out _ hBa).mono ?_
  rintro e w2 ⟨rfl, hb2⟩
  have hB2 := hBa.on hb2
  have HF2 : Hid (FewSt w B Wb Ob p q P0 P1 (9 - k) 0 0 w2) := Lib.hid (by
    obtain ⟨W, v0, c, a, e, g1, g2, g3⟩ := HF0.out
    exact ⟨W, v0, c, a, e, (g1.on hba).on hb2, g2, g3⟩)
  have HA2 := Lib.hid ((hb2.block _ (block_lt ha)).trans ha)
  have hz2 := block_lt HA2.out
  clear ha hba hBa hb2 HF0
  by_cases hlong : 150 < al.length
  · have hl' : (150 : Int) < (al.length : Int) := by omega
    go_wp2_with fail
    refine (HAL.out _ hB2).mono ?_
    rintro e w3 ⟨rfl, hb3⟩
    go_wp2
    go_ret
    exact ⟨rfl, hB2.on hb3⟩
  · have hl' : decide ((150 : Int) < (al.length : Int)) = false := decide_eq_false (by omega)
    have hl2 : al.length ≤ 150 := by omega
    go_wp2_with fail
    go_loopw [8, 39] (fun v8 v39 wr => ∃ i s : Nat, i ≤ al.length ∧ v39 = .int .i64 i ∧ v8 = .int .i64 s ∧ s ≤ i * 8 ∧ Hid (FewSt w B Wb Ob p q P0 P1 (9 - k) i s wr) ∧ Hid (wr.heap[w1.heap.size]? = some (.cells #[.pointer (some ⟨P0, 0, none⟩), .pointer (some ⟨P1, 0, none⟩)] 25 (0, 0)))) (fun _ v39 _ => al.length - (intOf v39).toNat)
    case atStart => exact ⟨0, 0, by omega, rfl, rfl, by omega, HF2, HA2⟩
    case round =>
      obtain ⟨i, s, hi, rfl, rfl, hs, HFr, HAr⟩ := hrel
      have ka := (blk_cells HAr.out 0).trans rfl
      have hBr : Below w.heap.size w wr := by
        obtain ⟨W, v0, c, a, e, g1, g2, g3⟩ := HFr.out
        exact g1.below
      by_cases hlt : i < al.length
      · obtain ⟨b2, o2, rfl, e0⟩ := HS.out.on hBr i hlt
        have e1 := e0 0 _ rfl
        rw [Nat.add_zero, Nat.mul_one] at e1
        generalize al.getD i 0 = y at e0 e1
        obtain ⟨n, hn⟩ : ∃ n : Nat, (n : Int) = 1 + max 0 y % (k : Int) := ⟨(1 + max 0 y % (k : Int)).toNat, by have := Int.emod_nonneg (max 0 y) (show (k : Int) ≠ 0 by omega); omega⟩
        have hn1 : 1 ≤ n := by have := Int.emod_nonneg (max 0 y) (show (k : Int) ≠ 0 by omega); omega
        have hnk : n ≤ k := by have := Int.emod_lt_of_pos (max 0 y) (show (0 : Int) < k by omega); omega
        have HN := Lib.hid hn
        have hmax2 : (if (0 : Int) < y then y else 0) = max 0 y := by omega
        have htm : (max 0 y).tmod (k : Int) = max 0 y % (k : Int) := Int.tmod_eq_emod_of_nonneg (by omega)
        have hk0 : ¬ (k : Int) = 0 := by omega
        have HST := Lib.hid (HFr.out.step HT.out h0 (n := n) (k := k) (by omega) (by omega) hk8 hn1 hnk)
        clear e0 hn
        go_wp2_with fail
        rw [show wrap64 (1 + max 0 y % (k : Int)) = (n : Int) by rw [← HN.out]; simp only [wrap64]; omega]
        refine HST.out.mono ?_
        rintro e w4 ⟨⟨x, rfl⟩, hF4, hK4⟩
        have HF4 := Lib.hid hF4
        have HA4 := Lib.hid (hK4.1 _ _ _ rfl HAr.out)
        clear hF4 hK4 HST ka e1 hmax2 htm
        go_wp2
        go_roundw
        case rel => exact ⟨i + 1, s + n, by omega, by go_num, by go_num, by omega, HF4, HA4⟩
        case measure => simp [intOf]; omega
      · obtain rfl : i = al.length := by omega
        obtain ⟨W, v0, c9, a, e, g1, g2, g3⟩ := HFr.out
        have hend := few_end g2 (by omega)
        have hkd : ((9 - k : Nat) : Int) = 8 - (k : Int) + 1 := by omega
        have hsd : (s : Int) / (8 - (k : Int) + 1) = ((s / (9 - k) : Nat) : Int) := by rw [← hkd]; simp
        have HTW := Lib.hid g1
        have hlen := parts200_len c9
        have hch := parts200_chunks c9
        have hfree := ones200_free c9 (by omega)
        have HC1 : Hid (∀ Y, Below wr.heap.size wr Y → Calls Tryd.prog 19 #[.pointer (some ⟨P0, 0, none⟩)] Y fun e w' => ∃ A c, e = .returned (.slice A c9 c) ∧ Below Y.heap.size Y w') := Lib.hid (fun Y hY => (chunks_sp (HTW.out.on hY).two.s0 (by rw [hlen]; omega)).mono fun e w' ⟨A, c, h1, h2, h3⟩ => ⟨A, c, by rw [h1, hch], h3⟩)
        have HC2 := HC1
        have HFE : Hid (∀ Y, Below wr.heap.size wr Y → Calls Tryd.prog 20 #[.pointer (some ⟨B, 0, none⟩)] Y fun e w' => e = .returned (.int .i64 (200 - c9 : Nat)) ∧ Below Y.heap.size Y w') := Lib.hid (fun Y hY => by
          have := free_any (HTW.out.on hY).two.st
          rwa [hfree] at this)
        have HKA : Hid (∀ Y, Below wr.heap.size wr Y → Y.cell? ⟨w1.heap.size, 0, none⟩ = some (.pointer (some ⟨P0, 0, none⟩))) := Lib.hid (fun Y hY => (blk_cells ((hY.block _ (block_lt HAr.out)).trans HAr.out) 0).trans rfl)
        have hcur : Below wr.heap.size wr wr.drew := Below.drew (Below.refl _ _)
        have HB9 := Lib.hid hBr
        have kd := HKA.out _ hcur
        obtain ⟨d, hd⟩ : ∃ d, d = 9 - k := ⟨_, rfl⟩
        obtain ⟨m, hm8⟩ : ∃ m, m = 8 - k := ⟨_, rfl⟩
        have hq1 : 8 - (k : Int) = (m : Int) := by omega
        have hr1 : IntKind.i64.wrap (8 - (k : Int)) = (m : Int) := by rw [IntKind.wrap_i64]; omega
        have hr2 : IntKind.i64.wrap ((m : Int) + 1) = (d : Int) := by rw [IntKind.wrap_i64]; omega
        have hr3 : (m : Int) + 1 = (d : Int) := by omega
        have hr7 : IntKind.i64.wrap (m : Int) = (m : Int) := by rw [IntKind.wrap_i64]; omega
        have hr8 : IntKind.i64.wrap (d : Int) = (d : Int) := by rw [IntKind.wrap_i64]; omega
        have hq2 : ¬ (d : Int) = 0 := by omega
        have hq4 : ¬ d = 0 := by omega
        have hsd2 : s / d ≤ s := Nat.div_le_self _ _
        obtain ⟨sd, hsd3⟩ : ∃ sd, sd = s / d := ⟨_, rfl⟩
        have hq3 : (s : Int).tdiv (d : Int) = (sd : Int) := by rw [Int.tdiv_eq_ediv_of_nonneg (by omega), hsd3]; simp
        rw [← hsd3] at hsd2
        have hr4 : IntKind.i64.wrap (sd : Int) = (sd : Int) := by rw [IntKind.wrap_i64]; omega
        have hr5 : IntKind.i64.wrap ((sd : Int) + 1) = (sd : Int) + 1 := by rw [IntKind.wrap_i64]; omega
        have hr6 : IntKind.i64.wrap (200 - (c9 : Int)) = 200 - (c9 : Int) := by rw [IntKind.wrap_i64]; omega
        clear hm8
        have hle1 : decide ((c9 : Int) ≤ (sd : Int) + 1) = true := decide_eq_true (by rw [hd] at hsd3; omega)
        clear hsd3
        have h9 : ((200 - c9 : Nat) : Int) = 200 - (c9 : Int) := by omega
        have heq1 : (((200 - c9 : Nat) : Int) == 200 - (c9 : Int)) = true := by rw [h9]; simp
        clear g1 g2 hlen hch hfree hkd hsd ka HFr hend hd
        go_wp2_with fail
        go_region_with (first | (go_at_call 20; refine (HFE.out _ hcur).mono ?_; rintro e w7 ⟨rfl, hbn⟩; replace hcur := Below.on hcur hbn; have kn := HKA.out _ hcur; clear hbn HFE) | (go_at_call 19; first | (refine (HC1.out _ hcur).mono ?_; rintro e w8 ⟨A8, c8, rfl, hbn⟩; replace hcur := Below.on hcur hbn; have kn := HKA.out _ hcur; clear hbn HC1) | (refine (HC2.out _ hcur).mono ?_; rintro e w9 ⟨A9', c9', rfl, hbn⟩; replace hcur := Below.on hcur hbn; have kn := HKA.out _ hcur; clear hbn HC2)))
        all_goals
          go_wp2
          go_ret
          exact ⟨rfl, HB9.out.on hcur⟩
end Go.Proofs.YtkaflgbipjppmaaDoor
