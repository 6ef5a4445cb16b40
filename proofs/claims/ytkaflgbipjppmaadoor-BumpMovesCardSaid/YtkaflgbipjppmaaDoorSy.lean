/- The writing contracts of the package store: walks. -/
import Derived.Test.YtkaflgbipjppmaaDoorSx
namespace Go.Proofs.YtkaflgbipjppmaaDoor
open Go.RowKit
set_option linter.unusedVariables false
set_option linter.unusedSimpArgs false
variable {w w' : World} {B Wb Ob p q size : Nat} {W W' own own' : List Int}
theorem StoreAt.setW (h : StoreAt w B Wb Ob p q W size own) (a : Nat) (x : Int) : StoreAt (w.setCell ⟨Wb, a, none⟩ (.int .u64 x)) B Wb Ob p q (W.set a x) size own := by
  obtain ⟨u, hu⟩ := h.map
  have hm : Mod (fun k => k = Wb) w (w.setCell ⟨Wb, a, none⟩ (.int .u64 x)) := Mod.setCell _ _ _ _ rfl
  refine { h with head := ?_, body := ?_, owners := hm.keeps h.owners (fun e => h.n5 e.symm), map := ⟨u, hu.mod hm (fun e => h.n6 e.symm) (fun e => h.n7 e.symm)⟩, hW := by rw [List.length_set]; exact h.hW }
  · rw [List.length_set]; exact hm.keeps h.head h.n1
  · rw [blk_set h.body a (.int .u64 x)]
    simp [wordV]
theorem StoreAt.setO (h : StoreAt w B Wb Ob p q W size own) (hw : Mod (Four3 Wb Ob p q) w w') {own2 : List Int} (hl : own2.length = own.length) (hp : ∀ o ∈ own2, 0 ≤ o)
    (hWb : w'.heap[Wb]? = w.heap[Wb]?) (hO : w'.heap[Ob]? = some (.cells (own2.map ownV).toArray 3 (0, 0))) (hm : ∃ u, MapAt w' p q (own2.map busy) u 122 46) : StoreAt w' B Wb Ob p q W size own2 := by
  have hh := hw.keeps h.head (fun e => by rcases e with e | e | e | e; exact h.n1 e; exact h.n2 e; exact h.n3 e; exact h.n4 e)
  rw [← hl] at hh
  exact { h with head := hh, body := hWb.trans h.body, owners := hO, map := hm, hW := (by rw [hl]; exact h.hW), o1 := (by rw [hl]; exact h.o1), o2 := (by rw [hl]; exact h.o2), pos := hp }
theorem write_out (h : StoreAt w B Wb Ob p q W size own) (a x : Int) (ha : a < 0 ∨ W.length ≤ a) : Calls Tryd.prog 26 #[.pointer (some ⟨B, 0, none⟩), .int .i64 a, .int .u64 x] w fun e w' => e = .returned (.int .i64 3) ∧ w = w' := by
  have HC := Lib.hid (at_out h a 1 (by omega))
  clear h
  go_enter Tryd.func26, Tryd.ntmps26
  go_wp2_with (go_at_call 55; refine HC.out.mono ?_; rintro e w1 ⟨rfl, rfl⟩)
  go_ret
  exact ⟨rfl, rfl⟩
def writeW (W own : List Int) (size a : Nat) (x : Int) : List Int := if own.getD (a / size) 0 = 0 then W else W.set a x
theorem write_in (h : StoreAt w B Wb Ob p q W size own) (a : Nat) (x : Int) (ha : a < W.length) : Calls Tryd.prog 26 #[.pointer (some ⟨B, 0, none⟩), .int .i64 a, .int .u64 x] w fun e w' => e = .returned (.int .i64 (chE own (a / size))) ∧ StoreAt w' B Wb Ob p q (writeW W own size a x) size own ∧ Mod (Four3 Wb Ob p q) w w' := by
  have HC0 := at_some h a 1 (by decide) (by omega)
  have h0 := h.c0
  have hl := h.wlen
  have hcell := h.word_cell a ha
  have hth := blk_thaw h.body a
  unfold atE at HC0
  rw [okW_one] at HC0
  unfold writeW chE
  have H := Lib.hid h
  generalize W.getD a 0 = y0 at hcell
  generalize own.getD (a / size) 0 = y at HC0 ⊢
  clear h
  by_cases hy : y = 0
  · rw [if_pos hy, if_pos hy]
    rw [if_neg (by simp [hy])] at HC0
    have HC := Lib.hid HC0
    clear HC0
    go_enter Tryd.func26, Tryd.ntmps26
    go_wp2_with (go_at_call 55; refine HC.out.mono ?_; rintro e w1 ⟨rfl, rfl⟩)
    go_ret
    exact ⟨rfl, H.out, Mod.refl _ _⟩
  · rw [if_neg hy, if_neg hy]
    rw [if_pos (by simp [hy])] at HC0
    have HC := Lib.hid HC0
    clear HC0 hy
    go_enter Tryd.func26, Tryd.ntmps26
    go_wp2_with (go_at_call 55; refine HC.out.mono ?_; rintro e w1 ⟨rfl, rfl⟩)
    go_ret
    exact ⟨rfl, H.out.setW a x, Mod.setCell _ _ _ _ (.inl rfl)⟩
theorem release_out (h : StoreAt w B Wb Ob p q W size own) (c : Int) (hc : c < 0 ∨ own.length ≤ c) : Calls Tryd.prog 28 #[.pointer (some ⟨B, 0, none⟩), .int .i64 c] w fun e w' => e = .returned (.int .i64 3) ∧ w = w' := by
  have HC := Lib.hid (check_out h c hc)
  clear h
  go_enter Tryd.func28, Tryd.ntmps28
  go_wp2_with (go_at_call 56; refine HC.out.mono ?_; rintro e w1 ⟨rfl, rfl⟩)
  go_ret
  exact ⟨rfl, rfl⟩
theorem release_free (h : StoreAt w B Wb Ob p q W size own) (c : Nat) (hc : c < own.length) (h0 : own.getD c 0 = 0) : Calls Tryd.prog 28 #[.pointer (some ⟨B, 0, none⟩), .int .i64 c] w fun e w' => e = .returned (.int .i64 17) ∧ w = w' := by
  have HC0 := check_in h c hc
  unfold chE at HC0
  rw [if_pos h0] at HC0
  have HC := Lib.hid HC0
  clear h HC0 h0
  go_enter Tryd.func28, Tryd.ntmps28
  go_wp2_with (go_at_call 56; refine HC.out.mono ?_; rintro e w1 ⟨rfl, rfl⟩)
  go_ret
  exact ⟨rfl, rfl⟩
theorem set_pos {l : List Int} (h : ∀ o ∈ l, 0 ≤ o) (c : Nat) {x : Int} (hx : 0 ≤ x) : ∀ o ∈ l.set c x, 0 ≤ o := fun o ho => by
  rcases List.mem_or_eq_of_mem_set ho with g | g
  · exact h o g
  · rw [g]; exact hx
set_option maxHeartbeats 1000000 in
theorem release_in (h : StoreAt w B Wb Ob p q W size own) (c : Nat) (hc : c < own.length) (h0 : own.getD c 0 ≠ 0) : Calls Tryd.prog 28 #[.pointer (some ⟨B, 0, none⟩), .int .i64 c] w fun e w' => e = .returned (.int .i64 0) ∧ StoreAt w' B Wb Ob p q W size (own.set c 0) ∧ Mod (Four3 Wb Ob p q) w w' := by
  have HC0 := check_in h c hc
  unfold chE at HC0
  rw [if_neg h0] at HC0
  have HC := Lib.hid HC0
  have H := Lib.hid h
  have k2 := h.c2
  have k3 := h.c3
  have hcell := h.own_cell c hc
  have hth := blk_thaw h.owners c
  have hol := h.o2
  obtain ⟨u, hu⟩ := h.map
  have hm1 : Mod (fun k => k = Ob) w (w.setCell ⟨Ob, c, none⟩ (.int .i64 0)) := Mod.setCell _ _ _ _ rfl
  have k3' : (w.setCell ⟨Ob, c, none⟩ (.int .i64 0)).cell? ⟨B, 3, none⟩ = some (.pointer (some ⟨p, 0, none⟩)) := hm1.cell k3 h.n2
  have HS := Lib.hid (set_in (hu.mod hm1 (fun e => h.n8 e.symm) (fun e => h.n9 e.symm)) c false (by simpa using hc))
  have hnB : ¬ B = Ob := h.n2
  have hnB2 : ¬ Ob = B := fun e => h.n2 e.symm
  generalize own.getD c 0 = y at hcell h0
  clear h HC0 h0 hu
  go_enter Tryd.func28, Tryd.ntmps28
  go_wp2_with (first | (go_at_call 56; refine HC.out.mono ?_; rintro e w1 ⟨rfl, rfl⟩) | (go_at_call 57; refine HS.out.mono ?_; rintro e w2 ⟨rfl, hT⟩; have HT := Lib.hid hT; clear hT))
  go_ret
  obtain ⟨u2, hu2, hm2⟩ := HT.out
  have hmm : Mod (Four3 Wb Ob p q) w w2 := (hm1.mono fun k _ e => .inr (.inl e)).trans (hm2.mono fun k _ e => by rcases e with e | e; exact .inr (.inr (.inl e)); exact .inr (.inr (.inr e)))
  have hn2 : ∀ k, k ≠ p → k ≠ q → ¬ Two p q k := fun k h1 h2 e => e.elim h1 h2
  refine ⟨rfl, H.out.setO hmm (by simp) (set_pos H.out.pos c (Int.le_refl _)) ?_ ?_ ⟨u2, ?_⟩, hmm⟩
  · have hb := (hm2.keeps (hm1.keeps H.out.body H.out.n5) (hn2 _ H.out.n6 H.out.n7))
    rw [hb, H.out.body]
  · have := hm2.keeps (blk_set H.out.owners c (.int .i64 0)) (hn2 _ H.out.n8 H.out.n9)
    rw [this]
    simp [ownV]
  · have : (own.set c 0).map busy = (own.map busy).set c false := by rw [List.map_set]; rfl
    rw [this]
    exact hu2
theorem give_few (B : Nat) (c o : Int) (w : World) (ho : o < 1) : Calls Tryd.prog 30 #[.pointer (some ⟨B, 0, none⟩), .int .i64 c, .int .i64 o] w fun e w' => e = .returned (.int .i64 2) ∧ w = w' := by
  go_enter Tryd.func30, Tryd.ntmps30
  go_wp2
  go_ret
  exact ⟨rfl, rfl⟩
theorem give_out (h : StoreAt w B Wb Ob p q W size own) (c o : Int) (ho : 1 ≤ o) (hc : c < 0 ∨ own.length ≤ c) : Calls Tryd.prog 30 #[.pointer (some ⟨B, 0, none⟩), .int .i64 c, .int .i64 o] w fun e w' => e = .returned (.int .i64 3) ∧ w = w' := by
  have HC := Lib.hid (check_out h c hc)
  have c1 : ¬ o < 1 := by omega
  clear h
  go_enter Tryd.func30, Tryd.ntmps30
  go_wp2_with (go_at_call 56; refine HC.out.mono ?_; rintro e w1 ⟨rfl, rfl⟩)
  go_ret
  exact ⟨rfl, rfl⟩
theorem give_free (h : StoreAt w B Wb Ob p q W size own) (c : Nat) (o : Int) (ho : 1 ≤ o) (hc : c < own.length) (h0 : own.getD c 0 = 0) : Calls Tryd.prog 30 #[.pointer (some ⟨B, 0, none⟩), .int .i64 c, .int .i64 o] w fun e w' => e = .returned (.int .i64 17) ∧ w = w' := by
  have HC0 := check_in h c hc
  unfold chE at HC0
  rw [if_pos h0] at HC0
  have HC := Lib.hid HC0
  have c1 : ¬ o < 1 := by omega
  clear h HC0 h0
  go_enter Tryd.func30, Tryd.ntmps30
  go_wp2_with (go_at_call 56; refine HC.out.mono ?_; rintro e w1 ⟨rfl, rfl⟩)
  go_ret
  exact ⟨rfl, rfl⟩
theorem give_in (h : StoreAt w B Wb Ob p q W size own) (c : Nat) (o : Int) (ho : 1 ≤ o) (hc : c < own.length) (h0 : own.getD c 0 ≠ 0) : Calls Tryd.prog 30 #[.pointer (some ⟨B, 0, none⟩), .int .i64 c, .int .i64 o] w fun e w' => e = .returned (.int .i64 0) ∧ StoreAt w' B Wb Ob p q W size (own.set c o) ∧ Mod (Four3 Wb Ob p q) w w' := by
  have HC0 := check_in h c hc
  unfold chE at HC0
  rw [if_neg h0] at HC0
  have HC := Lib.hid HC0
  have H := Lib.hid h
  have k2 := h.c2
  have hcell := h.own_cell c hc
  have hth := blk_thaw h.owners c
  have hol := h.o2
  have c1 : ¬ o < 1 := by omega
  have HG := Lib.hid h0
  generalize hy : own.getD c 0 = y at hcell
  clear h HC0 h0 hy
  go_enter Tryd.func30, Tryd.ntmps30
  go_wp2_with (go_at_call 56; refine HC.out.mono ?_; rintro e w1 ⟨rfl, rfl⟩)
  go_ret
  have hm1 : Mod (fun k => k = Ob) w (w.setCell ⟨Ob, c, none⟩ (.int .i64 o)) := Mod.setCell _ _ _ _ rfl
  obtain ⟨u, hu⟩ := H.out.map
  refine ⟨rfl, H.out.setO (hm1.mono fun k _ e => .inr (.inl e)) (by simp) (set_pos H.out.pos c (by omega)) ?_ ?_ ⟨u, ?_⟩, hm1.mono fun k _ e => .inr (.inl e)⟩
  · rw [hm1.keeps H.out.body H.out.n5, H.out.body]
  · rw [blk_set H.out.owners c (.int .i64 o)]
    simp [ownV]
  · have : (own.set c o).map busy = own.map busy := by
      rw [List.map_set]
      have h1 : (own.map busy).getD c false = true := by
        have : (own.map busy).getD c false = busy (own.getD c 0) := by simp [List.getD, hc]
        rw [this]; simp [busy, HG.out, - List.getD_eq_getElem?_getD]
      have h2 : busy o = true := by simp [busy]; omega
      rw [h2]
      exact set_same (by simpa using hc) h1
    rw [this]
    exact hu.mod hm1 (fun e => H.out.n8 e.symm) (fun e => H.out.n9 e.symm)
theorem take_any (o : Int) (R : Ending → World → Prop) (h : Calls Tryd.prog 29 #[.pointer (some ⟨B, 0, none⟩), .int .i64 o, .int .i64 1] w R) (hR : ∀ e w', R e w' → ∃ v x, e = .returned (.tuple #[v, x])) : Calls Tryd.prog 27 #[.pointer (some ⟨B, 0, none⟩), .int .i64 o] w R := by
  have HR := Lib.hid hR
  go_enter Tryd.func27, Tryd.ntmps27
  go_wp2_with fail
  refine h.mono ?_
  rintro e w1 hr
  obtain ⟨v, x, rfl⟩ := HR.out e w1 hr
  have H := Lib.hid hr
  clear hr hR
  go_wp2
  exact H.out
end Go.Proofs.YtkaflgbipjppmaaDoor
