/- Owned: a walk. -/
import Derived.Test.YtkaflgbipjppmaaDoorSm
import Derived.Test.YtkaflgbipjppmaaDoorRs
import Derived.Test.YtkaflgbipjppmaaDoorSy
import Derived.Test.YtkaflgbipjppmaaDoorSp
namespace Go.Proofs.YtkaflgbipjppmaaDoor
open Go.RowKit Go.Shelf
set_option linter.unusedVariables false
set_option linter.unusedSimpArgs false
attribute [local go_sem] Oper.semAt_some
variable {w w' : World} {B Wb Ob p q size : Nat} {W W' own own' : List Int}
/-- Of some chunks an owner's. -/
def selO (own : List Int) (o : Int) (l : List Nat) : List Nat := l.filter fun c => decide (own.getD c 0 = o)
/-- An owner's chunks. -/
def ownedL (own : List Int) (o : Int) : List Nat := selO own o (ones (own.map busy))
theorem selO_yes {own : List Int} {o : Int} {l : List Nat} {c : Nat} (h : own.getD c 0 = o) : selO own o (l ++ [c]) = selO own o l ++ [c] := by
  unfold selO; rw [List.filter_append]; simp [h, - List.getD_eq_getElem?_getD]
theorem selO_no {own : List Int} {o : Int} {l : List Nat} {c : Nat} (h : own.getD c 0 ≠ o) : selO own o (l ++ [c]) = selO own o l := by
  unfold selO; rw [List.filter_append]; simp [h, - List.getD_eq_getElem?_getD]
theorem selO_le (own : List Int) (o : Int) (l : List Nat) : (selO own o l).length ≤ l.length := List.length_filter_le _ _
theorem onesP_lt {bits : List Bool} {is : List Nat} {i : Nat} (h : (is ++ [i]) <+: ones bits) : i < bits.length := by
  have hm : i ∈ ones bits := h.subset (by simp)
  have := (List.mem_filter.1 (show i ∈ onesTo bits bits.length from hm)).1
  simpa using this
theorem own_low {bs b2 : Nat} {t : TypeId} {size n : Nat} {v : Value} {xs : List Value} (h : w.ownsRow bs t size v n xs) (hb : b2 ≤ bs) : w.ownsRow b2 t size v n xs := by
  obtain ⟨h1, h2⟩ := h
  refine ⟨h1, ?_⟩
  rcases h2 with h2 | ⟨g, cap, cur, hv, hg, r⟩
  · exact .inl h2
  · exact .inr ⟨g, cap, cur, hv, Nat.le_trans hb hg, r⟩
/-- What holds in Owned's loop. -/
def OwI (own : List Int) (o : Int) (w : World) (B : Nat) (pre : List Nat) (X : World) : Prop := Below w.heap.size w X ∧ Boxed X w.heap.size 23 (.pointer (some ⟨B, 0, none⟩)) ∧ Boxed X (w.heap.size + 1) 3 (.int .i64 o) ∧
  ∃ v, Boxed X (w.heap.size + 2) 22 v ∧ X.ownsRow (w.heap.size + 6) 3 1 v (selO own o pre).length ((selO own o pre).map intV) ∧ (v = .slice none 0 0 ↔ selO own o pre = [])
theorem OwI.mod {o : Int} {X X' : World} {pre : List Nat} {P : Nat → Prop} (h : OwI own o w B pre X) (hm : Mod P X X') (hn : ∀ k, k < w.heap.size + 3 ∨ w.heap.size + 6 ≤ k → ¬ P k) : OwI own o w B pre X' := by
  obtain ⟨h1, h2, h3, v, h4, h5, h6⟩ := h
  refine ⟨Mod.below h1 hm (fun k e => Classical.byContradiction fun g => hn k (.inl (by omega)) e) h1.size, hm.keeps h2 (hn _ (.inl (by omega))), hm.keeps h3 (hn _ (.inl (by omega))), v, hm.keeps h4 (hn _ (.inl (by omega))), own_mod h5 hm (fun k hk => hn _ (.inr (h5.lt k hk).1)), h6⟩
theorem owned_nil (o : Int) (w : World) : Calls Tryd.prog 31 #[.pointer none, .int .i64 o] w fun e w' => e = .returned (.slice none 0 0) ∧ Below w.heap.size w w' := by
  refine (callsIn_wide (n := 12)).1 ?_
  have hb := ((below1 w (.cells #[.pointer none] 23)).on (below1 _ (.cells #[.int .i64 o] 3))).on (below1 _ (.cells #[.slice none 0 0] 22))
  have bA := ((Boxed.new w 23 (.pointer none)).alloc (.cells #[.int .i64 o] 3)).alloc (.cells #[.slice none 0 0] 22)
  have cA := bA.cell
  refine callsIn_of_wp_marks Tryd.func31 rfl trivial ?_ rfl
  simp only [Tryd.ntmps31, List.size_toArray, List.length_cons, List.length_nil, Nat.reduceAdd, Nat.reduceSub, Array.replicate_succ, Array.replicate_zero, List.push_toArray, List.append_toArray, List.nil_append, List.cons_append]
  gi_wp2
  exact ⟨_, results_tmp rfl _ _ _, rfl, hb⟩
set_option maxRecDepth 100000 in
set_option maxHeartbeats 4000000 in
theorem owned_post (h : StoreAt w B Wb Ob p q W size own) (hT : Tab w) (o : Int) : Calls Tryd.prog 31 #[.pointer (some ⟨B, 0, none⟩), .int .i64 o] w (AllPost (ownedL own o) w) := by
  refine (callsIn_wide (n := 12)).1 ?_
  obtain ⟨i0, hi, hz0, hz1, hz2⟩ := info_parts infoInt
  have HI := Lib.hid hi
  have HZ0 := Lib.hid hz0
  have HZ1 := Lib.hid hz1
  have HZ2 := Lib.hid hz2
  clear hi hz0 hz1 hz2
  have hol := h.o2
  have hLOW : Hid (∀ k, Five B Wb Ob p q k → k < w.heap.size) := Lib.hid (fun k e => by
    obtain ⟨u, hu⟩ := h.map
    rcases e with e | e | e | e | e
    · rw [e]; exact block_lt h.head
    · rw [e]; exact block_lt h.body
    · rw [e]; exact block_lt h.owners
    · rw [e]; exact block_lt hu.head
    · rw [e]; exact block_lt hu.body)
  have HS0 := Lib.hid h
  have hlt0 := lt_of_cell (hT 0 (by decide))
  have e1 := ((below1 w (.cells #[.pointer (some ⟨B, 0, none⟩)] 23)).on (below1 _ (.cells #[.int .i64 o] 3))).on (below1 _ (.cells #[.slice none 0 0] 22))
  have hs1 := h.on e1
  have k3 := hs1.c3
  have hT1 := hT.on e1
  have bA := ((Boxed.new w 23 (.pointer (some ⟨B, 0, none⟩))).alloc (.cells #[.int .i64 o] 3)).alloc (.cells #[.slice none 0 0] 22)
  have bO := (Boxed.new (w.alloc (.cells #[.pointer (some ⟨B, 0, none⟩)] 23)) 3 (.int .i64 o)).alloc (.cells #[.slice none 0 0] 22)
  have bL := Boxed.new ((w.alloc (.cells #[.pointer (some ⟨B, 0, none⟩)] 23)).alloc (.cells #[.int .i64 o] 3)) 22 (.slice none 0 0)
  rw [World.size_alloc] at bO
  rw [World.size_alloc, World.size_alloc] at bL
  refine callsIn_of_wp_marks Tryd.func31 rfl trivial ?_ rfl
  simp only [Tryd.ntmps31, List.size_toArray, List.length_cons, List.length_nil, Nat.reduceAdd, Nat.reduceSub, Array.replicate_succ, Array.replicate_zero, List.push_toArray, List.append_toArray, List.nil_append, List.cons_append]
  have HS1 := Lib.hid hs1
  have HT1 := Lib.hid hT1
  have HE1 := Lib.hid e1
  have cA := bA.cell
  clear h hT hs1 hT1 e1
  gi_wp2_with fail
  refine ⟨trivial, (all_in _ _ _).mono ?_⟩
  rintro e w' ⟨rfl, rfl⟩
  have hsz3 : (((w.alloc (.cells #[.pointer (some ⟨B, 0, none⟩)] 23)).alloc (.cells #[.int .i64 o] 3)).alloc (.cells #[.slice none 0 0] 22)).heap.size = w.heap.size + 3 := by rw [World.size_alloc, World.size_alloc, World.size_alloc]
  generalize ((w.alloc (.cells #[.pointer (some ⟨B, 0, none⟩)] 23)).alloc (.cells #[.int .i64 o] 3)).alloc (.cells #[.slice none 0 0] 22) = w3 at *
  have hb4 := below1 w3 (.cells #[.pointer (some ⟨p, 0, none⟩)] 94)
  have bN := Boxed.new w3 94 (.pointer (some ⟨p, 0, none⟩))
  have hs4 := HS1.out.on hb4
  have hT4 := HT1.out.on hb4
  have HE4 := Lib.hid (HE1.out.on hb4)
  replace bA := bA.alloc (.cells #[.pointer (some ⟨p, 0, none⟩)] 94)
  replace bO := bO.alloc (.cells #[.pointer (some ⟨p, 0, none⟩)] 94)
  replace bL := bL.alloc (.cells #[.pointer (some ⟨p, 0, none⟩)] 94)
  have hsz4 : (w3.alloc (.cells #[.pointer (some ⟨p, 0, none⟩)] 94)).heap.size = w.heap.size + 4 := by rw [World.size_alloc, hsz3]
  rw [hsz3] at bN ⊢
  generalize w3.alloc (.cells #[.pointer (some ⟨p, 0, none⟩)] 94) = w4 at *
  clear HS1 HT1 HE1 hb4 hsz3 cA k3
  obtain ⟨ws, hm4⟩ := hs4.map
  have HS4 := Lib.hid hs4
  have e3 := hLOW.out p (.inr (.inr (.inr (.inl rfl))))
  have e4 := hLOW.out q (.inr (.inr (.inr (.inr rfl))))
  have hole : (ones (own.map busy)).length ≤ 1024 := by
    have := onesTo_le (bits := own.map busy) (own.map busy).length
    rw [List.length_map] at this
    unfold ones; rw [List.length_map]; omega
  clear hs4
  gi_wp2_with fail
  refine range_all1 rfl (by omega) (gf := 80) (lb := #[.pointer (some ⟨w.heap.size + 3, 0, none⟩)]) rfl trivial (enters_of Tryd.func80 (by kernel_rfl) rfl)
    (fun k => k = w.heap.size + 2 ∨ w.heap.size + 6 ≤ k) (fun k e => by rcases e with e | e <;> omega)
    (ball_gives _ (by omega) (w.heap.size + 3) _ _ bN hm4 hT4 (fun e => by rcases e with (e | e) | e <;> omega) (fun e => by rcases e with (e | e) | e <;> omega) (fun e => by rcases e with (e | e) | e <;> omega) (fun e => by rcases e with (e | e) | e <;> omega))
    (fun _ => rfl)
    (OwI own o w B)
    (fun s A C h hm => h.mod hm (fun k hk e => by have e' : w4.heap.size ≤ k ∧ k < w4.heap.size + 2 + 0 := e; omega))
    ⟨HE4.out, bA, bO, _, bL, World.ownsRow_nil _ _ _ _, by simp [selO]⟩
    (fun pre x X => OwI own o w B pre X)
    (fun s x A C h hm => h.mod hm (fun k hk e => by have e' : k = w4.heap.size + 1 := e; omega))
    ?a1 ?assign ?body ?done
  case assign =>
    intro lp pre x X K hsz hi hpre hK
    gi_wp2
    exact hK _ (Mod.refl _ _) hi
  case done =>
    rintro X ⟨hB, hA, hO, v, hL, hrow, hnil⟩ hK hsz
    have cL := hL.cell
    gi_wp2
    refine ⟨by simp, .inl ⟨_, _, rfl, run_takeDeferred hK, ?_⟩⟩
    have hmp := Mod.putObj (fun k => k = w4.heap.size) X w4.heap.size (.deferred none) rfl
    exact ⟨_, results_tmp rfl _ _ _, v, rfl, own_low (own_mod hrow hmp (fun k hk e => by have e' : k = w4.heap.size := e; have := (hrow.lt k hk).1; omega)) (by omega), hnil, Mod.below hB hmp (fun k e => by rw [e]; omega) hB.size⟩
  case body =>
    rintro lp pre x X hsz ⟨hB, hA, hO, v, hL, hrow, hnil⟩ hpre
    have hx0 := onesP_lt hpre
    rw [List.length_map] at hx0
    have hpl : pre.length ≤ 1024 := by have := hpre.length_le; simp at this; omega
    have hsl := selO_le own o pre
    have hsX := HS0.out.on hB
    have k2 := hsX.c2
    have kc := hsX.own_cell x hx0
    have cA := hA.cell
    have cO := hO.cell
    have cL := hL.cell
    have hmx : Tryd.prog.follows .mixedOrders = true := by kernel_rfl
    have HB := Lib.hid hB
    have HA := Lib.hid hA
    have HO := Lib.hid hO
    have HL := Lib.hid hL
    have HN := Lib.hid hnil
    by_cases he : own.getD x 0 = o
    · have HSE := Lib.hid (selO_yes (l := pre) he)
      have kb : (own.getD x 0 == o) = true := by simpa using he
      generalize own.getD x 0 = y at kc kb
      clear he hsX hnil hA hO
      try gi_wp2
      refine round_still_tail 8 (by kernel_rfl) (by kernel_rfl) (by kernel_rfl) rfl ?_
      simp only [List.take_succ_cons, List.take_zero, List.drop_succ_cons, List.drop_zero]
      iterate 8
        with_reducible refine wpStill_step ?_
        intro K hK
        go_simp
        with_reducible refine hK _ ?_
        clear hK K
      refine wpStill_nil ?_
      have hnb : ∀ k, v.ownBlock = some k → w.heap.size + 6 ≤ k := fun k e => (hrow.lt k e).1
      have HNB := Lib.hid hnb
      have hl8 : (selO own o pre).length + 1 ≤ 1025 := by omega
      have hml : (selO own o pre).length + 1 ≤ maxLen := by unfold maxLen; omega
      have hbX : Below X.heap.size X (X.alloc (.cells #[.int .i64 (x : Nat)] 3)).drew := Below.drew (below1 X _)
      have hrow9 := own_on hrow hbX
      have HBX := Lib.hid hbX
      clear hnb hrow hbX
      gi_wp2_with (gi_at_builtin; go_loud (refine wpListIn_append_own _ rfl _ _ 22 rfl (w.heap.size + 6) 3 i0 (.int .i64 0) 1 8 Tryd.underlying22 HI.out HZ0.out HZ1.out HZ2.out rfl (by decide) v _ _ rfl hrow9 ⟨X.heap.size, 0, none⟩ 1 1 [.int .i64 (x : Nat)] rfl rfl (World.news_of_block (w := (X.alloc (.cells #[.int .i64 (x : Nat)] 3)).drew) (heap_alloc_new X (.cells #[.int .i64 (x : Nat)] 3))) (by simp [Value.oneCell']) (by omega) (by omega) (by simp; omega) ?_; intro v' w1 hown' hgrow hnl; have hne : ¬ v' = .slice none 0 0 := (fun e => absurd (hnl.1 e).2 (by decide)); clear hnl; obtain ⟨g', cap', rfl⟩ := ownsRow_succ hown'; have HOWN := Lib.hid hown'; clear hown'; have hmg : Mod (fun k => w.heap.size + 6 ≤ k) X w1 := (Mod.of_below HBX.out).trans ⟨hgrow.os, hgrow.tape, hgrow.output, hgrow.size, fun k hk hn => hgrow.block k hk (fun e => hn (HNB.out k e.symm))⟩; have hL1 : Boxed w1 (w.heap.size + 2) 22 v := hmg.keeps HL.out (by omega); have cL1 := hL1.cell; have fL1 := hL1.frozen))
      have hst : Mod (fun k => k = w.heap.size + 2) w1 (w1.setCell ⟨w.heap.size + 2, 0, none⟩ (.slice (some ⟨g', 0, none⟩) ((selO own o pre).length + 1) cap')) := Mod.setCell (fun k => k = w.heap.size + 2) w1 ⟨w.heap.size + 2, 0, none⟩ _ rfl
      have hm9 : Mod (fun k => k = w.heap.size + 2 ∨ w.heap.size + 6 ≤ k) X (w1.setCell ⟨w.heap.size + 2, 0, none⟩ (.slice (some ⟨g', 0, none⟩) ((selO own o pre).length + 1) cap')) := (hmg.mono (fun _ _ e => .inr e)).trans (hst.mono (fun _ _ e => .inl e))
      have hown' := HOWN.out
      refine ⟨hm9, Mod.below HB.out hm9 (fun k e => by rcases e with e | e <;> omega) HB.out.size, hm9.keeps HA.out (fun e => by rcases e with e | e <;> omega), hm9.keeps HO.out (fun e => by rcases e with e | e <;> omega), _, hL1.set (.slice (some ⟨g', 0, none⟩) ((selO own o pre).length + 1) cap'), ?_, ?_⟩
      · rw [HSE.out, List.length_append, List.map_append]
        exact own_mod hown' hst (fun k hk e => by have e' : k = w.heap.size + 2 := e; have := (hown'.lt k hk).1; omega)
      · rw [HSE.out]
        exact ⟨fun e => absurd e hne, fun e => by simp at e⟩
    · have HSE := Lib.hid (selO_no (l := pre) he)
      have kb : (own.getD x 0 == o) = false := by simpa using he
      generalize own.getD x 0 = y at kc kb
      have HR := Lib.hid hrow
      clear he hsX hnil hA hO hrow
      try gi_wp2
      refine round_still_tail 8 (by kernel_rfl) (by kernel_rfl) (by kernel_rfl) rfl ?_
      simp only [List.take_succ_cons, List.take_zero, List.drop_succ_cons, List.drop_zero]
      iterate 8
        with_reducible refine wpStill_step ?_
        intro K hK
        go_simp
        with_reducible refine hK _ ?_
        clear hK K
      refine wpStill_nil ?_
      gi_wp2
      have hbd : Below X.heap.size X X.drew := Below.drew (Below.refl _ _)
      refine ⟨.of_below hbd, HB.out.on hbd, (hbd.block _ HA.out.lt).trans HA.out, (hbd.block _ HO.out.lt).trans HO.out, v, (hbd.block _ HL.out.lt).trans HL.out, ?_, ?_⟩
      · rw [HSE.out]; exact own_on HR.out hbd
      · rw [HSE.out]; exact HN.out
/-- Owned, as a slice of numbers. -/
theorem owned_any (h : StoreAt w B Wb Ob p q W size own) (hT : Tab w) (o : Int) : Calls Tryd.prog 31 #[.pointer (some ⟨B, 0, none⟩), .int .i64 o] w fun e w' => ∃ v, e = .returned v ∧ Ints w' v (ownedL own o) ∧ Below w.heap.size w w' := by
  have hol := h.o2
  refine (owned_post h hT o).mono fun e w' ⟨v, he, hr, _, hb⟩ => ⟨v, he, ints_of_own hr ?_, hb⟩
  have h1 := selO_le own o (ones (own.map busy))
  have h2 := onesTo_le (bits := own.map busy) (own.map busy).length
  rw [List.length_map] at h2
  unfold ownedL
  unfold ones at h1 ⊢
  rw [List.length_map] at h1 ⊢
  omega
end Go.Proofs.YtkaflgbipjppmaaDoor
