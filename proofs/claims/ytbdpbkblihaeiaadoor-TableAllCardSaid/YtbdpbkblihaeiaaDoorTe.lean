/- Contracts of the package table: Drop, Add. -/
import Derived.Test.YtbdpbkblihaeiaaDoorTd
namespace Go.Proofs.YtbdpbkblihaeiaaDoor
open Go.RowKit
set_option linter.unusedVariables false
set_option linter.unusedSimpArgs false
variable {w w' : World} {B S p q : Nat} {l : List Slot} {tB tS T T' : TypeId}
theorem one_block {a : Array Value} {t1 : TypeId} {w1 : World} (hb : Below (w.alloc (.cells a t1)).heap.size (w.alloc (.cells a t1)) w1) : w1.heap[w.heap.size]? = some (.cells a t1 (0, 0)) := by
  have h := heap_alloc_new w (.cells a t1)
  rw [hb.block _ (by simp), h]
theorem one_below {a : Array Value} {t1 : TypeId} {w1 : World} (hb : Below (w.alloc (.cells a t1)).heap.size (w.alloc (.cells a t1)) w1) : Below w.heap.size w w1 :=
  (below1 w _).trans (hb.mono (by simp))
theorem drop_nil (i g : Int) (w : World) : Calls Tryd.prog 34 #[.pointer none, tokV i g] w fun e w' => e = .returned (.int .i64 1) ∧ Below w.heap.size w w' := by
  unfold tokV
  go_enter Tryd.func34, Tryd.ntmps34
  go_wp2_with fail
  refine (find_nil i g _).mono ?_
  rintro e w1 ⟨rfl, hb⟩
  have hB := one_below hb
  clear hb
  go_wp2
  go_ret
  exact ⟨rfl, hB⟩
theorem drop_no (h : TableAt w B S p q l tB tS T T') (i g : Int) (hf : freshT l i g = false) : Calls Tryd.prog 34 #[.pointer (some ⟨B, 0, none⟩), tokV i g] w fun e w' => e = .returned (.int .i64 8) ∧ Below w.heap.size w w' := by
  unfold tokV
  have HC := Lib.hid (fun t0 => find_no (h.on (below1 w (.cells #[.int .i64 i, .int .i64 g] t0))) i g hf)
  clear h
  go_enter Tryd.func34, Tryd.ntmps34
  go_wp2_with fail
  refine (HC.out _).mono ?_
  rintro e w1 ⟨rfl, hb⟩
  have hB := one_below hb
  clear hb
  go_wp2
  go_ret
  exact ⟨rfl, hB⟩
def dropL (l : List Slot) (k : Nat) : List Slot := l.set k ⟨(l.getD k slot0).gen, false, noEntry⟩
theorem drop_body (h : w.heap[S]? = some (.cells (l.flatMap slotV).toArray tS (0, 0))) (k : Nat) (hk : k < l.length) :
    (entSet (w.setCell ⟨S, k * 6 + 1, none⟩ (.bool false)) S k noEntry).heap[S]? = some (.cells ((dropL l k).flatMap slotV).toArray tS (0, 0)) := by
  have h1 := body_set h k 1 hk (by decide) (.bool false) ⟨(l.getD k slot0).gen, false, (l.getD k slot0).e⟩ rfl
  have h2 := entSet_body h1 k (by simpa using hk) noEntry
  rw [set_getD l k hk, List.set_set] at h2
  exact h2
theorem drop_mod {P : Nat → Prop} (w : World) (S k : Nat) (h : P S) : Mod P w (entSet (w.setCell ⟨S, k * 6 + 1, none⟩ (.bool false)) S k noEntry) := (Mod.setCell P w _ _ h).trans (entSet_mod _ _ _ _ h)
set_option maxHeartbeats 1000000 in
theorem drop_last (h : TableAt w B S p q l tB tS T T') (k : Nat) (g : Int) (h1 : k < l.length) (h2 : (l.getD k slot0).used = true) (h3 : ((l.getD k slot0).gen : Int) = g) (h4 : g = 255) :
    Calls Tryd.prog 34 #[.pointer (some ⟨B, 0, none⟩), tokV k g] w fun e w' => e = .returned (.int .i64 0) ∧ TableTo w B S p q (dropL l k) tB tS T T' w' := by
  unfold tokV
  subst h4
  have HC := Lib.hid (fun t0 => find_fresh (h.on (below1 w (.cells #[.int .i64 (k : Int), .int .i64 255] t0))) k 255 h1 h2 h3)
  have H := Lib.hid h
  have H2 := Lib.hid h2
  have H3 := Lib.hid h3
  have hgn := goneN_le l
  have hle := h.le
  clear h h2 h3
  go_enter Tryd.func34, Tryd.ntmps34
  go_wp2_with fail
  refine (HC.out _).mono ?_
  rintro e w1 ⟨rfl, hb⟩
  have hB := one_below hb
  have hT := H.out.on hB
  have d0 := hT.cell k h1 0 _ rfl
  rw [H3.out, Nat.add_zero] at d0
  have d1 := hT.cell k h1 1 _ rfl
  have d2 := hT.cell k h1 2 _ rfl
  have d3 := hT.cell k h1 3 _ rfl
  have d4 := hT.cell k h1 4 _ rfl
  have d5 := hT.cell k h1 5 _ rfl
  have d6 := hT.gone
  rw [show (l.filter retired).length = goneN l from rfl] at d6
  have f1 := blk_thaw hT.body (k * 6 + 1)
  have f2 := blk_thaw hT.body (k * 6 + 2)
  have f3 := blk_thaw hT.body (k * 6 + 3)
  have f4 := blk_thaw hT.body (k * 6 + 4)
  have f5 := blk_thaw hT.body (k * 6 + 5)
  have f6 := blk_thaw hT.head 2
  have hne := hT.BS
  have HT := Lib.hid hT
  generalize hgo : goneN l = go at *
  have HGO := Lib.hid hgo
  have hwr : wrap64 ((go : Int) + 1) = ((go + 1 : Nat) : Int) := by simp [wrap64]; omega
  clear hb hT hgo
  go_wp2
  go_ret
  refine ⟨rfl, ?_⟩
  have hT := HT.out
  obtain ⟨ws, hm⟩ := hT.map
  have hmS : Mod (fun i => i = S) w1 (entSet (w1.setCell ⟨S, k * 6 + 1, none⟩ (.bool false)) S k noEntry) := drop_mod w1 S k rfl
  have hm4 : Mod (Four B S p q) w1 (entSet (w1.setCell ⟨S, k * 6 + 1, none⟩ (.bool false)) S k noEntry) := drop_mod w1 S k (.inr (.inl rfl))
  have hbody := drop_body hT.body k h1
  have hhead := hmS.keeps hT.head hT.BS
  have hmap := hm.mod hmS (fun e => hT.Sp e.symm) (fun e => hT.Sq e.symm)
  have hg255 : (l.getD k slot0).gen = 255 := by have := H3.out; omega
  refine ⟨hT.turned k ⟨(l.getD k slot0).gen, false, noEntry⟩ (cell_gen hT k) (ws := ws) (n := (go : Int) + 1) ?hm (blk_far hbody ⟨B, 2, none⟩ _ hT.BS.symm) ((blk_set hhead 2 (.int .i64 ((go : Int) + 1))).trans rfl) ?hn, ((Mod.of_below hB).trans hm4).trans (Mod.setCell _ _ _ _ (.inl rfl))⟩
  case hm =>
    rw [set_same_taken k h1 _ (by simp [taken, H2.out, hg255, - List.getD_eq_getElem?_getD])]
    exact hmap.mod (Mod.setCell (fun i => i = B) _ _ _ rfl) (fun e => hT.Bp e.symm) (fun e => hT.Bq e.symm)
  case hn =>
    have := goneN_set l k h1 ⟨(l.getD k slot0).gen, false, noEntry⟩
    rw [this, HGO.out]
    simp [retired, H2.out, hg255, - List.getD_eq_getElem?_getD]
theorem wp_world {P : Program} {c : Code} {Q : Exit → Act → World → Prop} {a : Act} {w w2 : World} (e : w = w2) (h : c.wp P Q a w2) : c.wp P Q a w := e ▸ h
theorem still_tail_at {P : Program} {id : Nat} {Q : Exit → Act → World → Prop} {a : Act} {w w3 : World} {l : List Oper} (n : Nat) (hm : P.follows .mixedOrders = true) (hB : Region.lexTailB .any l.toArray n = true) (hw : w3 = w.drew)
    (h : wpStill P l.toArray w3 (fun a' => wpList P l.toArray Q (l.drop n) a' w3) (l.take n) a) : (Code.region id l.toArray true).wp P Q a w := by
  subst hw
  exact wp_region_still_tail n hm hB h
set_option maxHeartbeats 1000000 in
theorem drop_more (h : TableAt w B S p q l tB tS T T') (k : Nat) (g : Int) (h1 : k < l.length) (h2 : (l.getD k slot0).used = true) (h3 : ((l.getD k slot0).gen : Int) = g) (h4 : g ≠ 255) :
    Calls Tryd.prog 34 #[.pointer (some ⟨B, 0, none⟩), tokV k g] w fun e w' => e = .returned (.int .i64 0) ∧ TableTo w B S p q (dropL l k) tB tS T T' w' := by
  unfold tokV
  have HC := Lib.hid (fun t0 => find_fresh (h.on (below1 w (.cells #[.int .i64 (k : Int), .int .i64 g] t0))) k g h1 h2 h3)
  have H := Lib.hid h
  have H2 := Lib.hid h2
  have H3 := Lib.hid h3
  have H4 := Lib.hid h4
  have k4 : (g == 255) = false := by simpa using h4
  have hle := h.le
  clear h h2 h3 h4
  go_enter Tryd.func34, Tryd.ntmps34
  go_wp2_with fail
  refine (HC.out _).mono ?_
  rintro e w1 ⟨rfl, hb⟩
  have hB := one_below hb
  have hC := one_block hb
  have hT := H.out.on hB
  have t0 := (blk_cells hC 0).trans rfl
  have d0 := hT.cell k h1 0 _ rfl
  rw [H3.out, Nat.add_zero] at d0
  have d1 := hT.cell k h1 1 _ rfl
  have d2 := hT.cell k h1 2 _ rfl
  have d3 := hT.cell k h1 3 _ rfl
  have d4 := hT.cell k h1 4 _ rfl
  have d5 := hT.cell k h1 5 _ rfl
  have d6 := hT.bits
  have f1 := blk_thaw hT.body (k * 6 + 1)
  have f2 := blk_thaw hT.body (k * 6 + 2)
  have f3 := blk_thaw hT.body (k * 6 + 3)
  have f4 := blk_thaw hT.body (k * 6 + 4)
  have f5 := blk_thaw hT.body (k * 6 + 5)
  have hne := hT.BS
  have HT := Lib.hid hT
  have hlt := block_lt H.out.body
  have hS : S ≠ w.heap.size := by omega
  clear hb hC hT hlt
  go_wp2
  obtain ⟨w2, hw2⟩ : ∃ w2, w2 = entSet (w1.setCell ⟨S, k * 6 + 1, none⟩ (.bool false)) S k noEntry := ⟨_, rfl⟩
  refine wp_world (w2 := w2) (by rw [hw2]; rfl) ?_
  have e0 : w2.cell? ⟨w.heap.size, 0, none⟩ = some (.int .i64 (k : Int)) := hw2 ▸ (drop_mod (P := fun i => i = S) w1 S k rfl).cell t0 hS.symm
  have e1 : w2.cell? ⟨B, 1, none⟩ = some (.pointer (some ⟨p, 0, none⟩)) := hw2 ▸ (drop_mod (P := fun i => i = S) w1 S k rfl).cell d6 hne
  have HW2 := Lib.hid hw2
  clear hw2 t0 d0 d1 d2 d3 d4 d5 d6 f1 f2 f3 f4 f5
  obtain ⟨w3, hw3⟩ : ∃ w3, w3 = w2.drew := ⟨_, rfl⟩
  refine still_tail_at 6 (by kernel_rfl) (by kernel_rfl) hw3 ?_
  have g0 : w3.cell? ⟨w.heap.size, 0, none⟩ = some (.int .i64 (k : Int)) := hw3 ▸ e0
  have g1 : w3.cell? ⟨B, 1, none⟩ = some (.pointer (some ⟨p, 0, none⟩)) := hw3 ▸ e1
  have HW3 := Lib.hid hw3
  clear hw3 e0 e1
  simp only [List.take_succ_cons, List.take_zero, List.drop_succ_cons, List.drop_zero]
  iterate 6
    with_reducible refine wpStill_step ?_
    intro K hK
    go_simp
    with_reducible refine hK _ ?_
    clear hK K
  refine wpStill_nil ?_
  obtain ⟨ws, hm⟩ := HT.out.map
  have hm2 : MapAt w2 p q (l.map taken) ws T T' := HW2.out ▸ hm.mod (drop_mod (P := fun i => i = S) w1 S k rfl) (fun e => HT.out.Sp e.symm) (fun e => HT.out.Sq e.symm)
  have hm3 : MapAt w3 p q (l.map taken) ws T T' := HW3.out ▸ hm2.on (Below.drew (Below.refl _ _))
  have HSET := Lib.hid (set_in hm3 k false (by simpa using h1))
  clear hm hm2 hm3
  go_wp2_with (go_at_call 20; refine HSET.out.mono ?_; rintro e w4 ⟨rfl, hM4⟩; have HM4 := Lib.hid hM4; clear hM4)
  go_ret
  refine ⟨rfl, ?_⟩
  have hT := HT.out
  have hg255 : ¬ (l.getD k slot0).gen = 255 := by have := H3.out; have := H4.out; omega
  have hmS : Mod (fun i => i = S) w1 w2 := HW2.out ▸ drop_mod w1 S k rfl
  have hm4 : Mod (Four B S p q) w1 w2 := HW2.out ▸ drop_mod w1 S k (.inr (.inl rfl))
  have hm5 : Mod (fun i => i = S) w1 w3 := HW3.out ▸ hmS.drew
  have hm6 : Mod (Four B S p q) w1 w3 := HW3.out ▸ hm4.drew
  have hbody : w2.heap[S]? = _ := HW2.out ▸ drop_body hT.body k h1
  have hbody3 : w3.heap[S]? = some (.cells ((dropL l k).flatMap slotV).toArray tS (0, 0)) := HW3.out ▸ hbody
  have hhead := hm5.keeps hT.head hT.BS
  obtain ⟨ws4, hmap4, hmod4⟩ := HM4.out
  refine ⟨hT.turned k ⟨(l.getD k slot0).gen, false, noEntry⟩ (cell_gen hT k) (ws := ws4) (n := (goneN l : Nat)) ?_ (hmod4.keeps hbody3 ?_) (hmod4.keeps hhead ?_) ?_, ((Mod.of_below hB).trans hm6).trans (hmod4.mono ?_)⟩
  · have : taken (⟨(l.getD k slot0).gen, false, noEntry⟩ : Slot) = false := by simp [taken, hg255, - List.getD_eq_getElem?_getD]
    rw [this]; exact hmap4
  · rintro (e | e)
    · exact hT.Sp e
    · exact hT.Sq e
  · rintro (e | e)
    · exact hT.Bp e
    · exact hT.Bq e
  · have := goneN_set l k h1 ⟨(l.getD k slot0).gen, false, noEntry⟩
    rw [this]
    simp [retired, H2.out, hg255, - List.getD_eq_getElem?_getD]
  · rintro i _ (e | e)
    · exact .inr (.inr (.inl e))
    · exact .inr (.inr (.inr e))
theorem drop_yes (h : TableAt w B S p q l tB tS T T') (k : Nat) (g : Int) (h1 : k < l.length) (h2 : (l.getD k slot0).used = true) (h3 : ((l.getD k slot0).gen : Int) = g) :
    Calls Tryd.prog 34 #[.pointer (some ⟨B, 0, none⟩), tokV k g] w fun e w' => e = .returned (.int .i64 0) ∧ TableTo w B S p q (dropL l k) tB tS T T' w' := by
  by_cases h4 : g = 255
  · exact drop_last h k g h1 h2 h3 h4
  · exact drop_more h k g h1 h2 h3 h4
end Go.Proofs.YtbdpbkblihaeiaaDoor
