/- What the law's slots makes of a layout: a walk. -/
import Derived.Test.YtcffenekomiakaaSl
namespace Go.Proofs.Ytcffenekomiakaa
open Go.RowKit Go.Shelf
set_option linter.unusedVariables false
set_option linter.unusedSimpArgs false
attribute [local go_sem] Oper.semAt_some
variable {w w' : World} {x : Lay} {A1 A2 : Option Addr} {c1 c2 : Nat}
/-- What is told of a layout and a count. -/
def Lay.told (x : Lay) (c : Int) : List Int := if (x.size c).2 = 0 then x.slots c.toNat else []
theorem Lay.told_upTo {x : Lay} {c : Int} (h : (x.size c).2 = 0) : x.told c = x.upTo (x.size c).1.toNat := by
  obtain ⟨h1, h2, h3, h4, h5, h6⟩ := Lay.size_ok h
  have hr := Lay.right_out h1
  have hm : 0 ≤ c * x.record := Int.mul_nonneg h2 hr.2.2.1
  unfold Lay.told
  rw [if_pos h]
  refine Lay.slots_upTo h1 _ _ (fun hc => h4 (by omega)) ?_
  rw [show ((c.toNat : Nat) : Int) = c by omega, h5]
  omega
theorem Lay.told_le (x : Lay) (c : Int) : (x.told c).length ≤ 8192 := by
  by_cases h : (x.size c).2 = 0
  · rw [Lay.told_upTo h]
    have := Lay.upTo_le x (x.size c).1.toNat
    have := (Lay.size_ok h).2.2.2.2.2
    omega
  · unfold Lay.told; rw [if_neg h]; simp
theorem own_less {w : World} {b b' : Nat} {e : TypeId} {size n : Nat} {v : Value} {xs : List Value} (h : w.ownsRow b e size v n xs) (hb : b' ≤ b) : w.ownsRow b' e size v n xs := by
  obtain ⟨h1, h2⟩ := h
  refine ⟨h1, ?_⟩
  rcases h2 with h2 | ⟨g, cap, cur, hv, hg, r⟩
  · exact .inl h2
  · exact .inr ⟨g, cap, cur, hv, by omega, r⟩
theorem slots_in (n : Nat) (x : Lay) (A1 : Option Addr) (c1 : Nat) (A2 : Option Addr) (c2 : Nat) (c : Int) (w : World) : CallsIn Fence.wide n Try.prog 25 #[.agg #[.int .i64 x.fixed, .slice A1 x.refs.length c1, .int .i64 x.record, .slice A2 x.recs.length c2], .int .i64 c] w fun e w' => e = .returned (.func (.func 34) #[] #[.pointer (some ⟨w.heap.size, 0, none⟩), .pointer (some ⟨w.heap.size + 1, 0, none⟩)]) ∧ w' = (w.alloc (.cells #[.int .i64 x.fixed, .slice A1 x.refs.length c1, .int .i64 x.record, .slice A2 x.recs.length c2] 24)).alloc (.cells #[.int .i64 c] 3) := by
  refine callsIn_of_wp Try.func25 rfl trivial ?_ rfl
  simp only [Try.ntmps25, List.size_toArray, List.length_cons, List.length_nil, Nat.reduceAdd, Nat.reduceSub, Array.replicate_succ, Array.replicate_zero, List.push_toArray, List.append_toArray, List.nil_append, List.cons_append]
  gi_wp2
  go_ret
  exact ⟨rfl, rfl⟩
set_option maxRecDepth 100000 in
set_option maxHeartbeats 2000000 in
theorem slots_any (x : Lay) (A1 : Option Addr) (c1 : Nat) (A2 : Option Addr) (c2 : Nat) (c : Int) (w : World) (h : LayIs w x A1 c1 A2 c2) :
    Calls Try.prog 11 #[layV x A1 c1 A2 c2, .int .i64 c] w (SlotsPost (x.told c) w) := by
  refine (callsIn_wide (n := 10)).1 ?_
  obtain ⟨i0, hi, hz0, hz1, hz2⟩ := info_parts infoInt
  have hN := Lay.told_le x c
  have hb1 := below1 w (.cells #[.int .i64 x.fixed, .slice A1 x.refs.length c1, .int .i64 x.record, .slice A2 x.recs.length c2] 24)
  have hblk := heap_alloc_new w (.cells #[.int .i64 x.fixed, .slice A1 x.refs.length c1, .int .i64 x.record, .slice A2 x.recs.length c2] 24)
  have hsz1 : (w.alloc (.cells #[.int .i64 x.fixed, .slice A1 x.refs.length c1, .int .i64 x.record, .slice A2 x.recs.length c2] 24)).heap.size = w.heap.size + 1 := World.size_alloc _ _
  have k0 := (blk_cells hblk 0).trans rfl
  have k1 := (blk_cells hblk 1).trans rfl
  have k2 := (blk_cells hblk 2).trans rfl
  have k3 := (blk_cells hblk 3).trans rfl
  unfold layV
  refine callsIn_of_wp_marks Try.func11 rfl trivial ?_ rfl
  simp only [Try.ntmps11, List.size_toArray, List.length_cons, List.length_nil, Nat.reduceAdd, Nat.reduceSub, Array.replicate_succ, Array.replicate_zero, List.push_toArray, List.append_toArray, List.nil_append, List.cons_append]
  gi_wp2_with fail
  refine ⟨trivial, (slots_in _ x _ _ _ _ _ _).mono ?_⟩
  rintro e w2 ⟨rfl, rfl⟩
  generalize hW1 : w.alloc (.cells #[.int .i64 x.fixed, .slice A1 x.refs.length c1, .int .i64 x.record, .slice A2 x.recs.length c2] 24) = W1 at *
  have bO1 := Boxed.new W1 22 (.slice none 0 0)
  have hb2 := hb1.on (below1 W1 (.cells #[.slice none 0 0] 22))
  have hsz2 : (W1.alloc (.cells #[.slice none 0 0] 22)).heap.size = w.heap.size + 2 := by rw [World.size_alloc]; omega
  rw [hsz1] at bO1
  generalize hW2 : W1.alloc (.cells #[.slice none 0 0] 22) = W2 at *
  have hb3 := hb2.on (below1 W2 (.cells #[.int .i64 x.fixed, .slice A1 x.refs.length c1, .int .i64 x.record, .slice A2 x.recs.length c2] 24))
  have hl3 := heap_alloc_new W2 (.cells #[.int .i64 x.fixed, .slice A1 x.refs.length c1, .int .i64 x.record, .slice A2 x.recs.length c2] 24)
  have bO3 := bO1.alloc (.cells #[.int .i64 x.fixed, .slice A1 x.refs.length c1, .int .i64 x.record, .slice A2 x.recs.length c2] 24)
  have hsz3 : (W2.alloc (.cells #[.int .i64 x.fixed, .slice A1 x.refs.length c1, .int .i64 x.record, .slice A2 x.recs.length c2] 24)).heap.size = w.heap.size + 3 := by rw [World.size_alloc]; omega
  rw [hsz2] at hl3 ⊢
  generalize hW3 : W2.alloc (.cells #[.int .i64 x.fixed, .slice A1 x.refs.length c1, .int .i64 x.record, .slice A2 x.recs.length c2] 24) = W3 at *
  have hb4 := hb3.on (below1 W3 (.cells #[.int .i64 c] 3))
  have hl4 := (Below.heap_alloc W3 (.cells #[.int .i64 c] 3) _ (block_lt hl3)).trans hl3
  have hc4 := heap_alloc_new W3 (.cells #[.int .i64 c] 3)
  have bO4 := bO3.alloc (.cells #[.int .i64 c] 3)
  have hsz4 : (W3.alloc (.cells #[.int .i64 c] 3)).heap.size = w.heap.size + 4 := by rw [World.size_alloc]; omega
  rw [hsz3] at hc4
  generalize hW4 : W3.alloc (.cells #[.int .i64 c] 3) = W4 at *
  have HSL : Hid (SlAt w W4 (w.heap.size + 2) (w.heap.size + 2 + 1) x A1 c1 A2 c2 c) := Lib.hid ⟨hb4, hl4, hc4⟩
  have HW := Lib.hid h
  clear hW1 hW2 hW3 hW4 hb1 hb2 hb3 hl3 hl4 hc4 bO1 bO3 h hblk k0 k1 k2 k3
  gi_wp2_with fail
  refine wpIn_rangeFunc_ownG (n := 10) rfl (by decide) (gf := 34) (lb := #[.pointer (some ⟨w.heap.size + 2, 0, none⟩), .pointer (some ⟨w.heap.size + 2 + 1, 0, none⟩)]) rfl trivial (enters_of Try.func34 (by kernel_rfl) rfl)
    (encs := fun y : Int => #[Value.int .i64 y]) (Kp := Kp w.heap.size (w.heap.size + 2) (w.heap.size + 2 + 1)) (S := fun ys => ys = x.told c) (Sp := fun pre => isPre pre (x.told c)) (N := (x.told c).length) (w0 := W4)
    (fun l J Jx W hW hJ _ hY h0 => slots1_in 9 (by decide) l (w.heap.size + 2) (w.heap.size + 2 + 1) _ J Jx w c HW.out (x.told c) rfl (Nat.le_refl _) hY W (HSL.out.on hW) hJ h0)
    Kp.t (Kp.b (by omega)) (Below.refl _ _) (fun _ => rfl)
    (fun pre W => (∃ v, Boxed W (w.heap.size + 1) 22 v ∧ W.ownsRow (w.heap.size + 4) 3 1 v pre.length (pre.flatMap encI) ∧ True) ∧ Below w.heap.size W4 W)
    (fun _ _ _ => False)
    (OwnFrom.and (Own.from (holdsRow_own (w.heap.size + 4) (w.heap.size + 1) 22 3 1 (fun pre : List Int => pre.length) (fun pre => pre.flatMap encI) (fun _ _ => True)) _) (ownFrom_below (by omega) (by omega)))
    (fun _ _ _ _ _ hs _ _ => hs)
    ⟨⟨_, bO4, World.ownsRow_nil _ _ _ _, trivial⟩, Below.refl _ _⟩
    ?a1 ?assign ?body ?done ?stop
  case assign =>
    intro l y W K hK
    gi_wp2
    exact hK
  case body =>
    rintro l pre y W ⟨⟨v, hv, hrow, _⟩, hB⟩ hlt
    have hc := hv.cell
    have hml : pre.length + 1 ≤ maxLen := by unfold maxLen; omega
    have hbs := hB.size
    have hbs2 : w.heap.size + 4 ≤ (W.alloc (.cells #[.int .i64 y] 3)).heap.size := by rw [World.size_alloc]; omega
    have hlt2 : pre.length < 8192 := by omega
    gi_wp2_with (gi_at_builtin; refine wpListIn_append_own _ rfl _ _ 22 rfl (w.heap.size + 4) 3 i0 (.int .i64 0) 1 8 Try.underlying22 hi hz0 hz1 hz2 rfl (by decide) _ _ _ rfl (hrow.alloc _) ⟨W.heap.size, 0, none⟩ 1 1 [.int .i64 y] rfl rfl (World.news_of_block (cs := #[.int .i64 y]) (t := 3) (fr := (0, 0)) (heap_alloc_new W _)) (by simp [Value.oneCell']) (by omega) (by omega) (by simp; omega) ?_; intro v' w1 hown' hgrow _; obtain ⟨g', cap', rfl⟩ := ownsRow_succ hown'; have hv1 : Boxed w1 (w.heap.size + 1) 22 v := (hv.alloc _).kept hgrow (hv.not_row (by decide) hrow); have hc1 := hv1.cell; have hf1 := hv1.frozen)
    obtain ⟨_, _, _, hk2, hb2⟩ := hv.appended (by decide) (own_less hrow (show w.heap.size ≤ w.heap.size + 4 by omega)) (by omega) (by omega) (own_less hown' (show w.heap.size ≤ w.heap.size + 4 by omega)) hgrow
    have hr2 := hown'.kept (grownBy_setCell' w1 (w.heap.size + 1) (.slice (some ⟨g', 0, none⟩) (pre.length + 1) cap')) (.inr (hv1.not_row (by decide) hown').symm)
    refine ⟨hk2.from _, ⟨hb2, hk2.size, fun k o hk ho => ?_⟩, ⟨_, hv1.set _, by simpa [encI] using hr2, trivial⟩, hB.trans hb2⟩
    have hkl := block_lt ho
    have hne : k ≠ w.heap.size + 1 := by omega
    refine blk_far ?_ _ _ hne
    refine (hgrow.block k (by rw [World.size_alloc]; omega) (fun e => ?_)).trans ((Below.heap_alloc _ _ _ hkl).trans ho)
    have := (hrow.lt k e.symm).1
    omega
  case done =>
    rintro D ys W hD rfl ⟨⟨v, hv, hrow, _⟩, hB⟩ hK
    have hc := hv.cell
    gi_wp2
    refine ⟨by simp, .inl ⟨_, _, rfl, run_takeDeferred hK, ?_⟩⟩
    refine ⟨_, results_tmp rfl _ _ _, v, rfl, ints_of_own (ownsRow_putObj hrow _ hK rfl) (by omega), ?_⟩
    exact (hb4.trans hB).trans (belowK_b (w := w) (Nat.le_refl _) W D _ _ (by omega) hK rfl rfl)
  case stop =>
    rintro D c pre W _ _ h _
    exact h.elim
end Go.Proofs.Ytcffenekomiakaa
