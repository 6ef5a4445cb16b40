/- A layout of one's own: walks. -/
import Derived.Test.YtcffenekomiakaaL3
import Derived.Deep.RegionLaw
import Derived.Laws.ResultCell
namespace Go.Proofs.Ytcffenekomiakaa
open Go.RowKit
set_option linter.unusedVariables false
set_option linter.unusedSimpArgs false
variable {w w' : World}
def OwnPost (l : List Int) (w : World) (e : Ending) (W' : World) : Prop := ∃ v, e = .returned v ∧ W'.ownsRow w.heap.size 3 1 v l.length (l.flatMap encI) ∧ Below w.heap.size w W'
theorem enc_map (l : List Int) : l.flatMap encI = l.map (Value.int .i64) := by induction l with
  | nil => rfl
  | cons a t ih => simp only [List.flatMap_cons, List.map_cons, ih]; rfl
theorem clone_any (A : Option Addr) (l : List Int) (c : Nat) (w : World) (hl : SliceOf w A 1 encI 0 l) (hc : l.length ≤ 100) : Calls Try.prog 35 #[.slice A l.length c] w (OwnPost l w) := by
  by_cases h0 : l = []
  · subst h0
    cases A with
    | none => exact (Try.slices_Clone_int_nil _ c w).mono fun e w' ⟨he, hw⟩ => ⟨_, he, by rw [hw]; exact World.ownsRow_nil _ _ _ _, by rw [hw]; exact Below.refl _ _⟩
    | some a => exact (Try.slices_Clone_int_zero a c w).mono fun e w' ⟨v, he, hr, _, hb⟩ => ⟨v, he, hr, hb⟩
  · have hpos : 0 < l.length := List.length_pos_iff.2 h0
    obtain ⟨b, o, rfl, _⟩ := hl 0 hpos
    refine (Try.slices_Clone_int b o l.length c l w (Nat.le_refl _) (by omega) (fun j hj => ?_)).mono fun e w' ⟨v, he, hr, _, hb⟩ => ⟨v, he, ?_, hb⟩
    · obtain ⟨_, _, e, hx⟩ := ints_at hl j hj
      cases e
      exact hx
    · rw [enc_map]
      rwa [List.take_length] at hr
theorem results_cell1 {fn : Func} {p : Tmp} {ty : TypeId} (h : fn.results = #[.cell p ty]) (tmps : Array Value) (P : Program) (w : World) :
    (results fn tmps).run P w = ((asAddr (tmps.getD p undef)).run P w).andThen fun a w₁ => (loadVar ty a).run P w₁ := by
  simp only [results, h]
  simp [Sem.run_bind, Result.andThen]
theorem own_x {base k n : Nat} {t : TypeId} {v : Value} {xs : List Value} {cs : Array Value} (h : w.ownsRow base 3 1 v n xs) (hk : w.heap[k]? = some (.cells cs t (0, 0))) (ht : t ≠ 3) : v.ownBlock ≠ some k := by
  rcases h.2 with ⟨rfl, _⟩ | ⟨g, cap, cur, rfl, _, hg, _⟩
  · simp [Value.ownBlock]
  · intro e
    obtain rfl : g = k := by simpa [Value.ownBlock] using e
    rw [hk] at hg
    cases hg
    exact ht rfl
theorem grown_set (w : World) (b i : Nat) (v : Value) : w.grownBy (w.setCell ⟨b, i, none⟩ v) (some b) :=
  ⟨rfl, rfl, rfl, by simp [World.setCell], fun k _ hk => Below.heap_setCell _ _ _ _ (fun e => hk (by simp [e]))⟩
/-- Two rows of numbers, and two blocks of layouts. -/
structure Two (w base : World) (b1 b2 : Nat) (v1 v2 : Value) (l1 l2 : List Int) (p q : Nat) : Prop where
  o1 : w.ownsRow b1 3 1 v1 l1.length (l1.flatMap encI)
  o2 : w.ownsRow b2 3 1 v2 l2.length (l2.flatMap encI)
  hp : ∃ cs, w.heap[p]? = some (.cells cs 24 (0, 0))
  hq : ∃ cs, w.heap[q]? = some (.cells cs 24 (0, 0))
  lp : base.heap.size ≤ p
  lq : base.heap.size ≤ q
  below : Below base.heap.size base w
theorem Two.set {base : World} {b1 b2 p q k : Nat} {v1 v2 : Value} {l1 l2 : List Int} (h : Two w base b1 b2 v1 v2 l1 l2 p q) (hk : k = p ∨ k = q) (i : Nat) (u : Value) : Two (w.setCell ⟨k, i, none⟩ u) base b1 b2 v1 v2 l1 l2 p q := by
  have hb : ∃ cs, w.heap[k]? = some (.cells cs 24 (0, 0)) := by rcases hk with rfl | rfl; exact h.hp; exact h.hq
  obtain ⟨cs, hcs⟩ := hb
  have hkb : ∀ (j : Nat) (cs' : Array Value), w.heap[j]? = some (.cells cs' 24 (0, 0)) → ∃ cs'' : Array Value, (w.setCell ⟨k, i, none⟩ u).heap[j]? = some (.cells cs'' 24 (0, 0)) := fun j cs' hj => by
    by_cases e : j = k
    · subst e; exact ⟨_, blk_set hj i u⟩
    · exact ⟨_, blk_far hj _ _ e⟩
  obtain ⟨cp, hcp⟩ := h.hp
  obtain ⟨cq, hcq⟩ := h.hq
  exact ⟨h.o1.kept (grown_set w k i u) (.inr (own_x h.o1 hcs (by decide))), h.o2.kept (grown_set w k i u) (.inr (own_x h.o2 hcs (by decide))), hkb _ _ hcp, hkb _ _ hcq, h.lp, h.lq, h.below.setCell (p := ⟨k, i, none⟩) (by rcases hk with rfl | rfl; exact h.lp; exact h.lq) u⟩
def OwnLay (x : Lay) (w : World) (e : Ending) (w' : World) : Prop := ∃ u1 u2, e = .returned (.agg #[.int .i64 x.fixed, u1, .int .i64 x.record, u2]) ∧ w'.ownsRow w.heap.size 3 1 u1 x.refs.length (x.refs.flatMap encI) ∧ w'.ownsRow w.heap.size 3 1 u2 x.recs.length (x.recs.flatMap encI) ∧ Below w.heap.size w w'
set_option maxRecDepth 100000 in
set_option maxHeartbeats 2000000 in
theorem own_lay (x : Lay) (A1 : Option Addr) (c1 : Nat) (A2 : Option Addr) (c2 : Nat) (w : World) (h : LayIs w x A1 c1 A2 c2) (m1 : x.refs.length ≤ 100) (m2 : x.recs.length ≤ 100) :
    Calls Try.prog 26 #[layV x A1 c1 A2 c2] w (OwnLay x w) := by
  have HC1 : Hid (∀ W, Below w.heap.size w W → Calls Try.prog 35 #[.slice A1 x.refs.length c1] W (OwnPost x.refs W)) := Lib.hid (fun W hW => clone_any _ _ _ W (h.on hW).h1 m1)
  have HC2 : Hid (∀ W, Below w.heap.size w W → Calls Try.prog 35 #[.slice A2 x.recs.length c2] W (OwnPost x.recs W)) := Lib.hid (fun W hW => clone_any _ _ _ W (h.on hW).h2 m2)
  have hb1 := below1 w (.cells #[.int .i64 x.fixed, .slice A1 x.refs.length c1, .int .i64 x.record, .slice A2 x.recs.length c2] 24)
  have hl1 := heap_alloc_new w (.cells #[.int .i64 x.fixed, .slice A1 x.refs.length c1, .int .i64 x.record, .slice A2 x.recs.length c2] 24)
  have hz1 : (w.alloc (.cells #[.int .i64 x.fixed, .slice A1 x.refs.length c1, .int .i64 x.record, .slice A2 x.recs.length c2] 24)).heap.size = w.heap.size + 1 := World.size_alloc _ _
  unfold layV
  go_enter Try.func26, Try.ntmps26
  go_wp2_with fail
  generalize hW1 : w.alloc (.cells #[.int .i64 x.fixed, .slice A1 x.refs.length c1, .int .i64 x.record, .slice A2 x.recs.length c2] 24) = W1 at *
  have hb2 := hb1.on (below1 W1 (.cells #[.int .i64 0, .slice none 0 0, .int .i64 0, .slice none 0 0] 24))
  have hl2 := (Below.heap_alloc W1 (.cells #[.int .i64 0, .slice none 0 0, .int .i64 0, .slice none 0 0] 24) _ (block_lt hl1)).trans hl1
  have hr2 := heap_alloc_new W1 (.cells #[.int .i64 0, .slice none 0 0, .int .i64 0, .slice none 0 0] 24)
  rw [hz1] at hr2
  generalize hW2 : W1.alloc (.cells #[.int .i64 0, .slice none 0 0, .int .i64 0, .slice none 0 0] 24) = W2 at *
  clear hW1 hW2 hb1 hl1
  have k0 := (blk_cells hl2 0).trans rfl
  have k1 := (blk_cells hl2 1).trans rfl
  have k2 := (blk_cells hl2 2).trans rfl
  have k3 := (blk_cells hl2 3).trans rfl
  have t1 := blk_thaw hl2 1
  have t3 := blk_thaw hl2 3
  go_region_law (first | (go_simp; go_at_call 35; first | (refine (HC1.out _ (below_drewN hb2 1)).mono ?_; rintro e w4 ⟨v4, rfl, hv4, hb4⟩; clear HC1; obtain ⟨A4, c4, e4, hc4, -⟩ := own_slice encI 0 (fun _ => rfl) hv4; subst e4; have zb := (hb4.block _ (block_lt hl2)).trans hl2; have k0 := (blk_cells zb 0).trans rfl; have k1 := (blk_cells zb 1).trans rfl; have k2 := (blk_cells zb 2).trans rfl; have k3 := (blk_cells zb 3).trans rfl; have t1 := blk_thaw zb 1; have t3 := blk_thaw zb 3) | (refine (HC2.out _ ((below_drewN hb2 1).on hb4)).mono ?_; rintro e w5 ⟨v5, rfl, hv5, hb5⟩; obtain ⟨A5, c5, e5, hc5, -⟩ := own_slice encI 0 (fun _ => rfl) hv5; subst e5; have zb5 := (hb5.block _ (block_lt zb)).trans zb; have k0 := (blk_cells zb5 0).trans rfl; have k1 := (blk_cells zb5 1).trans rfl; have k2 := (blk_cells zb5 2).trans rfl; have k3 := (blk_cells zb5 3).trans rfl; have t1 := blk_thaw zb5 1; have t3 := blk_thaw zb5 3)))
  all_goals
    have zr5 := (hb5.block _ (Nat.lt_of_lt_of_le (block_lt hr2) hb4.size)).trans ((hb4.block _ (block_lt hr2)).trans hr2)
    have HTW : Hid (Two w5 w W2.drew.heap.size w4.heap.size (.slice A4 x.refs.length c4) (.slice A5 x.recs.length c5) x.refs x.recs w.heap.size (w.heap.size + 1)) := Lib.hid ⟨own_on hv4 hb5, hv5, ⟨_, zb5⟩, ⟨_, zr5⟩, Nat.le_refl _, by omega, ((below_drewN hb2 1).on hb4).on hb5⟩
    have hW2 : w.heap.size ≤ W2.drew.heap.size := hb2.size
    have hW4 : w.heap.size ≤ w4.heap.size := Nat.le_trans hW2 hb4.size
    have r0 := (blk_cells zr5 0).trans rfl
    have r1 := (blk_cells zr5 1).trans rfl
    have r2 := (blk_cells zr5 2).trans rfl
    have r3 := (blk_cells zr5 3).trans rfl
    have s0 := blk_thaw zr5 0
    have s1 := blk_thaw zr5 1
    have s2 := blk_thaw zr5 2
    have s3 := blk_thaw zr5 3
    clear hv4 hv5 hb4 hb5 zb zb5 zr5 hb2 hl2 hr2 HC2 h
    go_wp2
    (try simp only [Exit.inBlock, Exit.then])
    refine bodyPost_ret (v := .agg #[.int .i64 x.fixed, .slice A4 x.refs.length c4, .int .i64 x.record, .slice A5 x.recs.length c5]) ?_ rfl ⟨_, _, rfl, ?_, ?_, ?_⟩
    · rw [results_cell1 rfl]
      go_simp
      (try rfl)
    · exact own_less ((((((HTW.out.set (.inl rfl) 1 _).set (.inl rfl) 3 _).set (.inr rfl) 0 _).set (.inr rfl) 1 _).set (.inr rfl) 2 _).set (.inr rfl) 3 _).o1 hW2
    · exact own_less ((((((HTW.out.set (.inl rfl) 1 _).set (.inl rfl) 3 _).set (.inr rfl) 0 _).set (.inr rfl) 1 _).set (.inr rfl) 2 _).set (.inr rfl) 3 _).o2 hW4
    · exact ((((((HTW.out.set (.inl rfl) 1 _).set (.inl rfl) 3 _).set (.inr rfl) 0 _).set (.inr rfl) 1 _).set (.inr rfl) 2 _).set (.inr rfl) 3 _).below
end Go.Proofs.Ytcffenekomiakaa
