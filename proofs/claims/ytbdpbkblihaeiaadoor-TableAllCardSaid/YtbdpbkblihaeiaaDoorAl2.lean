/- What a law's 'all' makes of a bitmap: a walk. -/
import Derived.Test.YtbdpbkblihaeiaaDoorAll
import Derived.Test.YtbdpbkblihaeiaaDoorRf
namespace Go.Proofs.YtbdpbkblihaeiaaDoor
open Go.RowKit Go.Shelf
set_option linter.unusedVariables false
set_option linter.unusedSimpArgs false
attribute [local go_sem] Oper.semAt_some
variable {w : World} {p q : Nat} {bits : List Bool} {ws : List Nat} {T T' : TypeId}
set_option maxHeartbeats 1000000 in
theorem all_in (n : Nat) (m : Option Addr) (w : World) : CallsIn Fence.wide n Tryd.prog 49 #[.pointer m] w fun e w' => e = .returned (.func (.func 59) #[] #[.pointer (some ⟨w.heap.size, 0, none⟩)]) ∧ w' = w.alloc (.cells #[.pointer m] 22) := by
  refine callsIn_of_wp Tryd.func49 rfl trivial ?_ rfl
  simp only [Tryd.ntmps49, List.size_toArray, List.length_cons, List.length_nil, Nat.reduceAdd, Nat.reduceSub, Array.replicate_succ, Array.replicate_zero, List.push_toArray, List.append_toArray, List.nil_append, List.cons_append]
  gi_wp2
  go_ret
  exact ⟨rfl, rfl⟩
theorem kp_boxed {n₀ Bn : Nat} {w W : World} {v : Value} (h : Below w.heap.size w W) (hb : Boxed w Bn 22 v) : Boxed W Bn 22 v := (h.block Bn hb.lt).trans hb
theorem all_stops (n : Nat) (hn : 1 ≤ n) (Bn n₀ : Nat) (w : World) (hBn : Boxed w Bn 22 (.pointer (some ⟨p, 0, none⟩))) (hn₀ : n₀ ≤ w.heap.size) (hM : MapAt w p q bits ws T T') (hT : Tab w) (hp : p < n₀) (hq : q < n₀) (hg : 0 < n₀) :
    SeqStopsK Fence.wide n Tryd.prog 59 #[.pointer (some ⟨Bn, 0, none⟩)] (fun x : Nat => #[Value.int .i64 (x : Nat)]) (Kp n₀ Bn) (fun ys => ys = ones bits) (fun pre => pre <+: ones bits) (ones bits).length w := fun l J Jx W hW _ _ hY h0 =>
  all1_in n hn l Bn n₀ J Jx hY W (kp_boxed (n₀ := n₀) hW hBn) (hM.below (hW.mono hn₀) hp hq) (hT.below (hW.mono hn₀) hg) hp hq hg h0
set_option maxHeartbeats 1000000 in
theorem all1_nil (n : Nat) (hn : 1 ≤ n) (l Bn : Nat) (J Jx : List Nat → World → Prop) (W : World) (hBn : Boxed W Bn 22 (.pointer none)) (h0 : J [] W) :
    CallsIn Fence.wide n Tryd.prog 59 #[.func (.yield l) #[] #[], .pointer (some ⟨Bn, 0, none⟩)] W fun e W' => (∃ v, e = .returned v) ∧
      ((∃ ys, ys = [] ∧ J ys W') ∨ (∃ pre, pre <+: [] ∧ Jx pre W')) := by
  have hb0 := hBn.cell
  refine callsIn_of_wp Tryd.func59 rfl trivial ?_ rfl
  simp only [Tryd.ntmps59, List.size_toArray, List.length_cons, List.length_nil, Nat.reduceAdd, Nat.reduceSub, Array.replicate_succ, Array.replicate_zero, List.push_toArray, List.append_toArray, List.nil_append, List.cons_append]
  gi_wp2
  refine bodyPost_ret (results_none rfl _ _ _) rfl ?_
  exact ⟨⟨_, rfl⟩, .inl ⟨_, rfl, h0⟩⟩
theorem all_stops_nil (n : Nat) (hn : 1 ≤ n) (Bn n₀ : Nat) (w : World) (hBn : Boxed w Bn 22 (.pointer none)) :
    SeqStopsK Fence.wide n Tryd.prog 59 #[.pointer (some ⟨Bn, 0, none⟩)] (fun x : Nat => #[Value.int .i64 (x : Nat)]) (Kp n₀ Bn) (fun ys => ys = []) (fun pre => pre <+: []) 0 w := fun l J Jx W hW _ _ hY h0 =>
  all1_nil n hn l Bn J Jx W (kp_boxed (n₀ := n₀) hW hBn) h0
set_option maxRecDepth 100000 in
set_option maxHeartbeats 2000000 in
theorem all_core (F : Fence) (hro : F.round = none) (h59 : F.fn 59) (h49 : F.fn 49) (h23 : F.fn 23) (m : Option Addr) (w : World) (xs : List Nat) (Sp : List Nat → Prop) (hN : xs.length ≤ 1048576)
    (hall : ∀ w, CallsIn F 9 Tryd.prog 49 #[.pointer m] w fun e w' => e = .returned (.func (.func 59) #[] #[.pointer (some ⟨w.heap.size, 0, none⟩)]) ∧ w' = w.alloc (.cells #[.pointer m] 22))
    (hseq : ∀ w', Below w.heap.size w w' → Boxed w' (w.heap.size + 1) 22 (.pointer m) → SeqStopsK F 9 Tryd.prog 59 #[.pointer (some ⟨w.heap.size + 1, 0, none⟩)] (fun x : Nat => #[Value.int .i64 (x : Nat)]) (Kp w.heap.size (w.heap.size + 1)) (fun ys => ys = xs) Sp xs.length w') :
    CallsIn F 10 Tryd.prog 23 #[.pointer m] w (AllPost xs w) := by
  obtain ⟨i0, hi, hz0, hz1, hz2⟩ := info_parts infoInt
  refine callsIn_of_wp_marks Tryd.func23 rfl h23 ?_ hro
  simp only [Tryd.ntmps23, List.size_toArray, List.length_cons, List.length_nil, Nat.reduceAdd, Nat.reduceSub, Array.replicate_succ, Array.replicate_zero, List.push_toArray, List.append_toArray, List.nil_append, List.cons_append]
  gi_wp2_with (gi_at_call 49; refine (hall _).mono ?_; rintro e w' ⟨rfl, rfl⟩)
  have bO := Boxed.new w 31 (.slice none 0 0)
  have bN := Boxed.new (w.alloc (.cells #[.slice none 0 0] 31)) 22 (.pointer m)
  rw [World.size_alloc] at bN
  have hB0 : Below w.heap.size w ((w.alloc (.cells #[.slice none 0 0] 31)).alloc (.cells #[.pointer m] 22)) := ((Below.refl _ w).alloc (Nat.le_refl _) _).alloc (by simp) _
  refine wpIn_rangeFunc_ownG (n := 10) hro (by decide) (gf := 59) (lb := #[.pointer (some ⟨w.heap.size + 1, 0, none⟩)]) rfl h59 (enters_of Tryd.func59 (by kernel_rfl) rfl)
    (hseq _ hB0 bN) Kp.t (Kp.b (by simp; omega)) (Below.refl _ _) (fun _ => rfl)
    (fun pre W => ((∃ v, Boxed W w.heap.size 31 v ∧ W.ownsRow w.heap.size 3 1 v pre.length (pre.map intV) ∧ (v = .slice none 0 0 ↔ pre = [])) ∧ Below w.heap.size w W))
    (fun _ _ _ => False)
    (OwnFrom.and (Own.from (holdsRow_own w.heap.size w.heap.size 31 3 1 (fun pre : List Nat => pre.length) (fun pre => pre.map intV) (fun pre v => v = .slice none 0 0 ↔ pre = [])) _) (ownFrom_below (Nat.le_refl _) (by simp; omega)))
    (fun _ _ _ _ _ hs _ _ => hs)
    ⟨⟨_, bO.alloc _, World.ownsRow_nil _ _ _ _, by simp⟩, hB0⟩
    (fun x => { tmps := #[.pointer m, undef, .slice none 0 0, .pointer (some ⟨w.heap.size, 0, none⟩), .int .i64 (x : Nat), .pointer m, .func (.func 59) #[] #[.pointer (some ⟨w.heap.size + 1, 0, none⟩)], .int .i64 (x : Nat), undef, undef, undef, undef, undef], defers := [] }) ?assign ?body ?done ?stop
  case assign =>
    intro l x W K hK
    gi_wp2
    exact hK
  case body =>
    rintro l pre x W ⟨⟨v, hv, hrow, hnil⟩, hB⟩ hlt
    have hc := hv.cell
    have hlt2 : pre.length < 1048576 := by omega
    have hml : pre.length + 1 ≤ maxLen := by unfold maxLen; omega
    have hbs := hB.size
    have hbs2 : w.heap.size ≤ (W.alloc (.cells #[.int .i64 (x : Nat)] 3)).heap.size := by rw [World.size_alloc]; omega
    gi_wp2_with (gi_at_builtin; refine wpListIn_append_own _ rfl _ _ 31 rfl w.heap.size 3 i0 (.int .i64 0) 1 8 Tryd.underlying31 hi hz0 hz1 hz2 rfl (by decide) _ _ _ rfl (hrow.alloc _) ⟨W.heap.size, 0, none⟩ 1 1 [.int .i64 (x : Nat)] rfl rfl (cell_one_new _ _ _) (by simp [Value.oneCell']) (by omega) (by omega) (by simp; omega) ?_; intro v' w1 hown' hgrow _; obtain ⟨g', cap', rfl⟩ := ownsRow_succ hown'; have hKp : ∀ u, Boxed W (w.heap.size + 1) 22 u → Boxed w1 (w.heap.size + 1) 22 u := fun u hu => (hu.alloc _).kept hgrow (hu.not_row (by decide) hrow); obtain ⟨hv1, hv2, hr2, hk2, hb2⟩ := hv.appended (by decide) hrow hB.size (Nat.le_refl _) hown' hgrow; have hc1 := hv1.cell; have hf1 := hv1.frozen)
    exact ⟨hk2.from _, ⟨hb2, fun u hu => (hKp u hu).other (by omega) _⟩, ⟨_, hv2, by simpa [intV] using hr2, by simp⟩, hB.trans hb2⟩
  case done =>
    rintro D ys W hD rfl ⟨⟨v, hv, hrow, hnil⟩, hB⟩ hK
    have hc := hv.cell
    gi_wp2
    refine ⟨by simp, .inl ⟨_, _, rfl, run_takeDeferred hK, ?_⟩⟩
    exact ⟨_, results_tmp rfl _ _ _, v, rfl, ownsRow_putObj hrow _ hK rfl, hnil, hB.trans (belowK_b (w := w) (Nat.le_refl _) W D _ _ (by simp at hD; omega) hK rfl rfl)⟩
  case stop =>
    rintro D c pre W _ _ h _
    exact h.elim
theorem all_any (h : MapAt w p q bits ws T T') (hT : Tab w) : Calls Tryd.prog 23 #[.pointer (some ⟨p, 0, none⟩)] w (AllPost (ones bits) w) :=
  callsIn_wide.1 (all_core Fence.wide rfl trivial trivial trivial _ w (ones bits) (fun pre => pre <+: ones bits) (by have := onesTo_le (bits := bits) bits.length; have := h.le; unfold ones; omega)
    (fun w => all_in 9 _ w)
    (fun w' hb hbox => all_stops 9 (by decide) _ _ w' hbox hb.size (h.on hb) (hT.on hb) h.plt h.qlt (lt_of_cell (hT 0 (by decide)))))
theorem all_nil (w : World) : Calls Tryd.prog 23 #[.pointer none] w (AllPost [] w) :=
  callsIn_wide.1 (all_core Fence.wide rfl trivial trivial trivial _ w [] (fun pre => pre <+: []) (by simp)
    (fun w => all_in 9 _ w)
    (fun w' hb hbox => all_stops_nil 9 (by decide) _ _ w' hbox))
end Go.Proofs.YtbdpbkblihaeiaaDoor
