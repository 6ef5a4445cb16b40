/- Nw -/
import Derived.Test.YtaifaefhghjiaaaDoorGJ
import Derived.Test.YtaifaefhghjiaaaDoorGK
section
namespace Go.Proofs.YtaifaefhghjiaaaDoor
open Go.RowKit Go.Shelf
set_option linter.unusedVariables false
set_option linter.unusedSimpArgs false
attribute [local go_sem] Oper.semAt_some
variable {w w' base : World}
theorem links_in (n : Nat) (m : Option Addr) (a : Int) (w : World) : CallsIn Fence.wide n Tryd.prog 21 #[.pointer m, .int .i64 a] w fun e w' => e = .returned (.func (.func 42) #[] #[.pointer (some ⟨w.heap.size, 0, none⟩), .pointer (some ⟨w.heap.size + 1, 0, none⟩)]) ∧ w' = (w.alloc (.cells #[.pointer m] 30)).alloc (.cells #[.int .i64 a] 3) := by
  refine callsIn_of_wp Tryd.func21 rfl trivial ?_ rfl
  simp only [Tryd.ntmps21, List.size_toArray, List.length_cons, List.length_nil, Nat.reduceAdd, Nat.reduceSub, Array.replicate_succ, Array.replicate_zero, List.push_toArray, List.append_toArray, List.nil_append, List.cons_append]
  gi_wp2
  go_ret
  exact ⟨rfl, rfl⟩
/-- A place and its link, as they are handed out. -/
def lnkE (x : Int × Int × Int × Int) : Array Value := #[.int .i64 x.1, .agg #[.int .i64 x.2.1, .int .i64 x.2.2.1, .int .i64 x.2.2.2]]
set_option maxHeartbeats 1000000 in
theorem links1_nil (n : Nat) (hn : 1 ≤ n) (l Bn Ba : Nat) (J Jx : List (Int × Int × Int × Int) → World → Prop) (W : World) (hBn : Boxed W Bn 30 (.pointer none)) (hJ : AbidesFrom W.heap.size J) (h0 : J [] W) :
    CallsIn Fence.wide n Tryd.prog 42 #[.func (.yield l) #[] #[], .pointer (some ⟨Bn, 0, none⟩), .pointer (some ⟨Ba, 0, none⟩)] W fun e W' => (∃ v, e = .returned v) ∧
      ((∃ ys, ys = [] ∧ J ys W') ∨ (∃ pre, pre <+: [] ∧ Jx pre W')) := by
  have hb0 := hBn.cell
  have hlt := hBn.lt
  have hJ1 : J [] (W.alloc (.cells #[.func (.yield l) #[] #[]] 104)) := hJ _ _ _ none h0 (World.grownBy_alloc W _ none) (fun r e => by cases e)
  refine callsIn_of_wp Tryd.func42 rfl trivial ?_ rfl
  simp only [Tryd.ntmps42, List.size_toArray, List.length_cons, List.length_nil, Nat.reduceAdd, Nat.reduceSub, Array.replicate_succ, Array.replicate_zero, List.push_toArray, List.append_toArray, List.nil_append, List.cons_append]
  gi_wp2
  refine bodyPost_ret (results_none rfl _ _ _) rfl ?_
  exact ⟨⟨_, rfl⟩, .inl ⟨_, rfl, hJ1⟩⟩
theorem links_stops_nil (n : Nat) (hn : 1 ≤ n) (Bn Ba : Nat) (w : World) (hBn : Boxed w Bn 30 (.pointer none)) :
    SeqStopsK Fence.wide n Tryd.prog 42 #[.pointer (some ⟨Bn, 0, none⟩), .pointer (some ⟨Ba, 0, none⟩)] lnkE (fun _ _ => True) (fun ys => ys = []) (fun pre => pre <+: []) 0 w := fun l J Jx W hW hJ _ hY h0 =>
  links1_nil n hn l Bn Ba J Jx W ((hW.block Bn hBn.lt).trans hBn) hJ h0
theorem box_out {W : World} {b D : Nat} {t : TypeId} {u v : Value} (hb : Boxed W b t u) (hK : W.heap[D]? = some (.deferred (some []))) :
    (W.setCell ⟨b, 0, none⟩ v).heap[D]? = some (.deferred (some [])) ∧ ((W.setCell ⟨b, 0, none⟩ v).putObj D (.deferred none)).cell? ⟨b, 0, none⟩ = some v := by
  have hne : D ≠ b := fun e => by subst e; rw [show W.heap[D]? = _ from hb] at hK; cases hK
  have h1 : (W.setCell ⟨b, 0, none⟩ v).heap[D]? = some (.deferred (some [])) := (Below.heap_setCell _ _ _ _ hne).trans hK
  exact ⟨h1, cell_kept (hb.set v).cell (grownBy_putObj' _ D (.deferred none)) (fun r e => by cases e; exact ⟨_, h1, rfl⟩)⟩
theorem below_out {W : World} {b D : Nat} {v : Value} (h : Below w.heap.size w W) (hb : w.heap.size ≤ b) (hD : w.heap.size ≤ D) : Below w.heap.size w ((W.setCell ⟨b, 0, none⟩ v).putObj D (.deferred none)) :=
  (h.setCell (p := ⟨b, 0, none⟩) hb v).grown (grownBy_putObj' _ D _) (by simpa [World.setCell] using h.size) (fun k e => by cases e; exact hD)
set_option maxRecDepth 100000 in
set_option maxHeartbeats 4000000 in
theorem inews_walk (a pl : Int) (hT : Tab w) : Calls Tryd.prog 5 #[.int .i64 a, .int .i64 pl] w fun e w' => e = .returned (.bool true) ∧ Below w.heap.size w w' := by
  refine (callsIn_wide (n := 10)).1 ?_
  have h0 : 0 < w.heap.size := lt_of_cell (hT 0 (by decide))
  have HAL : Hid (∀ w1, Below w.heap.size w w1 → Calls Tryd.prog 8 #[] w1 fun e w' => e = .returned (.bool true) ∧ Below w1.heap.size w1 w') := Lib.hid (fun w1 hb => alive12_any w1 (hT.below hb h0))
  clear hT
  refine callsIn_of_wp_marks Tryd.func5 rfl trivial ?_ rfl
  simp only [Tryd.ntmps5, List.size_toArray, List.length_cons, List.length_nil, Nat.reduceAdd, Nat.reduceSub, Array.replicate_succ, Array.replicate_zero, List.push_toArray, List.append_toArray, List.nil_append, List.cons_append]
  have hB0 := below1 w (.cells #[.bool false] 4)
  have bO0 := Boxed.new w 4 (.bool false)
  gi_wp2_with (refine ⟨trivial, ?_⟩; gi_at_call 8; refine (callsIn_wide.2 (HAL.out _ hB0)).mono ?_; rintro e w1 ⟨rfl, hb1⟩)
  have bO1 : Boxed w1 w.heap.size 4 (.bool false) := (hb1.block _ bO0.lt).trans bO0
  have hB1 := hB0.on hb1
  clear hb1 bO0 hB0
  refine ⟨trivial, (callsIn_wide.2 (make_nil a 1 0 0 w1)).mono ?_⟩
  rintro e w2 ⟨rfl, hb2⟩
  have bO2 : Boxed w2 w.heap.size 4 (.bool false) := (hb2.block _ bO1.lt).trans bO1
  have hB2 := hB1.on hb2
  clear hb2 bO1 hB1
  gi_wp2_with fail
  refine ⟨trivial, (callsIn_wide.2 (iat_nil a _)).mono ?_⟩
  rintro e w3 ⟨rfl, hb3⟩
  have hb3' := hb3.on (below1 w3 (.cells #[.int .i64 0, .int .i64 0, .int .i64 0] 43))
  have bO3 : Boxed _ w.heap.size 4 (.bool false) := (hb3'.block _ bO2.lt).trans bO2
  have hB3 := hB2.on hb3'
  clear hb3 hb3' bO2 hB2
  gi_wp2_with fail
  refine ⟨trivial, (callsIn_wide.2 (move_nil a pl _)).mono ?_⟩
  rintro e w4 ⟨rfl, hb4⟩
  have bO4 : Boxed _ w.heap.size 4 (.bool false) := (hb4.block _ bO3.lt).trans bO3
  have hB4 := hB3.on hb4
  clear hb4 bO3 hB3
  gi_wp2_with fail
  refine ⟨trivial, (callsIn_wide.2 (load_nil a pl _)).mono ?_⟩
  rintro e w5 ⟨rfl, rfl⟩
  gi_wp2_with fail
  refine ⟨trivial, (callsIn_wide.2 (follow_nil a pl _)).mono ?_⟩
  rintro e w6 ⟨rfl, hb6⟩
  have hb6' := hb6.on (below1 w6 (.cells #[.int .i64 0, .int .i64 0, .int .i64 0] 49))
  have bO6 : Boxed _ w.heap.size 4 (.bool false) := (hb6'.block _ bO4.lt).trans bO4
  have hB6 := hB4.on hb6'
  clear hb6 hb6' bO4 hB4
  gi_wp2_with fail
  refine ⟨trivial, (links_in _ none a _).mono ?_⟩
  rintro e w7 ⟨rfl, rfl⟩
  generalize w6.alloc (.cells #[.int .i64 0, .int .i64 0, .int .i64 0] 49) = W6 at *
  have bN0 := Boxed.new W6 30 (.pointer none)
  have bO70 := bO6.alloc (.cells #[.pointer none] 30)
  have hB70 := hB6.on (below1 W6 (.cells #[.pointer none] 30))
  have hsz7 : (W6.alloc (.cells #[.pointer none] 30)).heap.size = W6.heap.size + 1 := World.size_alloc _ _
  have bN := bN0.alloc (.cells #[.int .i64 a] 3)
  have bO7 := bO70.alloc (.cells #[.int .i64 a] 3)
  have hB7 := hB70.on (below1 _ (.cells #[.int .i64 a] 3))
  generalize hBn : W6.heap.size = Bn at *
  generalize (W6.alloc (.cells #[.pointer none] 30)).alloc (.cells #[.int .i64 a] 3) = W7 at *
  clear hBn bO6 hB6 bN0 bO70 hB70 hsz7
  gi_wp2_with fail
  have hs7 := hB7.size
  refine wpIn_rangeFunc_ownG (n := 10) rfl (by decide) (gf := 42) (lb := #[.pointer (some ⟨Bn, 0, none⟩), .pointer (some ⟨Bn + 1, 0, none⟩)]) rfl trivial (enters_of Tryd.func42 (by kernel_rfl) rfl)
    (links_stops_nil 9 (by decide) Bn (Bn + 1) W7 bN) (fun _ _ => trivial) (fun _ _ _ _ _ _ _ _ => trivial) (Below.refl _ _) (fun _ => rfl)
    (fun _ W => Boxed W w.heap.size 4 (.bool false) ∧ Below w.heap.size w W)
    (fun _ _ _ => False)
    (OwnFrom.and (Own.from (boxed_own _ _ _) _) (ownFrom_below (Nat.le_refl _) hs7))
    (fun _ _ _ _ _ hs _ _ => hs)
    ⟨bO7, hB7⟩ ?a1 ?assign ?body ?done ?stop
  case assign =>
    intro l x W K hK
    gi_wp2
    exact hK
  case body =>
    rintro l pre x W _ hlt
    exact absurd hlt (Nat.not_lt_zero _)
  case stop =>
    rintro D c pre W _ _ h _
    exact h.elim
  case done =>
    rintro D ys W hD rfl ⟨bO, hB⟩ hK
    have hDW := (Array.getElem?_eq_some_iff.1 hK).1
    clear hs7
    gi_wp2_with fail
    refine ⟨trivial, (callsIn_wide.2 (new_in3 1 1 W (by decide) (by decide) (by decide) (by decide))).mono ?_⟩
    rintro e w8 ⟨B, Wb, Ob, p, q, rfl, hS, hb, hF⟩
    have hK8 := (hb.block D hDW).trans hK
    have bO8 : Boxed w8 w.heap.size 4 (.bool false) := (hb.block _ bO.lt).trans bO
    have hB8 := hB.on hb
    have hD8 := Nat.lt_of_lt_of_le hDW hb.size
    clear hb bO hB hK hDW hS hF
    gi_wp2_with fail
    refine ⟨trivial, (callsIn_wide.2 (book_new w8)).mono ?_⟩
    rintro e w9 ⟨rfl, -, hb⟩
    have hK9 := (hb.block D hD8).trans hK8
    have bO9 : Boxed w9 w.heap.size 4 (.bool false) := (hb.block _ bO8.lt).trans bO8
    have hB9 := hB8.on hb
    have hD9 := Nat.lt_of_lt_of_le hD8 hb.size
    clear hb bO8 hB8 hK8 hD8
    gi_wp2_with fail
    refine ⟨trivial, (callsIn_wide.2 (inew_nil1 _ w9)).mono ?_⟩
    rintro e wa ⟨rfl, rfl⟩
    gi_wp2_with fail
    refine ⟨trivial, (callsIn_wide.2 (inew_nil2 B wa)).mono ?_⟩
    rintro e wb ⟨rfl, rfl⟩
    gi_wp2_with fail
    refine ⟨trivial, (callsIn_wide.2 (HAL.out _ hB9)).mono ?_⟩
    rintro e wc ⟨rfl, hb⟩
    have hKc := (hb.block D hD9).trans hK9
    have bOc : Boxed wc w.heap.size 4 (.bool false) := (hb.block _ bO9.lt).trans bO9
    have hBc := hB9.on hb
    have hDc := Nat.lt_of_lt_of_le hD9 hb.size
    clear hb bO9 hB9 hK9 hD9
    gi_wp2_with fail
    refine ⟨trivial, (callsIn_wide.2 (save_nil a pl 1 _)).mono ?_⟩
    rintro e wd ⟨rfl, rfl⟩
    gi_wp2_with fail
    refine ⟨trivial, (callsIn_wide.2 (tie_nil a pl 0 0 0 _)).mono ?_⟩
    rintro e we ⟨rfl, hb⟩
    have hKe := (hb.block D hDc).trans hKc
    have bOe : Boxed we w.heap.size 4 (.bool false) := (hb.block _ bOc.lt).trans bOc
    have hBe := hBc.on hb
    clear hb bOc hBc hKc hDc
    have hc := bOe.cell
    have hf := bOe.frozen
    gi_wp2_with fail
    have hout := box_out (v := .bool true) bOe hKe
    refine ⟨by simp, .inl ⟨_, _, rfl, run_takeDeferred hout.1, ?_⟩⟩
    refine ⟨.bool true, ?_, rfl, below_out hBe (Nat.le_refl _) (Nat.le_trans hB7.size hD)⟩
    rw [results_cell1 rfl]
    have h9 := hout.2
    go_simp
end Go.Proofs.YtaifaefhghjiaaaDoor
end
