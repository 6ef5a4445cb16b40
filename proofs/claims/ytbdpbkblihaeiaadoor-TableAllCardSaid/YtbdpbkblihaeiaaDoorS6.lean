/- TableNews: a walk. -/
import Derived.Test.YtbdpbkblihaeiaaDoorS2
import Derived.Test.YtbdpbkblihaeiaaDoorAl2
namespace Go.Proofs.YtbdpbkblihaeiaaDoor
open Go.RowKit Go.Shelf
set_option linter.unusedVariables false
set_option linter.unusedSimpArgs false
attribute [local go_sem] Oper.semAt_some
variable {w w' base : World} {B S p q bd : Nat} {l : List Slot} {v : Value} {told : List (Int × Int)}
set_option maxHeartbeats 1000000 in
theorem tall_in (n : Nat) (m : Option Addr) (w : World) : CallsIn Fence.wide n Tryd.prog 41 #[.pointer m] w fun e w' => e = .returned (.func (.func 54) #[] #[.pointer (some ⟨w.heap.size, 0, none⟩)]) ∧ w' = w.alloc (.cells #[.pointer m] 52) := by
  refine callsIn_of_wp Tryd.func41 rfl trivial ?_ rfl
  simp only [Tryd.ntmps41, List.size_toArray, List.length_cons, List.length_nil, Nat.reduceAdd, Nat.reduceSub, Array.replicate_succ, Array.replicate_zero, List.push_toArray, List.append_toArray, List.nil_append, List.cons_append]
  gi_wp2
  go_ret
  exact ⟨rfl, rfl⟩
def tokEntE (x : Int × Int × Entry) : Array Value := #[tokV x.1 x.2.1, entV x.2.2]
set_option maxHeartbeats 1000000 in
theorem tall1_nil (n : Nat) (hn : 1 ≤ n) (l Bn : Nat) (J Jx : List (Int × Int × Entry) → World → Prop) (W : World) (hBn : Boxed W Bn 52 (.pointer none)) (hJ : AbidesFrom W.heap.size J) (h0 : J [] W) :
    CallsIn Fence.wide n Tryd.prog 54 #[.func (.yield l) #[] #[], .pointer (some ⟨Bn, 0, none⟩)] W fun e W' => (∃ v, e = .returned v) ∧
      ((∃ ys, ys = [] ∧ J ys W') ∨ (∃ pre, pre <+: [] ∧ Jx pre W')) := by
  have hb0 := hBn.cell
  have hlt := hBn.lt
  have hJ1 : J [] (W.alloc (.cells #[.func (.yield l) #[] #[]] 108)) := hJ _ _ _ none h0 (World.grownBy_alloc W _ none) (fun r e => by cases e)
  refine callsIn_of_wp Tryd.func54 rfl trivial ?_ rfl
  simp only [Tryd.ntmps54, List.size_toArray, List.length_cons, List.length_nil, Nat.reduceAdd, Nat.reduceSub, Array.replicate_succ, Array.replicate_zero, List.push_toArray, List.append_toArray, List.nil_append, List.cons_append]
  gi_wp2
  refine bodyPost_ret (results_none rfl _ _ _) rfl ?_
  exact ⟨⟨_, rfl⟩, .inl ⟨_, rfl, hJ1⟩⟩
theorem tall_stops_nil (n : Nat) (hn : 1 ≤ n) (Bn : Nat) (w : World) (hBn : Boxed w Bn 52 (.pointer none)) :
    SeqStopsK Fence.wide n Tryd.prog 54 #[.pointer (some ⟨Bn, 0, none⟩)] tokEntE (fun _ _ => True) (fun ys => ys = []) (fun pre => pre <+: []) 0 w := fun l J Jx W hW hJ _ hY h0 =>
  tall1_nil n hn l Bn J Jx W ((hW.block Bn hBn.lt).trans hBn) hJ h0
theorem box_out {W : World} {b D : Nat} {t : TypeId} {u v : Value} (hb : Boxed W b t u) (hK : W.heap[D]? = some (.deferred (some []))) :
    (W.setCell ⟨b, 0, none⟩ v).heap[D]? = some (.deferred (some [])) ∧ ((W.setCell ⟨b, 0, none⟩ v).putObj D (.deferred none)).cell? ⟨b, 0, none⟩ = some v := by
  have hne : D ≠ b := fun e => by subst e; rw [show W.heap[D]? = _ from hb] at hK; cases hK
  have h1 : (W.setCell ⟨b, 0, none⟩ v).heap[D]? = some (.deferred (some [])) := (Below.heap_setCell _ _ _ _ hne).trans hK
  exact ⟨h1, cell_kept (hb.set v).cell (grownBy_putObj' _ D (.deferred none)) (fun r e => by cases e; exact ⟨_, h1, rfl⟩)⟩
theorem below_out {W : World} {b D : Nat} {v : Value} (h : Below w.heap.size w W) (hb : w.heap.size ≤ b) (hD : w.heap.size ≤ D) : Below w.heap.size w ((W.setCell ⟨b, 0, none⟩ v).putObj D (.deferred none)) :=
  (h.setCell (p := ⟨b, 0, none⟩) hb v).grown (grownBy_putObj' _ D _) (by simpa [World.setCell] using h.size) (fun k e => by cases e; exact hD)
set_option maxRecDepth 100000 in
set_option maxHeartbeats 2000000 in
theorem tnews_walk (n : Int) (hT : Tab w) : Calls Tryd.prog 14 #[.int .i64 n] w fun e w' => e = .returned (.bool true) ∧ Below w.heap.size w w' := by
  refine (callsIn_wide (n := 10)).1 ?_
  have HT := Lib.hid hT
  have h0 : 0 < w.heap.size := lt_of_cell (hT 0 (by decide))
  have HAL : Hid (∀ w1, Below w.heap.size w w1 → Calls Tryd.prog 31 #[] w1 fun e w' => e = .returned (.bool true) ∧ Below w1.heap.size w1 w') := Lib.hid (fun w1 hb => alive7_any (hT.below hb h0))
  clear hT
  refine callsIn_of_wp_marks Tryd.func14 rfl trivial ?_ rfl
  simp only [Tryd.ntmps14, List.size_toArray, List.length_cons, List.length_nil, Nat.reduceAdd, Nat.reduceSub, Array.replicate_succ, Array.replicate_zero, List.push_toArray, List.append_toArray, List.nil_append, List.cons_append]
  have hB0 := below1 w (.cells #[.bool false] 4)
  have bO0 := Boxed.new w 4 (.bool false)
  gi_wp2_with (refine ⟨trivial, ?_⟩; gi_at_call 31; refine (callsIn_wide.2 (HAL.out _ hB0)).mono ?_; rintro e w1 ⟨rfl, hb1⟩)
  have bO1 : Boxed w1 w.heap.size 4 (.bool false) := (hb1.block _ bO0.lt).trans bO0
  have hB1 := hB0.on hb1
  clear hb1 bO0 hB0
  refine ⟨trivial, (callsIn_wide.2 (add_nil noEntry w1)).mono ?_⟩
  rintro e w2 ⟨rfl, hb2⟩
  unfold tokV
  have hb2' := hb2.on (below1 w2 (.cells #[.int .i64 0, .int .i64 0] 57))
  have bO2 : Boxed _ w.heap.size 4 (.bool false) := (hb2'.block _ bO1.lt).trans bO1
  have hB2 := hB1.on hb2'
  clear hb2 hb2' bO1 hB1
  gi_wp2_with fail
  refine ⟨trivial, (callsIn_wide.2 (get_nil 0 0 _)).mono ?_⟩
  rintro e w3 ⟨rfl, hb3⟩
  unfold entV noEntry
  have hb3' := hb3.on (below1 w3 (.cells #[.int .i64 0, .int .i64 0, .bool false, .bool false] 51))
  have bO3 : Boxed _ w.heap.size 4 (.bool false) := (hb3'.block _ bO2.lt).trans bO2
  have hB3 := hB2.on hb3'
  clear hb3 hb3' bO2 hB2
  gi_wp2_with fail
  refine ⟨trivial, (callsIn_wide.2 (at_nil 0 _)).mono ?_⟩
  rintro e w4 ⟨rfl, hb4⟩
  unfold tokV
  have hb4' := hb4.on (below1 w4 (.cells #[.int .i64 0, .int .i64 0] 57))
  have bO4 : Boxed _ w.heap.size 4 (.bool false) := (hb4'.block _ bO3.lt).trans bO3
  have hB4 := hB3.on hb4'
  clear hb4 hb4' bO3 hB3
  gi_wp2_with fail
  refine ⟨trivial, (tall_in _ none _).mono ?_⟩
  rintro e w5 ⟨rfl, rfl⟩
  generalize w4.alloc (.cells #[.int .i64 0, .int .i64 0] 57) = W4 at *
  have bN := Boxed.new W4 52 (.pointer none)
  have bO5 := bO4.alloc (.cells #[.pointer none] 52)
  have hB5 := hB4.on (below1 W4 (.cells #[.pointer none] 52))
  generalize hBn : W4.heap.size = Bn at *
  generalize W4.alloc (.cells #[.pointer none] 52) = W5 at *
  clear hBn bO4 hB4
  gi_wp2_with fail
  have hs5 := hB5.size
  refine wpIn_rangeFunc_ownG (n := 10) rfl (by decide) (gf := 54) (lb := #[.pointer (some ⟨Bn, 0, none⟩)]) rfl trivial (enters_of Tryd.func54 (by kernel_rfl) rfl)
    (tall_stops_nil 9 (by decide) Bn W5 bN) (fun _ _ => trivial) (fun _ _ _ _ _ _ _ _ => trivial) (Below.refl _ _) (fun _ => rfl)
    (fun _ W => Boxed W w.heap.size 4 (.bool false) ∧ Below w.heap.size w W)
    (fun _ _ _ => False)
    (OwnFrom.and (Own.from (boxed_own _ _ _) _) (ownFrom_below (Nat.le_refl _) hs5))
    (fun _ _ _ _ _ hs _ _ => hs)
    ⟨bO5, hB5⟩ ?a1 ?assign ?body ?done ?stop
  case assign =>
    intro l x W K hK
    gi_wp2
    exact hK
  case body =>
    rintro l pre x W _ hlt
    exact absurd hlt (Nat.not_lt_zero _)
  case stop =>
    rintro D c pre W _ _ h _
    exact h.elim
  case done =>
    rintro D ys W hD rfl ⟨bO, hB⟩ hK
    have hDW := (Array.getElem?_eq_some_iff.1 hK).1
    clear hs5
    gi_wp2_with fail
    refine ⟨trivial, (callsIn_wide.2 (HAL.out _ hB)).mono ?_⟩
    rintro e w5 ⟨rfl, hb⟩
    have hK5 := (hb.block D hDW).trans hK
    have bO6 : Boxed w5 w.heap.size 4 (.bool false) := (hb.block _ bO.lt).trans bO
    have hB6 := hB.on hb
    have hD6 := Nat.lt_of_lt_of_le hDW hb.size
    clear hb bO hB hK hDW
    gi_wp2_with fail
    refine ⟨trivial, (callsIn_wide.2 (tset_nil 0 0 noEntry _)).mono ?_⟩
    rintro e w6 ⟨rfl, hb⟩
    have hK6 := (hb.block D hD6).trans hK5
    have bO7 : Boxed w6 w.heap.size 4 (.bool false) := (hb.block _ bO6.lt).trans bO6
    have hB7 := hB6.on hb
    have hD7 := Nat.lt_of_lt_of_le hD6 hb.size
    clear hb bO6 hB6 hK5 hD6
    gi_wp2_with fail
    refine ⟨trivial, (callsIn_wide.2 (drop_nil 0 0 _)).mono ?_⟩
    rintro e w7 ⟨rfl, hb⟩
    have hK7 := (hb.block D hD7).trans hK6
    have bO8 : Boxed w7 w.heap.size 4 (.bool false) := (hb.block _ bO7.lt).trans bO7
    have hB8 := hB7.on hb
    have hD8 := Nat.lt_of_lt_of_le hD7 hb.size
    clear hb bO7 hB7 hK6 hD7
    gi_wp2_with fail
    refine ⟨trivial, (callsIn_wide.2 (used_nil _)).mono ?_⟩
    rintro e w8 ⟨rfl, hb⟩
    have hK8 := (hb.block D hD8).trans hK7
    have bO9 : Boxed w8 w.heap.size 4 (.bool false) := (hb.block _ bO8.lt).trans bO8
    have hB9 := hB8.on hb
    have hD9 := Nat.lt_of_lt_of_le hD8 hb.size
    clear hb bO8 hB8 hK7 hD8
    gi_wp2_with fail
    refine ⟨trivial, (callsIn_wide.2 (left_nil _)).mono ?_⟩
    rintro e w9 ⟨rfl, hb⟩
    have hK9 := (hb.block D hD9).trans hK8
    have bOa : Boxed w9 w.heap.size 4 (.bool false) := (hb.block _ bO9.lt).trans bO9
    have hBa := hB9.on hb
    have hDa := Nat.lt_of_lt_of_le hD9 hb.size
    clear hb bO9 hB9 hK8 hD9
    gi_wp2_with fail
    refine ⟨trivial, (callsIn_wide.2 (retired_nil _)).mono ?_⟩
    rintro e wa ⟨rfl, hb⟩
    have hKa := (hb.block D hDa).trans hK9
    have bOb : Boxed wa w.heap.size 4 (.bool false) := (hb.block _ bOa.lt).trans bOa
    have hBb := hBa.on hb
    have hDb := Nat.lt_of_lt_of_le hDa hb.size
    clear hb bOa hBa hK9 hDa
    by_cases hn : n < 1 ∨ 4096 < n
    · have HN := Lib.hid hn
      have hc := bOb.cell
      have hf := bOb.frozen
      rcases hn with c1 | c2
      all_goals
        gi_wp2_with (refine ⟨trivial, ?_⟩; gi_at_call 35; refine (callsIn_wide.2 (tnew_out n _ HN.out)).mono ?_; rintro e w' ⟨rfl, rfl⟩)
        have hout := box_out (v := .bool true) bOb hKa
        refine ⟨by simp, .inl ⟨_, _, rfl, run_takeDeferred hout.1, ?_⟩⟩
        refine ⟨.bool true, ?_, rfl, below_out hBb (Nat.le_refl _) (Nat.le_trans hB5.size hD)⟩
        rw [results_cell1 rfl]
        have h9 := hout.2
        go_simp
    · obtain ⟨N, rfl⟩ : ∃ N : Nat, n = N := ⟨n.toNat, by omega⟩
      have c1 : ¬ (N : Int) < 1 := by omega
      have c2 : ¬ (4096 : Int) < N := by omega
      have HNW := Lib.hid (tnew_ts N wa (by omega) (by omega))
      clear hn
      gi_wp2_with fail
      refine ⟨trivial, (callsIn_wide.2 HNW.out).mono ?_⟩
      rintro e wb ⟨B, S, p, q, rfl, hS⟩
      rw [← stR_zero] at hS
      have HS := Lib.hid hS
      have HU := Lib.hid (stR_used N 0)
      have HG := Lib.hid (stR_gone N 0)
      have HL := Lib.hid (stR_len N 0)
      have hb := hS.below
      have hKb := (hb.block D hDb).trans hKa
      have bOc : Boxed wb w.heap.size 4 (.bool false) := (hb.block _ bOb.lt).trans bOb
      have hBc := hBb.on hb
      have hDc := Nat.lt_of_lt_of_le hDb hb.size
      clear hb bOb hBb hKa hDb hS
      gi_wp2_with fail
      refine ⟨trivial, (callsIn_wide.2 HS.out.leftB).mono ?_⟩
      rintro e wc ⟨rfl, hb⟩
      rw [HL.out, HU.out, HG.out, show (N : Int) - ((0 + min (0 / 255) N : Nat) : Int) = (N : Int) by simp]
      have HS2 := Lib.hid (HS.out.on hb)
      have hKc := (hb.block D hDc).trans hKb
      have bOd : Boxed wc w.heap.size 4 (.bool false) := (hb.block _ bOc.lt).trans bOc
      have hBd := hBc.on hb
      have hDd := Nat.lt_of_lt_of_le hDc hb.size
      clear hb bOc hBc hKb hDc
      gi_wp2_with fail
      refine ⟨trivial, (callsIn_wide.2 HS2.out.usedB).mono ?_⟩
      rintro e wd ⟨rfl, hb⟩
      rw [HU.out]
      have hKd := (hb.block D hDd).trans hKc
      have bOe : Boxed wd w.heap.size 4 (.bool false) := (hb.block _ bOd.lt).trans bOd
      have hBe := hBd.on hb
      have hc := bOe.cell
      have hf := bOe.frozen
      clear hb bOd hBd hKc hDd
      gi_wp2
      have hout := box_out (v := .bool true) bOe hKd
      refine ⟨by simp, .inl ⟨_, _, rfl, run_takeDeferred hout.1, ?_⟩⟩
      refine ⟨.bool true, ?_, rfl, below_out hBe (Nat.le_refl _) (Nat.le_trans hB5.size hD)⟩
      rw [results_cell1 rfl]
      have h9 := hout.2
      go_simp
end Go.Proofs.YtbdpbkblihaeiaaDoor
