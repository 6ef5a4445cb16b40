/- In a round: a region that draws its order, whose operations only read, and whose calls leave a world of a class: walked once. -/
import Derived.Test.YtbdpbkblihaeiaaDoorRs
import Derived.Deep.Quiet
namespace Go.Proofs.YtbdpbkblihaeiaaDoor
open Go.RowKit
set_option linter.unusedVariables false
section
variable {P : Program} {ops : Array Oper} {md : Region.Mode} {C : World → Prop} {w : World} {l0 n : Nat} {Q : Exit → Act → World → Prop}
theorem wpOpIn_of_qOp {i : Nat} {a : Act} {K : Act → Prop} {K' : Act → World → Prop} {w : World} (hnd : ops.all noDefer = true) (hC : C w) (h : ∀ a w', C w' → K a → K' a w') (hh : qOp P ops C i K a) : wpOpIn (Fence.wide.inRound l0) n P ops Q i K' a w := by
  unfold qOp at hh
  unfold wpOpIn
  split
  · rename_i ho; simp only [ho] at hh; exact h _ _ hC hh
  · rename_i o ho
    simp only [ho] at hh
    have hd : ∀ c, o.op ≠ .defer c := noDefer_spec (Array.all_eq_true'.1 hnd o (Array.mem_of_getElem? ho))
    split
    · rename_i hw
      simp only [hw, if_true] at hh
      refine ⟨fun _ _ => trivial, ?_⟩
      rw [show (Fence.wide.inRound l0).round = some l0 from rfl, Oper.semAt_some l0 _ _ hd]
      obtain ⟨v, h1, h2⟩ := hh
      have h3 := h1 w hC
      unfold Oper.quietAt at h3
      generalize (execOp a.eval o).run P w = r at *
      cases r with
      | ok x w' =>
        cases x <;> simp only [Oper.quietUpon] at h3
        case value u => obtain ⟨rfl, rfl⟩ := h3; exact h _ _ hC h2
        case skip => obtain ⟨rfl, rfl⟩ := h3; exact h _ _ hC h2
        case enter f args =>
          obtain ⟨rfl, hc⟩ := h3
          rw [Oper.uponIn_enter]
          refine ⟨fun e => (by cases e), ((callsIn_wide.2 hc).inRound l0).mono ?_⟩
          rintro e w'' ⟨rfl, hw''⟩
          exact h _ _ hw'' h2
      | halt x w' => simp only [Oper.quietUpon] at h3
    · rename_i hw
      simp only [hw] at hh
      exact ⟨fun _ _ => trivial, h _ _ hC hh⟩
theorem wpAnyIn_of_q {Q1 : Act → Prop} (hnd : ops.all noDefer = true) (hQ : ∀ a w, C w → Q1 a → Q .normal a w) : ∀ (fuel : Nat) (listed : Array Bool) (a : Act) (w : World), C w →
    wpAnyQ P md ops C Q1 fuel listed a → wpAnyIn (Fence.wide.inRound l0) n P md ops Q fuel listed a w
  | 0, _, _, _, hw, h => ⟨h.1, hQ _ _ hw h.2⟩
  | fuel + 1, _, _, _, hw, h => ⟨fun h0 => hQ _ _ hw (h.1 h0), fun i hi => wpOpIn_of_qOp hnd hw (fun a' w' hw' => wpAnyIn_of_q hnd hQ fuel _ a' w' hw') (h.2 i hi)⟩
theorem round_quiet {id : Nat} {a : Act} {w : World} {l : List Oper} (C : World → Prop) (hm : P.follows .mixedOrders = true) (hB : Region.lexB .any l.toArray = true) (hnd : l.toArray.all noDefer = true) (hC : C w.drew)
    (h : wpQuiet P l.toArray C (fun a' => ∀ w', C w' → Q .normal a' w') l a) : (Code.region id l.toArray true).wpIn (Fence.wide.inRound l0) n P Q a w := by
  simp only [Region.lexB, Bool.and_eq_true] at hB
  refine wpIn_region_any hm (wpAnyIn_of_q (Q1 := fun a' => ∀ w', C w' → Q .normal a' w') hnd (fun _ w' hw' h => h w' hw') _ _ _ _ hC ?_)
  have := wpAnyQ_lex (C := C) (md := .any) hB.1 l 0 (Array.replicate l.toArray.size false) a (by simp) (by simpa using hB.2) h
  simpa using this
end
end Go.Proofs.YtbdpbkblihaeiaaDoor
