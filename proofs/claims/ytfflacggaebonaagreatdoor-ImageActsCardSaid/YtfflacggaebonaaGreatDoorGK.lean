/- Ones All Rg -/
import Derived.Test.YtfflacggaebonaaGreatDoorGA
import Derived.RangeFuncNested
import Derived.RangeFuncBound
import Derived.RangeFuncCalls
import Derived.RangeFuncLeaves
import Derived.RangeFuncBox
import Derived.Shelf.Abstract
import Derived.Shelf.RegionOpen
import Derived.WalkKit
import Derived.OwnWalkIn
import Derived.TacticsInMore
import Derived.LoopNIn
import Derived.LoopIn
import Derived.Maps.AppendAt
section
namespace Go.Proofs.YtfflacggaebonaaGreatDoor
set_option linter.unusedVariables false
set_option linter.unusedSimpArgs false
variable {bits : List Bool}
def onesTo (bits : List Bool) (k : Nat) : List Nat := (List.range k).filter fun i => bits.getD i false
def ones (bits : List Bool) : List Nat := onesTo bits bits.length
theorem onesTo_succ (k : Nat) : onesTo bits (k + 1) = if bits.getD k false = true then onesTo bits k ++ [k] else onesTo bits k := by
  unfold onesTo
  rw [List.range_succ, List.filter_append]
  cases h : bits.getD k false <;> simp [h, - List.getD_eq_getElem?_getD]
theorem onesTo_on {k : Nat} (h : bits.getD k false = true) : onesTo bits (k + 1) = onesTo bits k ++ [k] := by rw [onesTo_succ, if_pos h]
theorem onesTo_skip : ∀ (d i : Nat), (∀ j, i ≤ j → j < i + d → bits.getD j false ≠ true) → onesTo bits (i + d) = onesTo bits i
  | 0, _, _ => rfl
  | d + 1, i, h => by
    rw [show i + (d + 1) = (i + d) + 1 by omega, onesTo_succ, if_neg (h _ (by omega) (by omega)), onesTo_skip d i (fun j h1 h2 => h j h1 (by omega))]
theorem onesTo_seek {i e : Nat} (hi : i ≤ bits.length) (he : seek true bits i = e) : onesTo bits e = onesTo bits i := by
  have h : i ≤ seek true bits i := seek_ge hi
  have := onesTo_skip (bits := bits) (e - i) i (fun j h1 h2 => seek_between (b := true) h1 (by omega))
  rwa [show i + (e - i) = e by omega] at this
theorem onesTo_le (k : Nat) : (onesTo bits k).length ≤ k := by
  have := List.length_filter_le (fun i => bits.getD i false) (List.range k)
  simpa [onesTo] using this
theorem onesTo_prefix {k : Nat} (h : k ≤ bits.length) : onesTo bits k <+: ones bits := by
  have : ∀ d, onesTo bits k <+: onesTo bits (k + d) := by
    intro d
    induction d with
    | zero => exact List.prefix_refl _
    | succ d ih =>
      rw [show k + (d + 1) = (k + d) + 1 by omega, onesTo_succ]
      split
      · exact ih.trans (List.prefix_append _ _)
      · exact ih
  have h2 := this (bits.length - k)
  rwa [show k + (bits.length - k) = bits.length by omega] at h2
theorem onesTo_lt {k : Nat} (h : k < bits.length) (hk : bits.getD k false = true) : (onesTo bits k).length < (ones bits).length := by
  have h1 := (onesTo_prefix (bits := bits) (k := k + 1) (by omega)).length_le
  rw [onesTo_on hk] at h1
  simp at h1; omega
end Go.Proofs.YtfflacggaebonaaGreatDoor
end
section
namespace Go.Proofs.YtfflacggaebonaaGreatDoor
open Go.RowKit Go.Shelf
set_option linter.unusedVariables false
set_option linter.unusedSimpArgs false
attribute [local go_sem] Oper.semAt_some
variable {w : World} {p q : Nat} {bits : List Bool} {ws : List Nat} {T T' : TypeId}
theorem MapAt.below {n₀ : Nat} {w w' : World} (h : MapAt w p q bits ws T T') (hb : Below n₀ w w') (hp : p < n₀) (hq : q < n₀) : MapAt w' p q bits ws T T' := ⟨h.ne, h.pos, h.le, h.words, (hb.block p hp).trans h.head, (hb.block q hq).trans h.body⟩
theorem Tab.below {n₀ : Nat} {w w' : World} (h : Tab w) (hb : Below n₀ w w') (h0 : 0 < n₀) : Tab w' := fun j hj => (hb.cell (p := ⟨0, j, none⟩) h0).trans (h j hj)
/-- What a round keeps: what lay below, and the box of the map. -/
def Kp (n₀ Bn : Nat) (W W' : World) : Prop := Below n₀ W W' ∧ ∀ v, Boxed W Bn 105 v → Boxed W' Bn 105 v
theorem Kp.t {n₀ Bn : Nat} {A B C : World} (h : Kp n₀ Bn A B) (k : Kp n₀ Bn B C) : Kp n₀ Bn A C := ⟨h.1.trans k.1, fun v hv => k.2 v (h.2 v hv)⟩
theorem Kp.b {n₀ Bn : Nat} {w : World} (hn : n₀ ≤ w.heap.size) (W : World) (l : Nat) (o o' : Obj) (hl : w.heap.size ≤ l) (h : W.heap[l]? = some o) (hc : o.isCells = false) (hw : o.isWalk = false) : Kp n₀ Bn W (W.putObj l o') :=
  ⟨belowK_b hn W l o o' hl h hc hw, fun v hv => hv.kept (grownBy_putObj' W l o') (fun e => by cases e; rw [show W.heap[Bn]? = _ from hv] at h; cases h; cases hc)⟩
end Go.Proofs.YtfflacggaebonaaGreatDoor
end
section
namespace Go.Proofs.YtfflacggaebonaaGreatDoor
open Go.RowKit
set_option linter.unusedVariables false
theorem Mod.putObj (S : Nat → Prop) (w : World) (l : Nat) (o : Obj) (h : S l) : Mod S w (w.putObj l o) :=
  ⟨rfl, rfl, rfl, by simp, fun k _ hn => World.putObj_heap_other (fun e => hn (by rw [e]; exact h))⟩
/-- The iterator hands out just these, in this order, while each round says that it goes on and turns only blocks of S; it has m blocks of its own, from c on. -/
def Gives {α : Type} (m : Nat) (F : Fence) (n : Nat) (P : Program) (g : Nat) (lb : Array Value) (encs : α → Array Value) (S : Nat → Prop) (xs : List α) (c : Nat) (w : World) : Prop :=
  ∀ (l : Nat) (J : List α → World → Prop) (W : World), Below w.heap.size w W → W.heap.size = c → (∀ s A B, J s A → Mod (fun k => c ≤ k ∧ k < c + m) A B → J s B) →
    (∀ pre x W1, c + m ≤ W1.heap.size → J pre W1 → (pre ++ [x]) <+: xs → YieldAt F (n - 1) P l (encs x) W1 fun e W' => e = .returned (.bool true) ∧ J (pre ++ [x]) W' ∧ Mod S W1 W') →
    J [] W → CallsIn F n P g (#[.func (.yield l) #[] #[]] ++ lb) W fun e W' => (∃ v, e = .returned v) ∧ J xs W'
theorem YieldAt.inRound {F : Fence} {m : Nat} {P : Program} {l : Nat} {args : Array Value} {W : World} {R : Ending → World → Prop} (l' : Nat) (h : YieldAt F m P l args W R) : YieldAt (F.inRound l') m P l args W R := h
/-- How a round's body may be left: it goes on. -/
def goesOn (S : Nat → Prop) (W : World) (R : World → Prop) : Exit → Act → World → Prop
  | .normal, _, W' => Mod S W W' ∧ R W'
  | _, _, _ => False
theorem range_all {m : Nat} {F : Fence} {n : Nat} {P : Program} {α : Type} {g : Operand} {ps : Array Tmp} {assign body : Code} {Q : Exit → Act → World → Prop} {a : Act} {w : World}
    (hro : F.round = none) (h1 : 1 ≤ n) {gf : Nat} {lb : Array Value} (hg : a.eval g = .func (.func gf) #[] lb) (hFg : F.fn gf) (eg : ∀ args w, (callFunc gf args).run P w = .ok (.enter gf args) w)
    {encs : α → Array Value} {xs : List α} (S : Nat → Prop) (hS : ∀ k, S k → k ≠ w.heap.size ∧ k ≠ w.heap.size + 1)
    (hseq : Gives m F (n - 1) P gf lb encs (fun k => S k ∨ k = w.heap.size + 1) xs (w.heap.size + 2) w) (hps : ∀ x, (encs x).size = ps.size)
    (I : List α → World → Prop) (hI : ∀ s A B, I s A → Mod (fun k => w.heap.size ≤ k ∧ k < w.heap.size + 2 + m) A B → I s B) (h0 : I [] w)
    {β : Type} (Ax : List α → α → β → World → Prop) (hAx : ∀ s x b A B, Ax s x b A → Mod (fun k => k = w.heap.size + 1) A B → Ax s x b B) (a₁ : α → β → Act)
    (hassign : ∀ (l : Nat) (pre : List α) (x : α) (W : World), w.heap.size + 2 + m ≤ W.heap.size → I pre W → (pre ++ [x]) <+: xs →
      assign.wpIn (F.inRound l) (n - 1 - 1) P (Exit.then (fun a' W' => ∃ b, a' = a₁ x b ∧ Mod S W W' ∧ Ax pre x b W') (fun _ _ _ => False)) { tmps := (ps.zip (encs x)).foldl (fun t (p, v) => t.setIfInBounds p v) a.tmps, defers := [] } W)
    (hbody : ∀ (l : Nat) (pre : List α) (x : α) (b : β) (W : World), w.heap.size + 2 + m ≤ W.heap.size → Ax pre x b W → (pre ++ [x]) <+: xs → body.wpIn (F.inRound l) (n - 1 - 1) P (goesOn S W (I (pre ++ [x]))) (a₁ x b) W)
    (hdone : ∀ (W : World), I xs W → W.heap[w.heap.size]? = some (.deferred (some [])) → w.heap.size + 2 ≤ W.heap.size → Q .normal { a with defers := { target := .collected w.heap.size, args := #[] } :: a.defers } W) :
    (Code.rangeFunc g ps assign body).wpIn F n P Q a w := by
  refine wpIn_rangeFunc fun fn hfn => ?_
  rw [hro]
  obtain ⟨rc, hrc⟩ : ∃ rc : LoopState → Loop, rc = fun st => { state := st, pending := none, fn, tmps := a.tmps, params := ps, assign, body, defers := w.heap.size } := ⟨_, rfl⟩
  have hnS1 : ¬ S (w.heap.size + 1) := fun e => (hS _ e).2 rfl
  have hnS0 : ¬ S w.heap.size := fun e => (hS _ e).1 rfl
  have hsz : ((w.alloc (.deferred (some []))).alloc (.loop (rc .ready))).heap.size = w.heap.size + 2 := by simp
  have hM1 : Below w.heap.size w ((w.alloc (.deferred (some []))).alloc (.loop (rc .ready))) := ((Below.refl _ w).alloc (Nat.le_refl _) _).alloc (by simp) _
  have hL1 : ((w.alloc (.deferred (some []))).alloc (.loop (rc .ready))).heap[w.heap.size + 1]? = some (.loop (rc .ready)) := by
    have := World.alloc_heap_new (w.alloc (.deferred (some []))) (.loop (rc .ready))
    rwa [World.size_alloc] at this
  have hK1 : ((w.alloc (.deferred (some []))).alloc (.loop (rc .ready))).heap[w.heap.size]? = some (.deferred (some [])) :=
    (Below.heap_alloc _ _ _ (by simp)).trans (World.alloc_heap_new w _)
  have hrun := run_enterLoop_outer (P := P) (w := w) fn a.tmps ps assign body
  rw [show ({ state := .ready, pending := none, fn, tmps := a.tmps, params := ps, assign, body, defers := w.heap.size } : Loop) = rc .ready by rw [hrc]] at hrun
  generalize (w.alloc (.deferred (some []))).alloc (.loop (rc .ready)) = W1 at *
  refine ⟨w.heap.size + 1, _, W1, { target := .fn (.func gf) lb, args := #[.func (.yield (w.heap.size + 1)) #[] #[]] }, W1, gf, #[.func (.yield (w.heap.size + 1)) #[] #[]] ++ lb, W1, hrun, ?_, ?_, ?_, fun _ => h1, ?_⟩
  · simp only [resolve, hg]
    simp [go_sem]
  · intro f' hf'
    simp [Target.leads] at hf'
    subst hf'
    exact hFg
  · simp [invoke, go_sem, eg]
  · refine (hseq (w.heap.size + 1) (fun s W => I s W ∧ W.heap[w.heap.size + 1]? = some (.loop (rc .ready)) ∧ W.heap[w.heap.size]? = some (.deferred (some []))) W1 hM1 hsz ?stab ?yield ⟨hI _ _ _ h0 (.of_below hM1), hL1, hK1⟩).mono ?post
    case stab =>
      rintro s A B ⟨h1, h2, h3⟩ hm
      exact ⟨hI _ _ _ h1 (hm.mono (fun k _ e => by have e' : w.heap.size + 2 ≤ k ∧ k < w.heap.size + 2 + m := e; show w.heap.size ≤ k ∧ k < w.heap.size + 2 + m; omega)), hm.keeps h2 (fun e => by have e' : w.heap.size + 2 ≤ w.heap.size + 1 ∧ _ := e; omega), hm.keeps h3 (fun e => by have e' : w.heap.size + 2 ≤ w.heap.size ∧ _ := e; omega)⟩
    case yield =>
      rintro pre x W hcm ⟨hi, hl, hk⟩ hpre
      have hy := run_yield (P := P) (args := encs x) hl (by rw [hrc]; exact hps x)
      have hlt := block_lt hl
      refine ⟨_, _, _, _, hy, roundIn_of_wpIn (by rw [hrc]; exact hfn) ?_⟩
      have has := hassign (w.heap.size + 1) pre x W (by omega) hi hpre
      rw [hrc]
      refine wpIn_mono has ?_
      intro e a' W' he
      cases e with
      | normal =>
        obtain ⟨b, rfl, hm, hax⟩ := he
        have hl' := hm.keeps hl hnS1
        have hk' := hm.keeps hk hnS0
        have hlt' := block_lt hl'
        refine ⟨_, run_beginRound hl' (by rw [hrc]), ?_⟩
        have hm2 := Mod.putObj (fun k => k = w.heap.size + 1) W' (w.heap.size + 1) (.loop { rc .ready with state := .busy }) rfl
        have hl2 : (W'.putObj (w.heap.size + 1) (.loop { rc .ready with state := .busy })).heap[w.heap.size + 1]? = some (.loop { rc .ready with state := .busy }) := World.putObj_heap_same hlt'
        have hk2 := hm2.keeps hk' (by show ¬ w.heap.size = w.heap.size + 1; omega)
        refine wpIn_mono (hbody _ pre x b _ (Nat.le_trans (Nat.le_trans (by omega) hm.size) hm2.size) (hAx _ _ _ _ _ hax hm2) hpre) ?_
        intro e a3 W3 he
        cases e with
        | normal =>
          obtain ⟨hm3, hi3⟩ := he
          have hl3 := hm3.keeps hl2 hnS1
          have hk3 := hm3.keeps hk2 hnS0
          have hlt3 := block_lt hl3
          have hm4 := Mod.putObj (fun k => k = w.heap.size + 1) W3 (w.heap.size + 1) (.loop { { rc .ready with state := .busy } with state := .ready, pending := none }) rfl
          refine ⟨_, _, run_endRound none hl3, rfl, ⟨hI _ _ _ hi3 (hm4.mono (fun k _ e => by have e' : k = w.heap.size + 1 := e; show w.heap.size ≤ k ∧ k < w.heap.size + 2 + m; omega)), ?_, hm4.keeps hk3 (by show ¬ w.heap.size = w.heap.size + 1; omega)⟩, ?_⟩
          · exact (World.putObj_heap_same hlt3).trans (by rw [hrc]; rfl)
          · exact (((hm.mono (fun _ _ e => .inl e)).trans (hm2.mono (fun _ _ e => .inr e))).trans (hm3.mono (fun _ _ e => .inl e))).trans (hm4.mono (fun _ _ e => .inr e))
        | _ => exact he.elim
      | _ => exact he.elim
    case post =>
      rintro e W2 ⟨⟨v, rfl⟩, hi, hl, hk⟩
      have hlt := block_lt hl
      have hm4 := Mod.putObj (fun k => k = w.heap.size + 1) W2 (w.heap.size + 1) (.loop { rc .ready with state := .exhausted }) rfl
      refine ⟨none, _, ?_, hdone _ (hI _ _ _ hi (hm4.mono (fun k _ e => by have e' : k = w.heap.size + 1 := e; show w.heap.size ≤ k ∧ k < w.heap.size + 2 + m; omega))) (hm4.keeps hk (by show ¬ w.heap.size = w.heap.size + 1; omega)) (by have := hm4.size; omega)⟩
      have := run_endLoop (P := P) hl (by rw [hrc]; simp)
      rw [this, hrc]
/-- Where no loop variable is boxed. -/
theorem range_all1 {m : Nat} {F : Fence} {n : Nat} {P : Program} {α : Type} {g : Operand} {ps : Array Tmp} {assign body : Code} {Q : Exit → Act → World → Prop} {a : Act} {w : World}
    (hro : F.round = none) (h1 : 1 ≤ n) {gf : Nat} {lb : Array Value} (hg : a.eval g = .func (.func gf) #[] lb) (hFg : F.fn gf) (eg : ∀ args w, (callFunc gf args).run P w = .ok (.enter gf args) w)
    {encs : α → Array Value} {xs : List α} (S : Nat → Prop) (hS : ∀ k, S k → k ≠ w.heap.size ∧ k ≠ w.heap.size + 1)
    (hseq : Gives m F (n - 1) P gf lb encs (fun k => S k ∨ k = w.heap.size + 1) xs (w.heap.size + 2) w) (hps : ∀ x, (encs x).size = ps.size)
    (I : List α → World → Prop) (hI : ∀ s A B, I s A → Mod (fun k => w.heap.size ≤ k ∧ k < w.heap.size + 2 + m) A B → I s B) (h0 : I [] w)
    (Ax : List α → α → World → Prop) (hAx : ∀ s x A B, Ax s x A → Mod (fun k => k = w.heap.size + 1) A B → Ax s x B) (a₁ : α → Act)
    (hassign : ∀ (l : Nat) (pre : List α) (x : α) (W : World) (K : Act → World → Prop), w.heap.size + 2 + m ≤ W.heap.size → I pre W → (pre ++ [x]) <+: xs → (∀ W', Mod S W W' → Ax pre x W' → K (a₁ x) W') →
      assign.wpIn (F.inRound l) (n - 1 - 1) P (Exit.then K (fun _ _ _ => False)) { tmps := (ps.zip (encs x)).foldl (fun t (p, v) => t.setIfInBounds p v) a.tmps, defers := [] } W)
    (hbody : ∀ (l : Nat) (pre : List α) (x : α) (W : World), w.heap.size + 2 + m ≤ W.heap.size → Ax pre x W → (pre ++ [x]) <+: xs → body.wpIn (F.inRound l) (n - 1 - 1) P (goesOn S W (I (pre ++ [x]))) (a₁ x) W)
    (hdone : ∀ (W : World), I xs W → W.heap[w.heap.size]? = some (.deferred (some [])) → w.heap.size + 2 ≤ W.heap.size → Q .normal { a with defers := { target := .collected w.heap.size, args := #[] } :: a.defers } W) :
    (Code.rangeFunc g ps assign body).wpIn F n P Q a w :=
  range_all hro h1 hg hFg eg S hS hseq hps I hI h0 (fun s x (_ : Unit) W => Ax s x W) (fun s x _ A B => hAx s x A B) (fun x _ => a₁ x)
    (fun l pre x W h1 h2 h3 => hassign l pre x W _ h1 h2 h3 (fun W' hm ha => ⟨(), rfl, hm, ha⟩))
    (fun l pre x _ W h1 h2 h3 => hbody l pre x W h1 h2 h3) hdone
/-- Where the loop variables are boxed: what stands behind the assignment is told by a variable. -/
theorem range_all2 {m : Nat} {F : Fence} {n : Nat} {P : Program} {α : Type} {g : Operand} {ps : Array Tmp} {assign body : Code} {Q : Exit → Act → World → Prop} {a : Act} {w : World}
    (hro : F.round = none) (h1 : 1 ≤ n) {gf : Nat} {lb : Array Value} (hg : a.eval g = .func (.func gf) #[] lb) (hFg : F.fn gf) (eg : ∀ args w, (callFunc gf args).run P w = .ok (.enter gf args) w)
    {encs : α → Array Value} {xs : List α} (S : Nat → Prop) (hS : ∀ k, S k → k ≠ w.heap.size ∧ k ≠ w.heap.size + 1)
    (hseq : Gives m F (n - 1) P gf lb encs (fun k => S k ∨ k = w.heap.size + 1) xs (w.heap.size + 2) w) (hps : ∀ x, (encs x).size = ps.size)
    (I : List α → World → Prop) (hI : ∀ s A B, I s A → Mod (fun k => w.heap.size ≤ k ∧ k < w.heap.size + 2 + m) A B → I s B) (h0 : I [] w)
    {β : Type} (Ax : List α → α → β → World → Prop) (hAx : ∀ s x b A B, Ax s x b A → Mod (fun k => k = w.heap.size + 1) A B → Ax s x b B) (a₁ : α → β → Act)
    (hassign : ∀ (l : Nat) (pre : List α) (x : α) (W : World) (K : Act → World → Prop), w.heap.size + 2 + m ≤ W.heap.size → I pre W → (pre ++ [x]) <+: xs → (∀ b W', Mod S W W' → Ax pre x b W' → K (a₁ x b) W') →
      assign.wpIn (F.inRound l) (n - 1 - 1) P (Exit.then K (fun _ _ _ => False)) { tmps := (ps.zip (encs x)).foldl (fun t (p, v) => t.setIfInBounds p v) a.tmps, defers := [] } W)
    (hbody : ∀ (l : Nat) (pre : List α) (x : α) (b : β) (W : World), w.heap.size + 2 + m ≤ W.heap.size → Ax pre x b W → (pre ++ [x]) <+: xs → body.wpIn (F.inRound l) (n - 1 - 1) P (goesOn S W (I (pre ++ [x]))) (a₁ x b) W)
    (hdone : ∀ (W : World), I xs W → W.heap[w.heap.size]? = some (.deferred (some [])) → w.heap.size + 2 ≤ W.heap.size → Q .normal { a with defers := { target := .collected w.heap.size, args := #[] } :: a.defers } W) :
    (Code.rangeFunc g ps assign body).wpIn F n P Q a w :=
  range_all hro h1 hg hFg eg S hS hseq hps I hI h0 Ax hAx a₁
    (fun l pre x W h1 h2 h3 => hassign l pre x W _ h1 h2 h3 (fun b W' hm ha => ⟨b, rfl, hm, ha⟩)) hbody hdone
end Go.Proofs.YtfflacggaebonaaGreatDoor
end
