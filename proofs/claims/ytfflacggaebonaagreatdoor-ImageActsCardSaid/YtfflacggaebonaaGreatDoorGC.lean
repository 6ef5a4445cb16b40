/- M P R Sz Sg Is Ir Sr Sl Ys Shelf Bk Ba -/
import Derived.Test.YtfflacggaebonaaGreatDoorProg
import Derived.Test.YtfflacggaebonaaGreatDoorGA
import Derived.Below
import Derived.WalkKit
import Derived.KernelRfl
import Derived.RowKit3
import Derived.OwnWalk
import Derived.Tactics
import Derived.Outline
import Derived.Laws.Slices
import Derived.Deep.QuietTactic
import Derived.BigQuiet
import Derived.WalkSmall
import Derived.Lib.Hide
import Derived.Deep.RegionHeld3
import Derived.Deep.DeepCutAuto
import Derived.WalkLawsBesides
import Derived.Laws.AppendOwn
import Derived.Maps.AppendAt
import Derived.Deep.AppendLies
import Derived.RangeFuncNested
import Derived.RangeFuncBound
import Derived.RangeFuncCalls
import Derived.RangeFuncLeaves
import Derived.RangeFuncBox
import Derived.Shelf.Abstract
import Derived.Shelf.RegionOpen
import Derived.OwnWalkIn
import Derived.TacticsInMore
import Derived.LoopNIn
import Derived.LoopIn
import Derived.Shelf.Strconv.Itoa0
import Derived.Ground.Names2Prog
import Derived.Shelf.Slices.Clone
import Derived.Deep.RegionLaw
import Derived.Laws.ResultCell
import Derived.Test.YtfflacggaebonaaGreatDoorGB
section
namespace Go.Proofs.YtfflacggaebonaaGreatDoor
open Go.RowKit
set_option linter.unusedVariables false
set_option linter.unusedSimpArgs false
variable {w w' : World}
theorem ret_int {k : IntKind} {a b : Int} (h : a = b) : Ending.returned (.int k a) = .returned (.int k b) := by rw [h]
theorem retY_bool {a b : Bool} (h : a = b) : Ending.returned (.bool a) = .returned (.bool b) := by rw [h]
theorem drop_at {α : Type} (l : List α) (k : Nat) (d : α) (h : k < l.length) : l.drop k = l.getD k d :: l.drop (k + 1) := by
  rw [List.drop_eq_getElem_cons h]; simp [List.getD, h]
def encI (x : Int) : List Value := [.int .i64 x]
/-- A value is a slice of these numbers. -/
def IntsY (w : World) (v : Value) (l : List Int) : Prop := ∃ A c, v = .slice A l.length c ∧ l.length ≤ c ∧ l.length ≤ maxLen ∧ SliceOf w A 1 encI 0 l
theorem IntsY.on {v : Value} {l : List Int} (h : IntsY w v l) (hb : Below w.heap.size w w') : IntsY w' v l := by
  obtain ⟨A, c, e, h1, h2, h3⟩ := h
  exact ⟨A, c, e, h1, h2, h3.on hb⟩
theorem intsY_of_own {v : Value} {l : List Int} {base : Nat} (h : w.ownsRow base 3 1 v l.length (l.flatMap encI)) (hl : l.length ≤ 1048576) : IntsY w v l := by
  obtain ⟨A, c, rfl, hc, hs⟩ := own_slice encI 0 (fun _ => rfl) h
  exact ⟨A, c, rfl, hc, by unfold maxLen; omega, hs⟩
theorem intsY_at {A : Option Addr} {l : List Int} (h : SliceOf w A 1 encI 0 l) (k : Nat) (hk : k < l.length) : ∃ b o, A = some ⟨b, o, none⟩ ∧ w.cell? ⟨b, o + k, none⟩ = some (.int .i64 (l.getD k 0)) := by
  obtain ⟨b, o, e, h1⟩ := h k hk
  refine ⟨b, o, e, ?_⟩
  have := h1 0 _ rfl
  simpa using this
theorem sameY_any {v1 v2 : Value} {l1 l2 : List Int} (h1 : IntsY w v1 l1) (h2 : IntsY w v2 l2) : Calls Tryz.prog 13 #[v1, v2] w fun e w' => e = .returned (.bool (decide (l1 = l2))) ∧ Below w.heap.size w w' := by
  obtain ⟨A1, c1, rfl, hc1, hm1, hs1⟩ := h1
  obtain ⟨A2, c2, rfl, hc2, hm2, hs2⟩ := h2
  unfold maxLen at hm1 hm2
  have H1 := Lib.hid hs1
  have H2 := Lib.hid hs2
  clear hs1 hs2
  by_cases hl : l1.length = l2.length
  · have cl : ((l1.length : Int) != (l2.length : Int)) = false := by simp [hl]
    have HL := Lib.hid hl
    clear hl
    go_enter Tryz.func13, Tryz.ntmps13
    go_wp2
    go_loopw [5] (fun v5 wr => ∃ k : Nat, k ≤ l1.length ∧ v5 = .int .i64 k ∧ Below w.heap.size w wr ∧ Hid (∀ j, j < k → l1.getD j 0 = l2.getD j 0)) (fun v5 _ => l1.length - (intOf v5).toNat)
    case atStart => exact ⟨0, by omega, rfl, Below.refl _ _, Lib.hid (fun j hj => by omega)⟩
    case round =>
      obtain ⟨k, hk, rfl, hB, HT⟩ := hrel
      by_cases hlt : k < l1.length
      · have hlt2 : k < l2.length := HL.out ▸ hlt
        obtain ⟨b1, o1, rfl, hx1⟩ := intsY_at (H1.out.on hB) k hlt
        obtain ⟨b2, o2, rfl, hx2⟩ := intsY_at (H2.out.on hB) k hlt2
        by_cases he : l1.getD k 0 = l2.getD k 0
        · have HR : Hid (∀ j, j < k + 1 → l1.getD j 0 = l2.getD j 0) := Lib.hid (fun j hj => by
            rcases Nat.lt_or_ge j k with g | g
            · exact HT.out j g
            · rw [show j = k by omega]; exact he)
          have ce : (l1.getD k 0 != l2.getD k 0) = false := by rw [he]; simp
          generalize l1.getD k 0 = x1 at *
          generalize l2.getD k 0 = x2 at *
          clear he
          go_wp2
          go_quiet (fail)
          go_wp2
          go_roundw
          case rel => exact ⟨k + 1, by omega, by go_num, below_drewN hB _, HR⟩
          case measure => simp [intOf]; omega
        · have ce : (l1.getD k 0 != l2.getD k 0) = true := by simp only [bne_iff_ne, ne_eq]; exact he
          have HR : Hid (¬ l1 = l2) := Lib.hid (fun e => he (by rw [e]))
          generalize l1.getD k 0 = x1 at *
          generalize l2.getD k 0 = x2 at *
          clear he
          go_wp2
          go_quiet (fail)
          go_wp2
          go_ret
          exact ⟨retY_bool (by rw [decide_eq_false HR.out]), below_drewN hB _⟩
      · obtain rfl : k = l1.length := by omega
        have HR : Hid (l1 = l2) := Lib.hid (List.ext_getElem HL.out (fun i g1 g2 => by have := HT.out i g1; simpa [List.getD, g1, g2] using this))
        go_wp2
        go_ret
        exact ⟨retY_bool (by rw [decide_eq_true HR.out]), hB⟩
  · have cl : ((l1.length : Int) != (l2.length : Int)) = true := by simp; omega
    have HR : Hid (¬ l1 = l2) := Lib.hid (fun e => hl (by rw [e]))
    clear hl
    go_enter Tryz.func13, Tryz.ntmps13
    go_wp2
    go_ret
    exact ⟨retY_bool (by rw [decide_eq_false HR.out]), Below.refl _ _⟩
end Go.Proofs.YtfflacggaebonaaGreatDoor
end
section
namespace Go.Proofs.YtfflacggaebonaaGreatDoor
open Go.RowKit
set_option linter.unusedVariables false
/-- A layout. -/
structure Lay where
  fixed : Int
  refs : List Int
  record : Int
  recs : List Int
def riseGo (size : Int) : Int → List Int → Bool
  | _, [] => true
  | last, p :: t => decide (last < p) && (decide (p < size) && riseGo size p t)
def riseB (l : List Int) (size : Int) : Bool := riseGo size (-1) l
def Lay.nums (x : Lay) : Bool := decide (0 ≤ x.fixed ∧ x.fixed ≤ 64 ∧ 0 ≤ x.record ∧ x.record ≤ 64 ∧ 0 < x.fixed + x.record)
def Lay.right (x : Lay) : Bool := x.nums && (riseB x.refs x.fixed && riseB x.recs x.record)
/-- The size, and the error. -/
def Lay.size (x : Lay) (c : Int) : Int × Int :=
  if x.right = true then (if c < 0 ∨ 1024 < c ∨ (0 < c ∧ x.record = 0) then (0, 3) else if 8192 ≤ x.fixed + c * x.record then (0, 10) else (x.fixed + c * x.record, 0)) else (0, 2)
def Lay.isRef (x : Lay) (p : Int) : Bool := if p < x.fixed then decide (p ∈ x.refs) else decide (((p - x.fixed) % x.record) ∈ x.recs)
def Lay.slots (x : Lay) (c : Nat) : List Int := x.refs ++ (List.range c).flatMap fun r : Nat => x.recs.map fun p => x.fixed + (r : Int) * x.record + p
theorem Lay.slots_succ (x : Lay) (c : Nat) : x.slots (c + 1) = x.slots c ++ x.recs.map fun p => x.fixed + c * x.record + p := by
  unfold Lay.slots
  rw [List.range_succ, List.flatMap_append, List.append_assoc]
  simp
theorem Lay.slots_zero (x : Lay) : x.slots 0 = x.refs := by simp [Lay.slots]
theorem riseGo_all : ∀ (l : List Int) (size last : Int), riseGo size last l = true → l.Pairwise (· < ·) ∧ ∀ p ∈ l, last < p ∧ p < size
  | [], _, _, _ => ⟨.nil, by simp⟩
  | p :: t, size, last, h => by
    simp only [riseGo, Bool.and_eq_true, decide_eq_true_eq] at h
    obtain ⟨h1, h2, h3⟩ := h
    obtain ⟨g1, g2⟩ := riseGo_all t size p h3
    refine ⟨List.pairwise_cons.2 ⟨fun a ha => (g2 a ha).1, g1⟩, fun a ha => ?_⟩
    rcases List.mem_cons.1 ha with rfl | ha
    · exact ⟨h1, h2⟩
    · have := g2 a ha; omega
theorem rise_all {l : List Int} {size : Int} (h : riseB l size = true) : l.Pairwise (· < ·) ∧ ∀ p ∈ l, 0 ≤ p ∧ p < size := by
  obtain ⟨h1, h2⟩ := riseGo_all l size (-1) h
  exact ⟨h1, fun p hp => by have := h2 p hp; omega⟩
theorem sorted_ext : ∀ l1 l2 : List Int, l1.Pairwise (· < ·) → l2.Pairwise (· < ·) → (∀ a, a ∈ l1 ↔ a ∈ l2) → l1 = l2
  | [], [], _, _, _ => rfl
  | [], b :: t, _, _, h => by have := (h b).2 (by simp); simp at this
  | a :: t, [], _, _, h => by have := (h a).1 (by simp); simp at this
  | a :: s, b :: t, h1, h2, h => by
    obtain ⟨p1, q1⟩ := List.pairwise_cons.1 h1
    obtain ⟨p2, q2⟩ := List.pairwise_cons.1 h2
    have e : a = b := by
      rcases List.mem_cons.1 ((h a).1 (by simp)) with e | e
      · exact e
      · rcases List.mem_cons.1 ((h b).2 (by simp)) with g | g
        · exact g.symm
        · have := p2 a e; have := p1 b g; omega
    subst e
    rw [sorted_ext s t q1 q2 (fun c => ⟨fun hc => ?_, fun hc => ?_⟩)]
    · rcases List.mem_cons.1 ((h c).1 (by simp [hc])) with e | e
      · have := p1 c hc; omega
      · exact e
    · rcases List.mem_cons.1 ((h c).2 (by simp [hc])) with e | e
      · have := p2 c hc; omega
      · exact e
theorem Lay.right_out {x : Lay} (h : x.right = true) : 0 ≤ x.fixed ∧ x.fixed ≤ 64 ∧ 0 ≤ x.record ∧ x.record ≤ 64 ∧ 0 < x.fixed + x.record ∧ riseB x.refs x.fixed = true ∧ riseB x.recs x.record = true := by
  unfold Lay.right Lay.nums at h
  simp only [Bool.and_eq_true, decide_eq_true_eq] at h
  obtain ⟨⟨h1, h2, h3, h4, h5⟩, h6, h7⟩ := h
  exact ⟨h1, h2, h3, h4, h5, h6, h7⟩
theorem mul_step (c : Nat) (r : Int) : ((c + 1 : Nat) : Int) * r = c * r + r := by rw [Int.natCast_succ, Int.add_mul, Int.one_mul]
theorem Lay.slots_mem {x : Lay} (h : x.right = true) : ∀ (c : Nat), (0 < c → 0 < x.record) → (x.slots c).Pairwise (· < ·) ∧ ∀ a, a ∈ x.slots c ↔ 0 ≤ a ∧ a < x.fixed + c * x.record ∧ x.isRef a = true
  | 0, _ => by
    obtain ⟨h1, h2, h3, h4, h5, h6, h7⟩ := Lay.right_out h
    obtain ⟨g1, g2⟩ := rise_all h6
    rw [Lay.slots_zero]
    refine ⟨g1, fun a => ⟨fun ha => ?_, fun ⟨ha, hb, hc⟩ => ?_⟩⟩
    · have := g2 a ha
      refine ⟨this.1, by simp; exact this.2, ?_⟩
      unfold Lay.isRef
      rw [if_pos this.2]; exact decide_eq_true ha
    · have hb' : a < x.fixed := by simpa using hb
      unfold Lay.isRef at hc
      rw [if_pos hb'] at hc
      exact of_decide_eq_true hc
  | c + 1, hr => by
    obtain ⟨h1, h2, h3, h4, h5, h6, h7⟩ := Lay.right_out h
    obtain ⟨g1, g2⟩ := rise_all h7
    have hrec := hr (by omega)
    obtain ⟨k1, k2⟩ := Lay.slots_mem h c (fun _ => hrec)
    have hcr : 0 ≤ (c : Int) * x.record := Int.mul_nonneg (by omega) (by omega)
    have hms := mul_step c x.record
    rw [Lay.slots_succ, hms]
    have hdiv : ∀ p, 0 ≤ p → p < x.record → (x.fixed + c * x.record + p - x.fixed) % x.record = p := fun p hp hq => by
      rw [show x.fixed + c * x.record + p - x.fixed = p + c * x.record by omega, Int.add_mul_emod_self_right]
      exact Int.emod_eq_of_lt hp hq
    generalize hcc : (c : Int) * x.record = m at *
    refine ⟨List.pairwise_append.2 ⟨k1, ?_, fun a ha b hb => ?_⟩, fun a => ⟨fun ha => ?_, fun ⟨ha, hb, hc⟩ => ?_⟩⟩
    · rw [List.pairwise_map]
      exact g1.imp (fun hab => by omega)
    · obtain ⟨p, hp, rfl⟩ := List.mem_map.1 hb
      have := ((k2 a).1 ha).2.1
      have := g2 p hp
      omega
    · rcases List.mem_append.1 ha with ha | ha
      · have := (k2 a).1 ha
        exact ⟨this.1, by omega, this.2.2⟩
      · obtain ⟨p, hp, rfl⟩ := List.mem_map.1 ha
        have := g2 p hp
        refine ⟨by omega, by omega, ?_⟩
        unfold Lay.isRef
        rw [if_neg (by omega), hdiv p this.1 this.2]
        exact decide_eq_true hp
    · by_cases hlt : a < x.fixed + m
      · exact List.mem_append_left _ ((k2 a).2 ⟨ha, hlt, hc⟩)
      · refine List.mem_append_right _ (List.mem_map.2 ⟨a - (x.fixed + m), ?_, by omega⟩)
        unfold Lay.isRef at hc
        rw [if_neg (by omega)] at hc
        have := hdiv (a - (x.fixed + m)) (by omega) (by omega)
        rw [show x.fixed + m + (a - (x.fixed + m)) - x.fixed = a - x.fixed by omega] at this
        rw [this] at hc
        exact of_decide_eq_true hc
/-- The places up to n that are references. -/
def Lay.upTo (x : Lay) (n : Nat) : List Int := ((List.range n).map fun i : Nat => (i : Int)).filter fun a => x.isRef a
theorem Lay.upTo_succ (x : Lay) (n : Nat) : x.upTo (n + 1) = x.upTo n ++ (if x.isRef n = true then [(n : Int)] else []) := by
  unfold Lay.upTo
  rw [List.range_succ, List.map_append, List.filter_append]
  congr 1
  simp only [List.map_cons, List.map_nil, List.filter]
  cases x.isRef n <;> rfl
theorem Lay.upTo_le (x : Lay) (n : Nat) : (x.upTo n).length ≤ n := by
  have := List.length_filter_le (fun a => x.isRef a) ((List.range n).map fun i : Nat => (i : Int))
  unfold Lay.upTo
  simpa using this
theorem Lay.slots_upTo {x : Lay} (h : x.right = true) (c n : Nat) (hr : 0 < c → 0 < x.record) (hn : (n : Int) = x.fixed + c * x.record) : x.slots c = x.upTo n := by
  obtain ⟨h1, h2⟩ := Lay.slots_mem h c hr
  refine sorted_ext _ _ h1 ?_ (fun a => ?_)
  · unfold Lay.upTo
    refine List.Pairwise.filter _ ?_
    rw [List.pairwise_map]
    exact List.pairwise_lt_range.imp (fun hab => by omega)
  · rw [h2]
    unfold Lay.upTo
    rw [List.mem_filter, List.mem_map]
    constructor
    · rintro ⟨g1, g2, g3⟩
      exact ⟨⟨a.toNat, by rw [List.mem_range]; omega, by omega⟩, g3⟩
    · rintro ⟨⟨i, hi, rfl⟩, g3⟩
      rw [List.mem_range] at hi
      exact ⟨by omega, by omega, g3⟩
end Go.Proofs.YtfflacggaebonaaGreatDoor
end
section
namespace Go.Proofs.YtfflacggaebonaaGreatDoor
open Go.RowKit
set_option linter.unusedVariables false
set_option linter.unusedSimpArgs false
variable {w w' : World}
theorem rise_more {l : List Int} {size : Int} {k : Nat} {last : Int} (h : riseGo size last (l.drop k) = riseB l size) (hk : k < l.length) (h1 : last < l.getD k 0) (h2 : l.getD k 0 < size) : riseGo size (l.getD k 0) (l.drop (k + 1)) = riseB l size := by
  rw [← h, drop_at l k 0 hk]
  simp only [riseGo]
  rw [decide_eq_true h1, decide_eq_true h2]; rfl
theorem rise_out {l : List Int} {size : Int} {k : Nat} {last : Int} (h : riseGo size last (l.drop k) = riseB l size) (hk : k < l.length) (h1 : ¬ (last < l.getD k 0) ∨ ¬ (l.getD k 0 < size)) : riseB l size = false := by
  rw [← h, drop_at l k 0 hk]
  simp only [riseGo]
  rcases h1 with h1 | h1
  · rw [decide_eq_false h1]; rfl
  · rw [decide_eq_false h1]; simp
theorem rise_end {l : List Int} {size : Int} {last : Int} (h : riseGo size last (l.drop l.length) = riseB l size) : riseB l size = true := by
  rw [← h, List.drop_length]; rfl
theorem refrise_any (A : Option Addr) (l : List Int) (c : Nat) (size : Int) (w : World) (hl : SliceOf w A 1 encI 0 l) (hc : l.length ≤ maxLen) :
    Calls Tryz.prog 54 #[.slice A l.length c, .int .i64 size] w fun e w' => e = .returned (.bool (riseB l size)) ∧ Below w.heap.size w w' := by
  unfold maxLen at hc
  have HL := Lib.hid hl
  clear hl
  go_enter Tryz.func54, Tryz.ntmps54
  go_wp2
  go_loopw [5, 6] (fun v5 v6 wr => ∃ (last : Int) (k : Nat), k ≤ l.length ∧ v5 = .int .i64 last ∧ v6 = .int .i64 k ∧ Hid (riseGo size last (l.drop k) = riseB l size) ∧ wr = w) (fun _ v6 _ => l.length - (intOf v6).toNat)
  case atStart => exact ⟨-1, 0, by omega, rfl, rfl, Lib.hid rfl, rfl⟩
  case round =>
    obtain ⟨last, k, hk, rfl, rfl, HR, rfl⟩ := hrel
    by_cases hlt : k < l.length
    · obtain ⟨b, o, rfl, hx⟩ := intsY_at HL.out k hlt
      by_cases h1 : last < l.getD k 0
      · by_cases h2 : l.getD k 0 < size
        · have HR2 := Lib.hid (rise_more HR.out hlt h1 h2)
          generalize l.getD k 0 = p at *
          have d1 : decide (p ≤ last) = false := decide_eq_false (by omega)
          have d2 : decide (size ≤ p) = false := decide_eq_false (by omega)
          clear h1 h2
          go_wp2
          go_roundw
          case rel => exact ⟨p, k + 1, by omega, rfl, by go_num, HR2, trivial⟩
          case measure => simp [intOf]; omega
        · have HR2 := Lib.hid (rise_out HR.out hlt (.inr h2))
          generalize l.getD k 0 = p at *
          have d1 : decide (p ≤ last) = false := decide_eq_false (by omega)
          have d2 : decide (size ≤ p) = true := decide_eq_true (by omega)
          clear h1 h2
          go_wp2
          go_ret
          exact ⟨retY_bool HR2.out.symm, Below.refl _ _⟩
      · have HR2 := Lib.hid (rise_out HR.out hlt (.inl h1))
        generalize l.getD k 0 = p at *
        have d1 : decide (p ≤ last) = true := decide_eq_true (by omega)
        clear h1
        go_wp2
        go_ret
        exact ⟨retY_bool HR2.out.symm, Below.refl _ _⟩
    · obtain rfl : k = l.length := by omega
      have HR2 := Lib.hid (rise_end HR.out)
      go_wp2
      go_ret
      exact ⟨retY_bool HR2.out.symm, Below.refl _ _⟩
def prevOf (l : List Int) (k : Nat) : Int := if k = 0 then -1 else l.getD (k - 1) 0
theorem rises_any (A : Option Addr) (l : List Int) (c : Nat) (size : Int) (w : World) (hl : SliceOf w A 1 encI 0 l) (hc : l.length ≤ maxLen) :
    Calls Tryz.prog 79 #[.slice A l.length c, .int .i64 size] w fun e w' => e = .returned (.bool (riseB l size)) ∧ Below w.heap.size w w' := by
  unfold maxLen at hc
  have HL := Lib.hid hl
  clear hl
  go_enter Tryz.func79, Tryz.ntmps79
  go_wp2
  go_loopw [9] (fun v9 wr => ∃ k : Nat, k ≤ l.length ∧ v9 = .int .i64 k ∧ Hid (-1 ≤ prevOf l k ∧ riseGo size (prevOf l k) (l.drop k) = riseB l size) ∧ wr = w) (fun v9 _ => l.length - (intOf v9).toNat)
  case atStart => exact ⟨0, by omega, rfl, Lib.hid ⟨by simp [prevOf], by simp [prevOf]; rfl⟩, rfl⟩
  case round =>
    obtain ⟨k, hk, rfl, HR, rfl⟩ := hrel
    by_cases hlt : k < l.length
    · obtain ⟨b, o, rfl, hx⟩ := intsY_at HL.out k hlt
      have hnext : prevOf l (k + 1) = l.getD k 0 := by simp [prevOf]
      by_cases h1 : prevOf l k < l.getD k 0
      · have h0 := HR.out.1
        by_cases h2 : l.getD k 0 < size
        · have HR2 : Hid (-1 ≤ prevOf l (k + 1) ∧ riseGo size (prevOf l (k + 1)) (l.drop (k + 1)) = riseB l size) := Lib.hid (by rw [hnext]; exact ⟨by omega, rise_more HR.out.2 hlt h1 h2⟩)
          by_cases hk0 : k = 0
          · subst hk0
            rw [Nat.add_zero] at hx
            generalize l.getD 0 0 = p at *
            have d1 : decide (p < 0) = false := decide_eq_false (by omega)
            have d2 : decide (size ≤ p) = false := decide_eq_false (by omega)
            clear h1 h2 h0 hnext
            go_wp2
            go_roundw
            case rel => exact ⟨1, by omega, by go_num, HR2, trivial⟩
            case measure => simp [intOf]; omega
          · obtain ⟨j, rfl⟩ : ∃ j, k = j + 1 := ⟨k - 1, by omega⟩
            obtain ⟨_, _, he, hz⟩ := intsY_at HL.out j (by omega)
            cases he
            have hp : prevOf l (j + 1) = l.getD j 0 := by simp [prevOf]
            rw [hp] at h1 h0
            generalize l.getD (j + 1) 0 = p at *
            generalize l.getD j 0 = q at *
            have d1 : decide (p < 0) = false := decide_eq_false (by omega)
            have d2 : decide (size ≤ p) = false := decide_eq_false (by omega)
            have d3 : decide (p ≤ q) = false := decide_eq_false (by omega)
            clear h1 h2 h0 hnext hp
            go_wp2
            go_roundw
            case rel => exact ⟨j + 2, by omega, by go_num, HR2, trivial⟩
            case measure => simp [intOf]; omega
        · have HR2 := Lib.hid (rise_out HR.out.2 hlt (.inr h2))
          generalize l.getD k 0 = p at *
          have d1 : decide (p < 0) = false := decide_eq_false (by omega)
          have d2 : decide (size ≤ p) = true := decide_eq_true (by omega)
          clear h1 h2 h0 hnext
          go_wp2
          go_ret
          exact ⟨retY_bool HR2.out.symm, Below.refl _ _⟩
      · have HR2 := Lib.hid (rise_out HR.out.2 hlt (.inl h1))
        by_cases hneg : l.getD k 0 < 0
        · generalize l.getD k 0 = p at *
          have d1 : decide (p < 0) = true := decide_eq_true hneg
          clear h1 hneg hnext
          go_wp2
          go_ret
          exact ⟨retY_bool HR2.out.symm, Below.refl _ _⟩
        · by_cases h2 : l.getD k 0 < size
          · have hk0 : k ≠ 0 := fun e => by subst e; rw [show prevOf l 0 = -1 from rfl] at h1; omega
            obtain ⟨j, rfl⟩ : ∃ j, k = j + 1 := ⟨k - 1, by omega⟩
            obtain ⟨_, _, he, hz⟩ := intsY_at HL.out j (by omega)
            cases he
            have hp : prevOf l (j + 1) = l.getD j 0 := by simp [prevOf]
            rw [hp] at h1
            generalize l.getD (j + 1) 0 = p at *
            generalize l.getD j 0 = q at *
            have d1 : decide (p < 0) = false := decide_eq_false hneg
            have d2 : decide (size ≤ p) = false := decide_eq_false (by omega)
            have d3 : decide (p ≤ q) = true := decide_eq_true (by omega)
            clear h1 h2 hneg hnext hp hk0
            go_wp2
            go_ret
            exact ⟨retY_bool HR2.out.symm, Below.refl _ _⟩
          · generalize l.getD k 0 = p at *
            have d1 : decide (p < 0) = false := decide_eq_false hneg
            have d2 : decide (size ≤ p) = true := decide_eq_true (by omega)
            clear h1 h2 hneg hnext
            go_wp2
            go_ret
            exact ⟨retY_bool HR2.out.symm, Below.refl _ _⟩
    · obtain rfl : k = l.length := by omega
      have HR2 := Lib.hid (rise_end HR.out.2)
      go_wp2
      go_ret
      exact ⟨retY_bool HR2.out.symm, Below.refl _ _⟩
end Go.Proofs.YtfflacggaebonaaGreatDoor
end
section
namespace Go.Proofs.YtfflacggaebonaaGreatDoor
open Go.RowKit
set_option linter.unusedVariables false
set_option linter.unusedSimpArgs false
variable {w w' : World}
/-- A layout's two slices lie in memory. -/
structure LayIs (w : World) (x : Lay) (A1 : Option Addr) (c1 : Nat) (A2 : Option Addr) (c2 : Nat) : Prop where
  h1 : SliceOf w A1 1 encI 0 x.refs
  k1 : x.refs.length ≤ c1
  m1 : x.refs.length ≤ maxLen
  h2 : SliceOf w A2 1 encI 0 x.recs
  k2 : x.recs.length ≤ c2
  m2 : x.recs.length ≤ maxLen
theorem LayIs.on {x : Lay} {A1 A2 : Option Addr} {c1 c2 : Nat} (h : LayIs w x A1 c1 A2 c2) (hb : Below w.heap.size w w') : LayIs w' x A1 c1 A2 c2 := { h with h1 := h.h1.on hb, h2 := h.h2.on hb }
def layV (x : Lay) (A1 : Option Addr) (c1 : Nat) (A2 : Option Addr) (c2 : Nat) : Value := .agg #[.int .i64 x.fixed, .slice A1 x.refs.length c1, .int .i64 x.record, .slice A2 x.recs.length c2]
def layCells (x : Lay) (A1 : Option Addr) (c1 : Nat) (A2 : Option Addr) (c2 : Nat) : Array Value := #[.int .i64 x.fixed, .slice A1 x.refs.length c1, .int .i64 x.record, .slice A2 x.recs.length c2]
set_option maxRecDepth 100000 in
theorem refright_any (x : Lay) (A1 : Option Addr) (c1 : Nat) (A2 : Option Addr) (c2 : Nat) (w : World) (h : LayIs w x A1 c1 A2 c2) :
    Calls Tryz.prog 23 #[layV x A1 c1 A2 c2] w fun e w' => e = .returned (.bool x.right) ∧ Below w.heap.size w w' := by
  have hA : Hid (∀ X, LayIs X x A1 c1 A2 c2 → Calls Tryz.prog 54 #[.slice A1 x.refs.length c1, .int .i64 x.fixed] X fun e w' => e = .returned (.bool (riseB x.refs x.fixed)) ∧ Below X.heap.size X w') := Lib.hid (fun X hX => refrise_any _ _ _ _ X hX.h1 hX.m1)
  have hB : Hid (∀ X, LayIs X x A1 c1 A2 c2 → Calls Tryz.prog 54 #[.slice A2 x.recs.length c2, .int .i64 x.record] X fun e w' => e = .returned (.bool (riseB x.recs x.record)) ∧ Below X.heap.size X w') := Lib.hid (fun X hX => refrise_any _ _ _ _ X hX.h2 hX.m2)
  have hb0 := below1 w (.cells #[.int .i64 x.fixed, .slice A1 x.refs.length c1, .int .i64 x.record, .slice A2 x.recs.length c2] 64)
  have HL := Lib.hid (h.on hb0)
  have HB0 := Lib.hid hb0
  have hblk := heap_alloc_new w (.cells #[.int .i64 x.fixed, .slice A1 x.refs.length c1, .int .i64 x.record, .slice A2 x.recs.length c2] 64)
  have HBK := Lib.hid hblk
  clear h hb0 hblk
  unfold layV
  by_cases f0 : x.fixed < 0
  · have q : Hid (x.right = false) := Lib.hid (by unfold Lay.right Lay.nums; rw [decide_eq_false (by omega)]; rfl)
    generalize x.right = rr at *
    generalize x.fixed = F at *
    generalize x.record = R at *
    have d0 : decide (F < 0) = true := decide_eq_true f0
    clear f0
    go_enter Tryz.func23, Tryz.ntmps23
    go_wp2_with fail
    go_ret
    exact ⟨retY_bool q.out.symm, HB0.out⟩
  · by_cases f1 : 64 < x.fixed
    · have q : Hid (x.right = false) := Lib.hid (by unfold Lay.right Lay.nums; rw [decide_eq_false (by omega)]; rfl)
      generalize x.right = rr at *
      generalize x.fixed = F at *
      generalize x.record = R at *
      have d0 : decide (F < 0) = false := decide_eq_false f0
      have d1 : decide (64 < F) = true := decide_eq_true f1
      clear f0 f1
      go_enter Tryz.func23, Tryz.ntmps23
      go_wp2_with fail
      go_ret
      exact ⟨retY_bool q.out.symm, HB0.out⟩
    · by_cases f2 : x.record < 0
      · have q : Hid (x.right = false) := Lib.hid (by unfold Lay.right Lay.nums; rw [decide_eq_false (by omega)]; rfl)
        generalize x.right = rr at *
        generalize x.fixed = F at *
        generalize x.record = R at *
        have d0 : decide (F < 0) = false := decide_eq_false f0
        have d1 : decide (64 < F) = false := decide_eq_false f1
        have d2 : decide (R < 0) = true := decide_eq_true f2
        clear f0 f1 f2
        go_enter Tryz.func23, Tryz.ntmps23
        go_wp2_with fail
        go_ret
        exact ⟨retY_bool q.out.symm, HB0.out⟩
      · by_cases f3 : 64 < x.record
        · have q : Hid (x.right = false) := Lib.hid (by unfold Lay.right Lay.nums; rw [decide_eq_false (by omega)]; rfl)
          generalize x.right = rr at *
          generalize x.fixed = F at *
          generalize x.record = R at *
          have d0 : decide (F < 0) = false := decide_eq_false f0
          have d1 : decide (64 < F) = false := decide_eq_false f1
          have d2 : decide (R < 0) = false := decide_eq_false f2
          have d3 : decide (64 < R) = true := decide_eq_true f3
          clear f0 f1 f2 f3
          go_enter Tryz.func23, Tryz.ntmps23
          go_wp2_with fail
          go_ret
          exact ⟨retY_bool q.out.symm, HB0.out⟩
        · have hr : x.right = (riseB x.refs x.fixed && riseB x.recs x.record && decide (0 < x.fixed + x.record)) := by
            have e : x.nums = decide (0 < x.fixed + x.record) := decide_eq_decide.2 (by omega)
            unfold Lay.right
            rw [e]
            generalize decide (0 < x.fixed + x.record) = z
            cases riseB x.refs x.fixed <;> cases riseB x.recs x.record <;> cases z <;> rfl
          have q := Lib.hid hr
          clear hr
          generalize hR1 : riseB x.refs x.fixed = ra at *
          generalize hR2 : riseB x.recs x.record = rb at *
          clear hR1 hR2
          generalize x.right = rr at *
          generalize x.fixed = F at *
          generalize x.record = R at *
          have d0 : decide (F < 0) = false := decide_eq_false f0
          have d1 : decide (64 < F) = false := decide_eq_false f1
          have d2 : decide (R < 0) = false := decide_eq_false f2
          have d3 : decide (64 < R) = false := decide_eq_false f3
          have d5 : decide (0 < F + R) = (decide (0 < F) || decide (0 < R)) := by
            by_cases g1 : 0 < F
            · rw [decide_eq_true g1, decide_eq_true (by omega)]; rfl
            · by_cases g2 : 0 < R
              · rw [decide_eq_true g2, decide_eq_true (by omega)]; simp
              · rw [decide_eq_false g1, decide_eq_false g2, decide_eq_false (by omega)]; rfl
          rw [d5] at q
          clear d5 f0 f1 f2 f3
          go_enter Tryz.func23, Tryz.ntmps23
          have k0 := (blk_cells HBK.out 0).trans rfl
          have k1 := (blk_cells HBK.out 1).trans rfl
          have k2 := (blk_cells HBK.out 2).trans rfl
          have k3 := (blk_cells HBK.out 3).trans rfl
          go_wp2_with fail
          refine (hA.out _ HL.out).mono ?_
          rintro e w2 ⟨rfl, hb⟩
          have HL2 := Lib.hid (HL.out.on hb)
          have HB2 := Lib.hid (HB0.out.on hb)
          have g2 := cell_on hb k2
          have g3 := cell_on hb k3
          have g0 := cell_on hb k0
          clear hb k0 k1 k2 k3
          go_wp2_with fail
          refine (hB.out _ HL2.out).mono ?_
          rintro e w3 ⟨rfl, hb⟩
          have HB3 := Lib.hid (HB2.out.on hb)
          have m2 := cell_on hb g2
          have m0 := cell_on hb g0
          clear hb g2 g3 g0
          cases ra <;> cases rb
          all_goals
            clear hA hB HL2 HBK HL
            go_wp2
            all_goals
              go_ret
              exact ⟨retY_bool (by rw [q.out]; first | (simp; done) | (simp [*]; done) | trace_state), HB3.out⟩
set_option maxRecDepth 100000 in
theorem right_lay (x : Lay) (A1 : Option Addr) (c1 : Nat) (A2 : Option Addr) (c2 : Nat) (w : World) (h : LayIs w x A1 c1 A2 c2) :
    Calls Tryz.prog 55 #[layV x A1 c1 A2 c2] w fun e w' => e = .returned (.bool x.right) ∧ Below w.heap.size w w' := by
  have hA : Hid (∀ X, LayIs X x A1 c1 A2 c2 → Calls Tryz.prog 79 #[.slice A1 x.refs.length c1, .int .i64 x.fixed] X fun e w' => e = .returned (.bool (riseB x.refs x.fixed)) ∧ Below X.heap.size X w') := Lib.hid (fun X hX => rises_any _ _ _ _ X hX.h1 hX.m1)
  have hB : Hid (∀ X, LayIs X x A1 c1 A2 c2 → Calls Tryz.prog 79 #[.slice A2 x.recs.length c2, .int .i64 x.record] X fun e w' => e = .returned (.bool (riseB x.recs x.record)) ∧ Below X.heap.size X w') := Lib.hid (fun X hX => rises_any _ _ _ _ X hX.h2 hX.m2)
  have hb0 := below1 w (.cells #[.int .i64 x.fixed, .slice A1 x.refs.length c1, .int .i64 x.record, .slice A2 x.recs.length c2] 64)
  have HL := Lib.hid (h.on hb0)
  have HB0 := Lib.hid hb0
  have hblk := heap_alloc_new w (.cells #[.int .i64 x.fixed, .slice A1 x.refs.length c1, .int .i64 x.record, .slice A2 x.recs.length c2] 64)
  have HBK := Lib.hid hblk
  clear h hb0 hblk
  unfold layV
  by_cases f0 : x.fixed < 0
  · have q : Hid (x.right = false) := Lib.hid (by unfold Lay.right Lay.nums; rw [decide_eq_false (by omega)]; rfl)
    generalize x.right = rr at *
    generalize x.fixed = F at *
    generalize x.record = R at *
    have d0 : decide (F < 0) = true := decide_eq_true f0
    clear f0
    go_enter Tryz.func55, Tryz.ntmps55
    go_wp2_with fail
    go_ret
    exact ⟨retY_bool q.out.symm, HB0.out⟩
  · by_cases f1 : 64 < x.fixed
    · have q : Hid (x.right = false) := Lib.hid (by unfold Lay.right Lay.nums; rw [decide_eq_false (by omega)]; rfl)
      generalize x.right = rr at *
      generalize x.fixed = F at *
      generalize x.record = R at *
      have d0 : decide (F < 0) = false := decide_eq_false f0
      have d1 : decide (64 < F) = true := decide_eq_true f1
      clear f0 f1
      go_enter Tryz.func55, Tryz.ntmps55
      go_wp2_with fail
      go_ret
      exact ⟨retY_bool q.out.symm, HB0.out⟩
    · by_cases f2 : x.record < 0
      · have q : Hid (x.right = false) := Lib.hid (by unfold Lay.right Lay.nums; rw [decide_eq_false (by omega)]; rfl)
        generalize x.right = rr at *
        generalize x.fixed = F at *
        generalize x.record = R at *
        have d0 : decide (F < 0) = false := decide_eq_false f0
        have d1 : decide (64 < F) = false := decide_eq_false f1
        have d2 : decide (R < 0) = true := decide_eq_true f2
        clear f0 f1 f2
        go_enter Tryz.func55, Tryz.ntmps55
        go_wp2_with fail
        go_ret
        exact ⟨retY_bool q.out.symm, HB0.out⟩
      · by_cases f3 : 64 < x.record
        · have q : Hid (x.right = false) := Lib.hid (by unfold Lay.right Lay.nums; rw [decide_eq_false (by omega)]; rfl)
          generalize x.right = rr at *
          generalize x.fixed = F at *
          generalize x.record = R at *
          have d0 : decide (F < 0) = false := decide_eq_false f0
          have d1 : decide (64 < F) = false := decide_eq_false f1
          have d2 : decide (R < 0) = false := decide_eq_false f2
          have d3 : decide (64 < R) = true := decide_eq_true f3
          clear f0 f1 f2 f3
          go_enter Tryz.func55, Tryz.ntmps55
          go_wp2_with fail
          go_ret
          exact ⟨retY_bool q.out.symm, HB0.out⟩
        · by_cases f4 : x.fixed + x.record = 0
          · have q : Hid (x.right = false) := Lib.hid (by unfold Lay.right Lay.nums; rw [decide_eq_false (by omega)]; rfl)
            have HW : Hid (IntKind.i64.wrap (x.fixed + x.record) = 0) := Lib.hid (by rw [f4]; decide)
            generalize x.right = rr at *
            generalize x.fixed = F at *
            generalize x.record = R at *
            have d0 : decide (F < 0) = false := decide_eq_false f0
            have d1 : decide (64 < F) = false := decide_eq_false f1
            have d2 : decide (R < 0) = false := decide_eq_false f2
            have d3 : decide (64 < R) = false := decide_eq_false f3
            obtain rfl : R = 0 := by omega
            obtain rfl : F = 0 := by omega
            clear f0 f1 f2 f3 f4
            go_enter Tryz.func55, Tryz.ntmps55
            go_wp2_with fail
            go_ret
            exact ⟨retY_bool q.out.symm, HB0.out⟩
          · have hr : x.right = (riseB x.refs x.fixed && riseB x.recs x.record) := by
              unfold Lay.right Lay.nums
              rw [decide_eq_true (by omega)]; rfl
            have q := Lib.hid hr
            clear hr
            generalize hR1 : riseB x.refs x.fixed = ra at *
            generalize hR2 : riseB x.recs x.record = rb at *
            clear hR1 hR2
            generalize x.right = rr at *
            generalize x.fixed = F at *
            generalize x.record = R at *
            have d0 : decide (F < 0) = false := decide_eq_false f0
            have d1 : decide (64 < F) = false := decide_eq_false f1
            have d2 : decide (R < 0) = false := decide_eq_false f2
            have d3 : decide (64 < R) = false := decide_eq_false f3
            have d4 : (F + R == 0) = false := by simpa using f4
            clear f4
            go_enter Tryz.func55, Tryz.ntmps55
            have k0 := (blk_cells HBK.out 0).trans rfl
            have k1 := (blk_cells HBK.out 1).trans rfl
            have k2 := (blk_cells HBK.out 2).trans rfl
            have k3 := (blk_cells HBK.out 3).trans rfl
            go_wp2_with fail
            refine (hA.out _ HL.out).mono ?_
            rintro e w2 ⟨rfl, hb⟩
            have HL2 := Lib.hid (HL.out.on hb)
            have HB2 := Lib.hid (HB0.out.on hb)
            have g2 := cell_on hb k2
            have g3 := cell_on hb k3
            clear hb k0 k1 k2 k3
            cases ra
            · go_wp2
              go_ret
              exact ⟨retY_bool (by rw [q.out]; rfl), HB2.out⟩
            · go_wp2_with fail
              refine (hB.out _ HL2.out).mono ?_
              rintro e w3 ⟨rfl, hb⟩
              have HB3 := Lib.hid (HB2.out.on hb)
              clear hb g2 g3
              cases rb
              all_goals
                go_wp2
                go_ret
                exact ⟨retY_bool (by rw [q.out]; rfl), HB3.out⟩
end Go.Proofs.YtfflacggaebonaaGreatDoor
end
section
namespace Go.Proofs.YtfflacggaebonaaGreatDoor
open Go.RowKit
set_option linter.unusedVariables false
set_option linter.unusedSimpArgs false
variable {w w' : World}
set_option maxRecDepth 100000 in
theorem size_any (x : Lay) (c : Int) (A1 : Option Addr) (c1 : Nat) (A2 : Option Addr) (c2 : Nat) (w : World) (h : LayIs w x A1 c1 A2 c2) :
    Calls Tryz.prog 69 #[layV x A1 c1 A2 c2, .int .i64 c] w fun e w' => e = .returned (.tuple #[.int .i64 (x.size c).1, .int .i64 (x.size c).2]) ∧ Below w.heap.size w w' := by
  have hA : Hid (∀ X, LayIs X x A1 c1 A2 c2 → Calls Tryz.prog 55 #[.agg #[.int .i64 x.fixed, .slice A1 x.refs.length c1, .int .i64 x.record, .slice A2 x.recs.length c2]] X fun e w' => e = .returned (.bool x.right) ∧ Below X.heap.size X w') := Lib.hid (fun X hX => right_lay _ _ _ _ _ X hX)
  have hb0 := below1 w (.cells #[.int .i64 x.fixed, .slice A1 x.refs.length c1, .int .i64 x.record, .slice A2 x.recs.length c2] 64)
  have HL := Lib.hid (h.on hb0)
  have HB0 := Lib.hid hb0
  have hblk := heap_alloc_new w (.cells #[.int .i64 x.fixed, .slice A1 x.refs.length c1, .int .i64 x.record, .slice A2 x.recs.length c2] 64)
  have k0 := (blk_cells hblk 0).trans rfl
  have k1 := (blk_cells hblk 1).trans rfl
  have k2 := (blk_cells hblk 2).trans rfl
  have k3 := (blk_cells hblk 3).trans rfl
  clear h hb0 hblk
  unfold layV
  have hbnd : x.right = true → 0 ≤ x.fixed ∧ x.fixed ≤ 64 ∧ 0 ≤ x.record ∧ x.record ≤ 64 := fun h => by
    have := Lay.right_out h; omega
  obtain ⟨res, hres⟩ : ∃ res, res = x.size c := ⟨_, rfl⟩
  rw [← hres]
  obtain ⟨s1, s2⟩ := res
  simp only
  have hres' := hres
  unfold Lay.size at hres'
  cases hr : x.right with
  | false =>
    rw [hr, if_neg (by decide)] at hres'
    cases hres'
    rw [hr] at hA
    clear hres hbnd
    generalize x.fixed = F at *
    generalize x.record = R at *
    go_enter Tryz.func69, Tryz.ntmps69
    go_wp2_with fail
    refine (hA.out _ HL.out).mono ?_
    rintro e w2 ⟨rfl, hb⟩
    have HB2 := Lib.hid (HB0.out.on hb)
    have g0 := cell_on hb k0
    have g2 := cell_on hb k2
    clear hb k0 k1 k2 k3 hA HL HB0
    go_wp2
    all_goals
      go_ret2
      exact ⟨rfl, HB2.out⟩
  | true =>
    obtain ⟨b0, b1, b2, b3⟩ := hbnd hr
    rw [hr, if_pos rfl] at hres'
    rw [hr] at hA
    clear hres hbnd hr
    generalize x.fixed = F at *
    generalize x.record = R at *
    by_cases e0 : c < 0
    · rw [if_pos (.inl e0)] at hres'
      cases hres'
      have d0 : decide (c < 0) = true := decide_eq_true e0
      clear e0
      go_enter Tryz.func69, Tryz.ntmps69
      go_wp2_with fail
      refine (hA.out _ HL.out).mono ?_
      rintro e w2 ⟨rfl, hb⟩
      have HB2 := Lib.hid (HB0.out.on hb)
      have g0 := cell_on hb k0
      have g2 := cell_on hb k2
      clear hb k0 k1 k2 k3 hA HL HB0
      go_wp2
      all_goals
        go_ret2
        exact ⟨rfl, HB2.out⟩
    · by_cases e1 : 1024 < c
      · rw [if_pos (.inr (.inl e1))] at hres'
        cases hres'
        have d0 : decide (c < 0) = false := decide_eq_false e0
        have d1 : decide (1024 < c) = true := decide_eq_true e1
        clear e0 e1
        go_enter Tryz.func69, Tryz.ntmps69
        go_wp2_with fail
        refine (hA.out _ HL.out).mono ?_
        rintro e w2 ⟨rfl, hb⟩
        have HB2 := Lib.hid (HB0.out.on hb)
        have g0 := cell_on hb k0
        have g2 := cell_on hb k2
        clear hb k0 k1 k2 k3 hA HL HB0
        go_wp2
        all_goals
          go_ret2
          exact ⟨rfl, HB2.out⟩
      · by_cases e2 : 0 < c ∧ R = 0
        · rw [if_pos (.inr (.inr e2))] at hres'
          cases hres'
          have d0 : decide (c < 0) = false := decide_eq_false e0
          have d1 : decide (1024 < c) = false := decide_eq_false e1
          have d2 : decide (0 < c) = true := decide_eq_true e2.1
          obtain rfl : R = 0 := e2.2
          clear e0 e1 e2
          go_enter Tryz.func69, Tryz.ntmps69
          go_wp2_with fail
          refine (hA.out _ HL.out).mono ?_
          rintro e w2 ⟨rfl, hb⟩
          have HB2 := Lib.hid (HB0.out.on hb)
          have g0 := cell_on hb k0
          have g2 := cell_on hb k2
          clear hb k0 k1 k2 k3 hA HL HB0
          go_wp2
          all_goals
            go_ret2
            exact ⟨rfl, HB2.out⟩
        · rw [if_neg (by omega)] at hres'
          have hm0 : 0 ≤ c * R := Int.mul_nonneg (by omega) b2
          have hm1 : c * R ≤ 1024 * 64 := Int.mul_le_mul (by omega) b3 b2 (by omega)
          have hw1 : wrap64 (c * R) = c * R := by unfold wrap64; omega
          have hw2 : wrap64 (F + c * R) = F + c * R := by unfold wrap64; omega
          have hw3 : wrap64 (F + c * R + 1) = F + c * R + 1 := by unfold wrap64; omega
          have hcm : R * c = c * R := Int.mul_comm _ _
          by_cases e3 : 8192 ≤ F + c * R
          · rw [if_pos e3] at hres'
            cases hres'
            have d0 : decide (c < 0) = false := decide_eq_false e0
            have d1 : decide (1024 < c) = false := decide_eq_false e1
            have d3 : decide (8192 ≤ F + c * R) = true := decide_eq_true e3
            have d4 : decide (8192 < F + c * R + 1) = true := decide_eq_true (by omega)
            rcases (by omega : c = 0 ∨ (0 < c ∧ R ≠ 0)) with rfl | ⟨e5, e6⟩
            · simp at e3; omega
            · have d5 : decide (0 < c) = true := decide_eq_true e5
              have d6 : (R == 0) = false := by simpa using e6
              have HW := Lib.hid (And.intro hw1 (And.intro hw2 (And.intro hw3 hcm)))
              clear e0 e1 e2 e3 e5 e6 hm0 hm1 hw1 hw2 hw3 hcm
              go_enter Tryz.func69, Tryz.ntmps69
              go_wp2_with fail
              refine (hA.out _ HL.out).mono ?_
              rintro e w2 ⟨rfl, hb⟩
              have HB2 := Lib.hid (HB0.out.on hb)
              have g0 := cell_on hb k0
              have g2 := cell_on hb k2
              clear hb k0 k1 k2 k3 hA HL HB0
              go_wp2_with (first | (simp only [HW.out.2.2.2]) | (simp only [HW.out.1]) | (simp only [HW.out.2.1]) | (simp only [HW.out.2.2.1]))
              all_goals
                go_ret2
                exact ⟨rfl, HB2.out⟩
          · rw [if_neg e3] at hres'
            cases hres'
            have d0 : decide (c < 0) = false := decide_eq_false e0
            have d1 : decide (1024 < c) = false := decide_eq_false e1
            have d3 : decide (8192 ≤ F + c * R) = false := decide_eq_false e3
            have d4 : decide (8192 < F + c * R + 1) = false := decide_eq_false (by omega)
            have HW := Lib.hid (And.intro hw1 (And.intro hw2 (And.intro hw3 hcm)))
            rcases (by omega : c = 0 ∨ (0 < c ∧ R ≠ 0)) with rfl | ⟨e5, e6⟩
            · simp only [Int.zero_mul, Int.add_zero] at d3 d4 hw3 ⊢
              have HZ := Lib.hid (And.intro (show wrap64 F = F by unfold wrap64; omega) (And.intro hw3 (And.intro (Int.zero_mul R) (Int.mul_zero R))))
              have d5 : decide ((0 : Int) < 0) = false := rfl
              clear e0 e1 e2 e3 hm0 hm1 hw1 hw2 hw3 hcm HW
              go_enter Tryz.func69, Tryz.ntmps69
              go_wp2_with fail
              refine (hA.out _ HL.out).mono ?_
              rintro e w2 ⟨rfl, hb⟩
              have HB2 := Lib.hid (HB0.out.on hb)
              have g0 := cell_on hb k0
              have g2 := cell_on hb k2
              clear hb k0 k1 k2 k3 hA HL HB0
              go_wp2_with (first | (simp only [HZ.out.2.2.1]) | (simp only [HZ.out.2.2.2]) | (simp only [HZ.out.1]) | (simp only [HZ.out.2.1]))
              all_goals
                go_ret2
                exact ⟨rfl, HB2.out⟩
            · have d5 : decide (0 < c) = true := decide_eq_true e5
              have d6 : (R == 0) = false := by simpa using e6
              clear e0 e1 e2 e3 e5 e6 hm0 hm1 hw1 hw2 hw3 hcm
              go_enter Tryz.func69, Tryz.ntmps69
              go_wp2_with fail
              refine (hA.out _ HL.out).mono ?_
              rintro e w2 ⟨rfl, hb⟩
              have HB2 := Lib.hid (HB0.out.on hb)
              have g0 := cell_on hb k0
              have g2 := cell_on hb k2
              clear hb k0 k1 k2 k3 hA HL HB0
              go_wp2_with (first | (simp only [HW.out.2.2.2]) | (simp only [HW.out.1]) | (simp only [HW.out.2.1]) | (simp only [HW.out.2.2.1]))
              all_goals
                go_ret2
                exact ⟨rfl, HB2.out⟩
set_option maxRecDepth 100000 in
theorem refsize_any (x : Lay) (c : Int) (A1 : Option Addr) (c1 : Nat) (A2 : Option Addr) (c2 : Nat) (w : World) (h : LayIs w x A1 c1 A2 c2) :
    Calls Tryz.prog 67 #[layV x A1 c1 A2 c2, .int .i64 c] w fun e w' => e = .returned (.tuple #[.int .i64 (x.size c).1, .int .i64 (x.size c).2]) ∧ Below w.heap.size w w' := by
  have hA : Hid (∀ X, LayIs X x A1 c1 A2 c2 → Calls Tryz.prog 23 #[.agg #[.int .i64 x.fixed, .slice A1 x.refs.length c1, .int .i64 x.record, .slice A2 x.recs.length c2]] X fun e w' => e = .returned (.bool x.right) ∧ Below X.heap.size X w') := Lib.hid (fun X hX => refright_any _ _ _ _ _ X hX)
  have hb0 := below1 w (.cells #[.int .i64 x.fixed, .slice A1 x.refs.length c1, .int .i64 x.record, .slice A2 x.recs.length c2] 64)
  have HL := Lib.hid (h.on hb0)
  have HB0 := Lib.hid hb0
  have hblk := heap_alloc_new w (.cells #[.int .i64 x.fixed, .slice A1 x.refs.length c1, .int .i64 x.record, .slice A2 x.recs.length c2] 64)
  have k0 := (blk_cells hblk 0).trans rfl
  have k1 := (blk_cells hblk 1).trans rfl
  have k2 := (blk_cells hblk 2).trans rfl
  have k3 := (blk_cells hblk 3).trans rfl
  clear h hb0 hblk
  unfold layV
  have hbnd : x.right = true → 0 ≤ x.fixed ∧ x.fixed ≤ 64 ∧ 0 ≤ x.record ∧ x.record ≤ 64 := fun h => by
    have := Lay.right_out h; omega
  obtain ⟨res, hres⟩ : ∃ res, res = x.size c := ⟨_, rfl⟩
  rw [← hres]
  obtain ⟨s1, s2⟩ := res
  simp only
  have hres' := hres
  unfold Lay.size at hres'
  cases hr : x.right with
  | false =>
    rw [hr, if_neg (by decide)] at hres'
    cases hres'
    rw [hr] at hA
    clear hres hbnd
    generalize x.fixed = F at *
    generalize x.record = R at *
    go_enter Tryz.func67, Tryz.ntmps67
    go_wp2_with fail
    refine (hA.out _ HL.out).mono ?_
    rintro e w2 ⟨rfl, hb⟩
    have HB2 := Lib.hid (HB0.out.on hb)
    have g0 := cell_on hb k0
    have g2 := cell_on hb k2
    clear hb k0 k1 k2 k3 hA HL HB0
    go_wp2
    all_goals
      go_ret2
      exact ⟨rfl, HB2.out⟩
  | true =>
    obtain ⟨b0, b1, b2, b3⟩ := hbnd hr
    rw [hr, if_pos rfl] at hres'
    rw [hr] at hA
    clear hres hbnd hr
    generalize x.fixed = F at *
    generalize x.record = R at *
    by_cases e0 : c < 0
    · rw [if_pos (.inl e0)] at hres'
      cases hres'
      have d0 : decide (c < 0) = true := decide_eq_true e0
      clear e0
      go_enter Tryz.func67, Tryz.ntmps67
      go_wp2_with fail
      refine (hA.out _ HL.out).mono ?_
      rintro e w2 ⟨rfl, hb⟩
      have HB2 := Lib.hid (HB0.out.on hb)
      have g0 := cell_on hb k0
      have g2 := cell_on hb k2
      clear hb k0 k1 k2 k3 hA HL HB0
      go_wp2
      all_goals
        go_ret2
        exact ⟨rfl, HB2.out⟩
    · by_cases e1 : 1024 < c
      · rw [if_pos (.inr (.inl e1))] at hres'
        cases hres'
        have d0 : decide (c < 0) = false := decide_eq_false e0
        have d1 : decide (1024 < c) = true := decide_eq_true e1
        clear e0 e1
        go_enter Tryz.func67, Tryz.ntmps67
        go_wp2_with fail
        refine (hA.out _ HL.out).mono ?_
        rintro e w2 ⟨rfl, hb⟩
        have HB2 := Lib.hid (HB0.out.on hb)
        have g0 := cell_on hb k0
        have g2 := cell_on hb k2
        clear hb k0 k1 k2 k3 hA HL HB0
        go_wp2
        all_goals
          go_ret2
          exact ⟨rfl, HB2.out⟩
      · by_cases e2 : 0 < c ∧ R = 0
        · rw [if_pos (.inr (.inr e2))] at hres'
          cases hres'
          have d0 : decide (c < 0) = false := decide_eq_false e0
          have d1 : decide (1024 < c) = false := decide_eq_false e1
          have d2 : decide (0 < c) = true := decide_eq_true e2.1
          obtain rfl : R = 0 := e2.2
          clear e0 e1 e2
          go_enter Tryz.func67, Tryz.ntmps67
          go_wp2_with fail
          refine (hA.out _ HL.out).mono ?_
          rintro e w2 ⟨rfl, hb⟩
          have HB2 := Lib.hid (HB0.out.on hb)
          have g0 := cell_on hb k0
          have g2 := cell_on hb k2
          clear hb k0 k1 k2 k3 hA HL HB0
          go_wp2
          all_goals
            go_ret2
            exact ⟨rfl, HB2.out⟩
        · rw [if_neg (by omega)] at hres'
          have hm0 : 0 ≤ c * R := Int.mul_nonneg (by omega) b2
          have hm1 : c * R ≤ 1024 * 64 := Int.mul_le_mul (by omega) b3 b2 (by omega)
          have hw1 : wrap64 (c * R) = c * R := by unfold wrap64; omega
          have hw2 : wrap64 (F + c * R) = F + c * R := by unfold wrap64; omega
          have hw3 : wrap64 (F + c * R + 1) = F + c * R + 1 := by unfold wrap64; omega
          have hcm : R * c = c * R := Int.mul_comm _ _
          by_cases e3 : 8192 ≤ F + c * R
          · rw [if_pos e3] at hres'
            cases hres'
            have d0 : decide (c < 0) = false := decide_eq_false e0
            have d1 : decide (1024 < c) = false := decide_eq_false e1
            have d3 : decide (8192 ≤ F + c * R) = true := decide_eq_true e3
            have d4 : decide (8192 < F + c * R + 1) = true := decide_eq_true (by omega)
            rcases (by omega : c = 0 ∨ (0 < c ∧ R ≠ 0)) with rfl | ⟨e5, e6⟩
            · simp at e3; omega
            · have d5 : decide (0 < c) = true := decide_eq_true e5
              have d6 : (R == 0) = false := by simpa using e6
              have HW := Lib.hid (And.intro hw1 (And.intro hw2 (And.intro hw3 hcm)))
              clear e0 e1 e2 e3 e5 e6 hm0 hm1 hw1 hw2 hw3 hcm
              go_enter Tryz.func67, Tryz.ntmps67
              go_wp2_with fail
              refine (hA.out _ HL.out).mono ?_
              rintro e w2 ⟨rfl, hb⟩
              have HB2 := Lib.hid (HB0.out.on hb)
              have g0 := cell_on hb k0
              have g2 := cell_on hb k2
              clear hb k0 k1 k2 k3 hA HL HB0
              go_wp2_with (first | (simp only [HW.out.2.2.2]) | (simp only [HW.out.1]) | (simp only [HW.out.2.1]) | (simp only [HW.out.2.2.1]))
              all_goals
                go_ret2
                exact ⟨rfl, HB2.out⟩
          · rw [if_neg e3] at hres'
            cases hres'
            have d0 : decide (c < 0) = false := decide_eq_false e0
            have d1 : decide (1024 < c) = false := decide_eq_false e1
            have d3 : decide (8192 ≤ F + c * R) = false := decide_eq_false e3
            have d4 : decide (8192 < F + c * R + 1) = false := decide_eq_false (by omega)
            have HW := Lib.hid (And.intro hw1 (And.intro hw2 (And.intro hw3 hcm)))
            rcases (by omega : c = 0 ∨ (0 < c ∧ R ≠ 0)) with rfl | ⟨e5, e6⟩
            · simp only [Int.zero_mul, Int.add_zero] at d3 d4 hw3 ⊢
              have HZ := Lib.hid (And.intro (show wrap64 F = F by unfold wrap64; omega) (And.intro hw3 (And.intro (Int.zero_mul R) (Int.mul_zero R))))
              have d5 : decide ((0 : Int) < 0) = false := rfl
              clear e0 e1 e2 e3 hm0 hm1 hw1 hw2 hw3 hcm HW
              go_enter Tryz.func67, Tryz.ntmps67
              go_wp2_with fail
              refine (hA.out _ HL.out).mono ?_
              rintro e w2 ⟨rfl, hb⟩
              have HB2 := Lib.hid (HB0.out.on hb)
              have g0 := cell_on hb k0
              have g2 := cell_on hb k2
              clear hb k0 k1 k2 k3 hA HL HB0
              go_wp2_with (first | (simp only [HZ.out.2.2.1]) | (simp only [HZ.out.2.2.2]) | (simp only [HZ.out.1]) | (simp only [HZ.out.2.1]))
              all_goals
                go_ret2
                exact ⟨rfl, HB2.out⟩
            · have d5 : decide (0 < c) = true := decide_eq_true e5
              have d6 : (R == 0) = false := by simpa using e6
              clear e0 e1 e2 e3 e5 e6 hm0 hm1 hw1 hw2 hw3 hcm
              go_enter Tryz.func67, Tryz.ntmps67
              go_wp2_with fail
              refine (hA.out _ HL.out).mono ?_
              rintro e w2 ⟨rfl, hb⟩
              have HB2 := Lib.hid (HB0.out.on hb)
              have g0 := cell_on hb k0
              have g2 := cell_on hb k2
              clear hb k0 k1 k2 k3 hA HL HB0
              go_wp2_with (first | (simp only [HW.out.2.2.2]) | (simp only [HW.out.1]) | (simp only [HW.out.2.1]) | (simp only [HW.out.2.2.1]))
              all_goals
                go_ret2
                exact ⟨rfl, HB2.out⟩
end Go.Proofs.YtfflacggaebonaaGreatDoor
end
section
namespace Go.Proofs.YtfflacggaebonaaGreatDoor
open Go.RowKit
set_option linter.unusedVariables false
set_option linter.unusedSimpArgs false
variable {w w' : World}
theorem mem_getD {l : List Int} {k : Nat} (h : k < l.length) : l.getD k 0 ∈ l := by
  have : l.getD k 0 = l[k] := by simp [List.getD, h]
  rw [this]; exact List.getElem_mem h
theorem mem_at {l : List Int} {p : Int} (h : p ∈ l) : ∃ k, k < l.length ∧ l.getD k 0 = p := by
  obtain ⟨k, hk, rfl⟩ := List.getElem_of_mem h
  exact ⟨k, hk, by simp [List.getD, hk]⟩
theorem has_any (A : Option Addr) (l : List Int) (c : Nat) (p : Int) (w : World) (hl : SliceOf w A 1 encI 0 l) (hc : l.length ≤ maxLen) :
    Calls Tryz.prog 85 #[.slice A l.length c, .int .i64 p] w fun e w' => e = .returned (.bool (decide (p ∈ l))) ∧ Below w.heap.size w w' := by
  unfold maxLen at hc
  have HL := Lib.hid hl
  clear hl
  go_enter Tryz.func85, Tryz.ntmps85
  go_wp2
  go_loopw [5] (fun v5 wr => ∃ k : Nat, k ≤ l.length ∧ v5 = .int .i64 k ∧ Hid (∀ j, j < k → l.getD j 0 ≠ p) ∧ wr = w) (fun v5 _ => l.length - (intOf v5).toNat)
  case atStart => exact ⟨0, by omega, rfl, Lib.hid (fun j hj => by omega), rfl⟩
  case round =>
    obtain ⟨k, hk, rfl, HR, rfl⟩ := hrel
    by_cases hlt : k < l.length
    · obtain ⟨b, o, rfl, hx⟩ := intsY_at HL.out k hlt
      by_cases he : l.getD k 0 = p
      · have HM : Hid (decide (p ∈ l) = true) := Lib.hid (decide_eq_true (by rw [← he]; exact mem_getD hlt))
        generalize l.getD k 0 = x at *
        subst he
        go_wp2
        go_ret
        exact ⟨retY_bool HM.out.symm, Below.refl _ _⟩
      · have HR2 : Hid (∀ j, j < k + 1 → l.getD j 0 ≠ p) := Lib.hid (fun j hj => by
          rcases Nat.lt_or_ge j k with g | g
          · exact HR.out j g
          · rw [show j = k by omega]; exact he)
        generalize l.getD k 0 = x at *
        have d : (x == p) = false := by simpa using he
        clear he
        go_wp2
        go_roundw
        case rel => exact ⟨k + 1, by omega, by go_num, HR2, trivial⟩
        case measure => simp [intOf]; omega
    · obtain rfl : k = l.length := by omega
      have HM : Hid (decide (p ∈ l) = false) := Lib.hid (decide_eq_false (fun h => by
        obtain ⟨j, hj, e⟩ := mem_at h
        exact HR.out j hj e))
      go_wp2
      go_ret
      exact ⟨retY_bool HM.out.symm, Below.refl _ _⟩
theorem sorted_at {l : List Int} (h : l.Pairwise (· < ·)) {i j : Nat} (hij : i < j) (hj : j < l.length) : l.getD i 0 < l.getD j 0 := by
  have := List.pairwise_iff_getElem.1 h i j (by omega) hj hij
  simpa [List.getD, hj, show i < l.length by omega] using this
theorem less_any (x y : Int) (w : World) : Calls Tryz.prog 98 #[.int .i64 x, .int .i64 y] w fun e w' => e = .returned (.bool (decide (x < y))) ∧ w = w' := by
  go_enter Tryz.func98, Tryz.ntmps98
  go_wp2
  go_ret
  exact ⟨rfl, rfl⟩
theorem nan_any (x : Int) (w : World) : Calls Tryz.prog 99 #[.int .i64 x] w fun e w' => e = .returned (.bool false) ∧ w = w' := by
  go_enter Tryz.func99, Tryz.ntmps99
  go_wp2
  go_ret
  exact ⟨rfl, rfl⟩
theorem bs_any (A : Option Addr) (l : List Int) (c : Nat) (p : Int) (w : World) (hl : SliceOf w A 1 encI 0 l) (hc : l.length ≤ 64) (hs : l.Pairwise (· < ·)) :
    Calls Tryz.prog 91 #[.slice A l.length c, .int .i64 p] w fun e w' => (∃ i : Int, e = .returned (.tuple #[.int .i64 i, .bool (decide (p ∈ l))])) ∧ w = w' := by
  have HL := Lib.hid hl
  have HS := Lib.hid hs
  clear hl hs
  go_enter Tryz.func91, Tryz.ntmps91
  go_wp2
  go_loopw [7, 8] (fun v7 v8 wr => ∃ i j : Nat, i ≤ j ∧ j ≤ l.length ∧ v7 = .int .i64 i ∧ v8 = .int .i64 j ∧ Hid (∀ t, t < i → l.getD t 0 < p) ∧ Hid (∀ t, j ≤ t → t < l.length → p ≤ l.getD t 0) ∧ wr = w) (fun v7 v8 _ => (intOf v8).toNat - (intOf v7).toNat)
  case atStart => exact ⟨0, l.length, by omega, by omega, rfl, rfl, Lib.hid (fun j hj => by omega), Lib.hid (fun t h1 h2 => by omega), rfl⟩
  case round =>
    obtain ⟨i, j, hij, hj, rfl, rfl, HA, HB, rfl⟩ := hrel
    by_cases hlt : i < j
    · have hm1 : (i + j) / 2 < j := by omega
      have hm2 : i ≤ (i + j) / 2 := by omega
      obtain ⟨b, o, rfl, hx⟩ := intsY_at HL.out ((i + j) / 2) (by omega)
      by_cases he : l.getD ((i + j) / 2) 0 < p
      · have HA2 : Hid (∀ t, t < (i + j) / 2 + 1 → l.getD t 0 < p) := Lib.hid (fun t ht => by
          rcases Nat.lt_or_ge t ((i + j) / 2) with g | g
          · have := sorted_at HS.out g (by omega); omega
          · rw [show t = (i + j) / 2 by omega]; exact he)
        generalize l.getD ((i + j) / 2) 0 = x at *
        have d : decide (x < p) = true := decide_eq_true he
        clear he HA
        go_wp2_with (go_at_call 98; refine (less_any _ _ _).mono ?_; rintro e w' ⟨rfl, rfl⟩)
        go_roundw
        case rel => exact ⟨(i + j) / 2 + 1, j, by omega, by omega, by go_num, rfl, HA2, HB, trivial⟩
        case measure => simp [intOf]; omega
      · have HB2 : Hid (∀ t, (i + j) / 2 ≤ t → t < l.length → p ≤ l.getD t 0) := Lib.hid (fun t h1 h2 => by
          rcases Nat.lt_or_ge ((i + j) / 2) t with g | g
          · have := sorted_at HS.out g (by omega); omega
          · rw [show t = (i + j) / 2 by omega]; omega)
        generalize l.getD ((i + j) / 2) 0 = x at *
        have d : decide (x < p) = false := decide_eq_false he
        clear he HB
        go_wp2_with (go_at_call 98; refine (less_any _ _ _).mono ?_; rintro e w' ⟨rfl, rfl⟩)
        go_roundw
        case rel => exact ⟨i, (i + j) / 2, by omega, by omega, rfl, by go_num, HA, HB2, trivial⟩
        case measure => simp [intOf]; omega
    · obtain rfl : i = j := by omega
      by_cases hil : i < l.length
      · obtain ⟨b, o, rfl, hx⟩ := intsY_at HL.out i hil
        by_cases he : l.getD i 0 = p
        · have HM : Hid (decide (p ∈ l) = true) := Lib.hid (decide_eq_true (by rw [← he]; exact mem_getD hil))
          generalize l.getD i 0 = x at *
          subst he
          go_wp2_with (go_at_call 99; refine (nan_any _ _).mono ?_; rintro e w' ⟨rfl, rfl⟩)
          go_ret2
          exact ⟨⟨_, by rw [HM.out]; rfl⟩, rfl⟩
        · have HM : Hid (decide (p ∈ l) = false) := Lib.hid (decide_eq_false (fun h => by
            obtain ⟨t, ht, e⟩ := mem_at h
            rcases Nat.lt_trichotomy t i with g | g | g
            · have := HA.out t g; omega
            · subst g; exact he e
            · have h1 := HB.out i (Nat.le_refl _) hil
              have h2 := sorted_at HS.out g ht
              omega))
          generalize l.getD i 0 = x at *
          have d : (x == p) = false := by simpa using he
          clear he
          go_wp2_with (go_at_call 99; refine (nan_any _ _).mono ?_; rintro e w' ⟨rfl, rfl⟩)
          go_ret2
          exact ⟨⟨_, by rw [HM.out]; rfl⟩, rfl⟩
      · obtain rfl : i = l.length := by omega
        have HM : Hid (decide (p ∈ l) = false) := Lib.hid (decide_eq_false (fun h => by
          obtain ⟨t, ht, e⟩ := mem_at h
          have := HA.out t ht; omega))
        go_wp2
        go_ret2
        exact ⟨⟨_, by rw [HM.out]; rfl⟩, rfl⟩
end Go.Proofs.YtfflacggaebonaaGreatDoor
end
section
namespace Go.Proofs.YtfflacggaebonaaGreatDoor
open Go.RowKit
set_option linter.unusedVariables false
set_option linter.unusedSimpArgs false
variable {w w' : World}
theorem riseGo_len : ∀ (l : List Int) (size last : Int), riseGo size last l = true → last < size → last + l.length < size
  | [], _, _, _, h => by simpa using h
  | p :: t, size, last, h, _ => by
    simp only [riseGo, Bool.and_eq_true, decide_eq_true_eq] at h
    obtain ⟨h1, h2, h3⟩ := h
    have := riseGo_len t size p h3 h2
    simp only [List.length_cons]
    omega
theorem rise_len {l : List Int} {size : Int} (h : riseB l size = true) (h0 : 0 ≤ size) : (l.length : Int) ≤ size := by
  have := riseGo_len l size (-1) h (by omega)
  omega
def Lay.isRefE (x : Lay) (c p : Int) : Bool × Int := if (x.size c).2 = 0 then (if p < 0 ∨ (x.size c).1 ≤ p then (false, 3) else (x.isRef p, 0)) else (false, (x.size c).2)
theorem Lay.size_ok {x : Lay} {c : Int} (h : (x.size c).2 = 0) : x.right = true ∧ 0 ≤ c ∧ c ≤ 1024 ∧ (0 < c → 0 < x.record) ∧ (x.size c).1 = x.fixed + c * x.record ∧ (x.size c).1 < 8192 := by
  unfold Lay.size at h ⊢
  by_cases hr : x.right = true
  · rw [if_pos hr] at h ⊢
    have := Lay.right_out hr
    split at h
    · cases h
    · rename_i h1
      split at h
      · cases h
      · rename_i h2
        rw [if_neg h1, if_neg h2]
        exact ⟨hr, by omega, by omega, by omega, rfl, by simp; omega⟩
  · rw [if_neg hr] at h
    cases h
set_option maxRecDepth 100000 in
theorem isref_any (x : Lay) (c p : Int) (A1 : Option Addr) (c1 : Nat) (A2 : Option Addr) (c2 : Nat) (w : World) (h : LayIs w x A1 c1 A2 c2) :
    Calls Tryz.prog 81 #[layV x A1 c1 A2 c2, .int .i64 c, .int .i64 p] w fun e w' => e = .returned (.tuple #[.bool (x.isRefE c p).1, .int .i64 (x.isRefE c p).2]) ∧ Below w.heap.size w w' := by
  have hA : Hid (∀ X, LayIs X x A1 c1 A2 c2 → Calls Tryz.prog 69 #[.agg #[.int .i64 x.fixed, .slice A1 x.refs.length c1, .int .i64 x.record, .slice A2 x.recs.length c2], .int .i64 c] X fun e w' => e = .returned (.tuple #[.int .i64 (x.size c).1, .int .i64 (x.size c).2]) ∧ Below X.heap.size X w') := Lib.hid (fun X hX => size_any _ _ _ _ _ _ X hX)
  have hb0 := below1 w (.cells #[.int .i64 x.fixed, .slice A1 x.refs.length c1, .int .i64 x.record, .slice A2 x.recs.length c2] 64)
  have HL := Lib.hid (h.on hb0)
  have HB0 := Lib.hid hb0
  have hblk := heap_alloc_new w (.cells #[.int .i64 x.fixed, .slice A1 x.refs.length c1, .int .i64 x.record, .slice A2 x.recs.length c2] 64)
  have k0 := (blk_cells hblk 0).trans rfl
  have k1 := (blk_cells hblk 1).trans rfl
  have k2 := (blk_cells hblk 2).trans rfl
  have k3 := (blk_cells hblk 3).trans rfl
  clear h hb0 hblk
  unfold layV Lay.isRefE
  by_cases h0 : (x.size c).2 = 0
  · obtain ⟨g1, g2, g3, g4, g5, g6⟩ := Lay.size_ok h0
    obtain ⟨r1, r2, r3, r4, r5, r6, r7⟩ := Lay.right_out g1
    rw [if_pos h0]
    rw [h0, g5] at hA
    rw [g5]
    by_cases hp : p < 0 ∨ x.fixed + c * x.record ≤ p
    · rw [if_pos hp]
      clear h0 g1 g2 g3 g4 g5 g6 r1 r2 r3 r4 r5 r6 r7
      generalize x.fixed = F at *
      generalize x.record = R at *
      generalize F + c * R = n at *
      go_enter Tryz.func81, Tryz.ntmps81
      go_wp2_with fail
      refine (hA.out _ HL.out).mono ?_
      rintro e w2 ⟨rfl, hb⟩
      have HB2 := Lib.hid (HB0.out.on hb)
      clear hb k0 k1 k2 k3 hA HL HB0
      by_cases hp0 : p < 0
      · have d0 : decide (p < 0) = true := decide_eq_true hp0
        clear hp hp0
        go_wp2
        go_ret2
        exact ⟨rfl, HB2.out⟩
      · have d0 : decide (p < 0) = false := decide_eq_false hp0
        have d1 : decide (n ≤ p) = true := decide_eq_true (by omega)
        clear hp hp0
        go_wp2
        go_ret2
        exact ⟨rfl, HB2.out⟩
    · rw [if_neg hp]
      have hp0 : ¬ p < 0 := fun e => hp (.inl e)
      have hpn : ¬ (x.fixed + c * x.record ≤ p) := fun e => hp (.inr e)
      have hl1 := rise_len r6 r1
      have hl2 := rise_len r7 r3
      have hBS1 : Hid (∀ X q, LayIs X x A1 c1 A2 c2 → Calls Tryz.prog 91 #[.slice A1 x.refs.length c1, .int .i64 q] X fun e w' => (∃ i : Int, e = .returned (.tuple #[.int .i64 i, .bool (decide (q ∈ x.refs))])) ∧ X = w') := Lib.hid (fun X q hX => bs_any _ _ _ _ X hX.h1 (by omega) (rise_all r6).1)
      have hBS2 : Hid (∀ X q, LayIs X x A1 c1 A2 c2 → Calls Tryz.prog 91 #[.slice A2 x.recs.length c2, .int .i64 q] X fun e w' => (∃ i : Int, e = .returned (.tuple #[.int .i64 i, .bool (decide (q ∈ x.recs))])) ∧ X = w') := Lib.hid (fun X q hX => bs_any _ _ _ _ X hX.h2 (by omega) (rise_all r7).1)
      unfold Lay.isRef
      by_cases hf : p < x.fixed
      · rw [if_pos hf]
        clear h0 g1 g2 g3 g4 g5 g6 r1 r2 r3 r4 r5 r6 r7 hl1 hl2 hp hBS2
        generalize hrr : decide (p ∈ x.refs) = res at *
        generalize x.fixed = F at *
        generalize x.record = R at *
        generalize F + c * R = n at *
        have d0 : decide (p < 0) = false := decide_eq_false hp0
        have d1 : decide (n ≤ p) = false := decide_eq_false hpn
        have d2 : decide (F ≤ p) = false := decide_eq_false (by omega)
        clear hp0 hpn hf
        go_enter Tryz.func81, Tryz.ntmps81
        go_wp2_with fail
        refine (hA.out _ HL.out).mono ?_
        rintro e w2 ⟨rfl, hb⟩
        have HB2 := Lib.hid (HB0.out.on hb)
        have HL2 := Lib.hid (HL.out.on hb)
        have g0 := cell_on hb k0
        have g1 := cell_on hb k1
        have g2 := cell_on hb k2
        have g3 := cell_on hb k3
        clear hb k0 k1 k2 k3 hA HL HB0
        go_wp2_with fail
        refine (hBS1.out _ p HL2.out).mono ?_
        rintro e w3 ⟨⟨i, rfl⟩, rfl⟩
        rw [hrr]
        go_wp2
        go_ret2
        exact ⟨rfl, HB2.out⟩
      · rw [if_neg hf]
        have hR0 : x.record ≠ 0 := fun e => by rw [e, Int.mul_zero] at hpn; omega
        have hrem : (p - x.fixed).tmod x.record = (p - x.fixed) % x.record := Int.tmod_eq_emod_of_nonneg (by omega)
        have hw : wrap64 (p - x.fixed) = p - x.fixed := by unfold wrap64; omega
        clear h0 g2 g3 g4 g5 g1 r1 r2 r3 r4 r5 r6 r7 hl1 hl2 hp hBS1
        have HRR := Lib.hid (And.intro hrem hw)
        clear hrem hw
        generalize hq : (p - x.fixed) % x.record = q at *
        generalize hrr : decide (q ∈ x.recs) = res at *
        generalize x.fixed = F at *
        generalize x.record = R at *
        generalize F + c * R = n at *
        have d0 : decide (p < 0) = false := decide_eq_false hp0
        have d1 : decide (n ≤ p) = false := decide_eq_false hpn
        have d2 : decide (F ≤ p) = true := decide_eq_true (by omega)
        have d3 : (R == 0) = false := by simpa using hR0
        clear hp0 hpn hf g6
        go_enter Tryz.func81, Tryz.ntmps81
        go_wp2_with fail
        refine (hA.out _ HL.out).mono ?_
        rintro e w2 ⟨rfl, hb⟩
        have HB2 := Lib.hid (HB0.out.on hb)
        have HL2 := Lib.hid (HL.out.on hb)
        have g0 := cell_on hb k0
        have g1 := cell_on hb k1
        have g2 := cell_on hb k2
        have g3 := cell_on hb k3
        clear hb k0 k1 k2 k3 hA HL HB0
        go_wp2_with fail
        go_quiet (fail)
        rw [HRR.out.2, HRR.out.1]
        have HL3 := Lib.hid (HL2.out.on (below_drewN (Below.refl _ _) nq))
        go_wp2_with fail
        refine (hBS2.out _ q HL3.out).mono ?_
        rintro e w3 ⟨⟨i, rfl⟩, rfl⟩
        rw [hrr]
        go_wp2
        go_ret2
        exact ⟨rfl, below_drewN HB2.out _⟩
  · rw [if_neg h0]
    have hn : ((x.size c).2 != 0) = true := by simpa using h0
    generalize (x.size c).2 = s2 at *
    generalize (x.size c).1 = s1 at *
    clear h0
    generalize x.fixed = F at *
    generalize x.record = R at *
    go_enter Tryz.func81, Tryz.ntmps81
    go_wp2_with fail
    refine (hA.out _ HL.out).mono ?_
    rintro e w2 ⟨rfl, hb⟩
    have HB2 := Lib.hid (HB0.out.on hb)
    clear hb k0 k1 k2 k3 hA HL HB0
    go_wp2
    go_ret2
    exact ⟨rfl, HB2.out⟩
set_option maxRecDepth 100000 in
theorem refisref_any (x : Lay) (c p : Int) (A1 : Option Addr) (c1 : Nat) (A2 : Option Addr) (c2 : Nat) (w : World) (h : LayIs w x A1 c1 A2 c2) (h0 : (x.size c).2 = 0) (hp0 : 0 ≤ p) (hpn : p < (x.size c).1) :
    Calls Tryz.prog 71 #[layV x A1 c1 A2 c2, .int .i64 p] w fun e w' => e = .returned (.bool (x.isRef p)) ∧ Below w.heap.size w w' := by
  have hb0 := below1 w (.cells #[.int .i64 x.fixed, .slice A1 x.refs.length c1, .int .i64 x.record, .slice A2 x.recs.length c2] 64)
  have HL := Lib.hid (h.on hb0)
  have HB0 := Lib.hid hb0
  have hblk := heap_alloc_new w (.cells #[.int .i64 x.fixed, .slice A1 x.refs.length c1, .int .i64 x.record, .slice A2 x.recs.length c2] 64)
  have k0 := (blk_cells hblk 0).trans rfl
  have k1 := (blk_cells hblk 1).trans rfl
  have k2 := (blk_cells hblk 2).trans rfl
  have k3 := (blk_cells hblk 3).trans rfl
  have HW := Lib.hid h
  obtain ⟨g1, g2, g3, g4, g5, g6⟩ := Lay.size_ok h0
  obtain ⟨r1, r2, r3, r4, r5, r6, r7⟩ := Lay.right_out g1
  have hH1 : Hid (∀ X q, LayIs X x A1 c1 A2 c2 → Calls Tryz.prog 85 #[.slice A1 x.refs.length c1, .int .i64 q] X fun e w' => e = .returned (.bool (decide (q ∈ x.refs))) ∧ Below X.heap.size X w') := Lib.hid (fun X q hX => has_any _ _ _ _ X hX.h1 hX.m1)
  have hH2 : Hid (∀ X q, LayIs X x A1 c1 A2 c2 → Calls Tryz.prog 85 #[.slice A2 x.recs.length c2, .int .i64 q] X fun e w' => e = .returned (.bool (decide (q ∈ x.recs))) ∧ Below X.heap.size X w') := Lib.hid (fun X q hX => has_any _ _ _ _ X hX.h2 hX.m2)
  clear h hb0 hblk
  rw [g5] at hpn
  unfold layV Lay.isRef
  by_cases hf : p < x.fixed
  · rw [if_pos hf]
    clear h0 g1 g2 g3 g4 g5 g6 r1 r2 r3 r4 r5 r6 r7 hpn hH2
    generalize hrr : decide (p ∈ x.refs) = res at *
    generalize x.fixed = F at *
    generalize x.record = R at *
    have d2 : decide (p < F) = true := decide_eq_true (by omega)
    clear hf
    go_enter Tryz.func71, Tryz.ntmps71
    go_wp2_with fail
    refine (hH1.out _ p HL.out).mono ?_
    rintro e w3 ⟨rfl, hb⟩
    have HB3 := Lib.hid (HB0.out.on hb)
    clear hb k0 k1 k2 k3
    rw [hrr]
    go_wp2
    go_ret
    exact ⟨rfl, HB3.out⟩
  · rw [if_neg hf]
    have hR0 : x.record ≠ 0 := fun e => by rw [e, Int.mul_zero] at hpn; omega
    have hrem : (p - x.fixed).tmod x.record = (p - x.fixed) % x.record := Int.tmod_eq_emod_of_nonneg (by omega)
    have hw : wrap64 (p - x.fixed) = p - x.fixed := by unfold wrap64; omega
    clear h0 g2 g3 g4 g5 g1 g6 r1 r2 r3 r4 r5 r6 r7 hH1 hpn
    have HRR := Lib.hid (And.intro hrem hw)
    clear hrem hw
    generalize hq : (p - x.fixed) % x.record = q at *
    generalize hrr : decide (q ∈ x.recs) = res at *
    generalize x.fixed = F at *
    generalize x.record = R at *
    have d2 : decide (p < F) = false := decide_eq_false (by omega)
    have d3 : (R == 0) = false := by simpa using hR0
    clear hf
    have HQ := Lib.hid hq
    clear hq
    go_enter Tryz.func71, Tryz.ntmps71
    go_wp2_with fail
    have HH : Hid (∀ X, LayIs X x A1 c1 A2 c2 → Calls Tryz.prog 85 #[.slice A2 x.recs.length c2, .int .i64 q] X fun e w' => e = .returned (.bool res) ∧ Below X.heap.size X w') := Lib.hid (fun X hX => by
      rw [← hrr]
      exact hH2.out X q hX)
    have hw1 : wrap64 (p - F) = p - F := HRR.out.2
    have hw2 : IntKind.i64.wrap (p - F) = p - F := by
      have h9 := hw1
      unfold wrap64 at h9
      rw [IntKind.wrap_i64]; omega
    have hw3 : (p - F).tmod R = q := HRR.out.1
    have s0 : _ = some (Value.int .i64 F) := k0
    have s2 : _ = some (Value.int .i64 R) := k2
    have s3 : _ = some (Value.slice A2 x.recs.length c2) := k3
    have B := HB0.out
    have hRR : R ≠ 0 := hR0
    clear k0 k1 k2 k3 hH2 HRR HQ hrr
    go_region_held3 (fun wk => (wk.cell? ⟨w.heap.size, 0, none⟩ = some (.int .i64 F) ∧ wk.cell? ⟨w.heap.size, 2, none⟩ = some (.int .i64 R) ∧ wk.cell? ⟨w.heap.size, 3, none⟩ = some (.slice A2 x.recs.length c2)) ∧ Below w.heap.size w wk) (first | exact kp3_drew ⟨⟨s0, s2, s3⟩, B⟩ | exact kp3_call (by assumption) (by assumption)) (first | (go_at_call 85; refine (HH.out _ (HW.out.on (by assumption : _ ∧ Below w.heap.size w _).2)).mono ?_; rintro e w1 ⟨rfl, hb1⟩))
    go_wp2
    go_ret
    exact ⟨rfl, (by assumption : _ ∧ Below w.heap.size w _).2⟩
end Go.Proofs.YtfflacggaebonaaGreatDoor
end
section
namespace Go.Proofs.YtfflacggaebonaaGreatDoor
open Go.RowKit
set_option linter.unusedVariables false
set_option linter.unusedSimpArgs false
variable {w w' : World}
theorem infoIntY : (Tryz.prog.info? 3).map (fun i => (i.zero, i.size, i.bytes)) = some (some (.int .i64 0), 1, 8) := by kernel_rfl
def SlotsPost (l : List Int) (w : World) (e : Ending) (W' : World) : Prop := ∃ v, e = .returned v ∧ IntsY W' v l ∧ Below w.heap.size w W'
set_option maxRecDepth 100000 in
set_option maxHeartbeats 1000000 in
theorem refslots_any (x : Lay) (c : Int) (A1 : Option Addr) (c1 : Nat) (A2 : Option Addr) (c2 : Nat) (w : World) (h : LayIs w x A1 c1 A2 c2) (h0 : (x.size c).2 = 0) :
    Calls Tryz.prog 44 #[layV x A1 c1 A2 c2, .int .i64 c] w (SlotsPost (x.upTo (x.size c).1.toNat) w) := by
  obtain ⟨i0, hi, hz0, hz1, hz2⟩ := info_parts infoIntY
  have HI := Lib.hid hi
  have HZ0 := Lib.hid hz0
  have HZ1 := Lib.hid hz1
  have HZ2 := Lib.hid hz2
  clear hi hz0 hz1 hz2
  have hok := Lay.size_ok h0
  have hr := Lay.right_out hok.1
  have hmul : 0 ≤ c * x.record := Int.mul_nonneg hok.2.1 hr.2.2.1
  obtain ⟨n, hn⟩ : ∃ n : Nat, (n : Int) = (x.size c).1 := ⟨(x.size c).1.toNat, by omega⟩
  have hn2 : n < 8192 := by omega
  have hA : Hid (∀ X, LayIs X x A1 c1 A2 c2 → Calls Tryz.prog 67 #[.agg #[.int .i64 x.fixed, .slice A1 x.refs.length c1, .int .i64 x.record, .slice A2 x.recs.length c2], .int .i64 c] X fun e w' => e = .returned (.tuple #[.int .i64 n, .int .i64 0]) ∧ Below X.heap.size X w') := Lib.hid (fun X hX => by
    have := refsize_any x c A1 c1 A2 c2 X hX
    rw [h0, ← hn] at this
    exact this)
  have hR : Hid (∀ X (k : Nat), LayIs X x A1 c1 A2 c2 → k < n → Calls Tryz.prog 71 #[.agg #[.int .i64 x.fixed, .slice A1 x.refs.length c1, .int .i64 x.record, .slice A2 x.recs.length c2], .int .i64 k] X fun e w' => e = .returned (.bool (x.isRef k)) ∧ Below X.heap.size X w') := Lib.hid (fun X k hX hk => refisref_any x c k A1 c1 A2 c2 X hX h0 (by omega) (by omega))
  have hb0 := below1 w (.cells #[.int .i64 x.fixed, .slice A1 x.refs.length c1, .int .i64 x.record, .slice A2 x.recs.length c2] 64)
  have HL := Lib.hid (h.on hb0)
  have HW := Lib.hid h
  have HB0 := Lib.hid hb0
  have hblk := heap_alloc_new w (.cells #[.int .i64 x.fixed, .slice A1 x.refs.length c1, .int .i64 x.record, .slice A2 x.recs.length c2] 64)
  have HBK := Lib.hid hblk
  rw [← hn, Int.toNat_natCast]
  have k0 := (blk_cells hblk 0).trans rfl
  have k1 := (blk_cells hblk 1).trans rfl
  have k2 := (blk_cells hblk 2).trans rfl
  have k3 := (blk_cells hblk 3).trans rfl
  clear h hb0 hblk h0 hok hr hmul hn
  unfold layV
  go_enter Tryz.func44, Tryz.ntmps44
  go_wp2_with fail
  refine (hA.out _ HL.out).mono ?_
  rintro e w2 ⟨rfl, hb⟩
  have HB2 := Lib.hid (HB0.out.on hb)
  have HK2 := Lib.hid ((hb.block w.heap.size (by simp)).trans HBK.out)
  have hsz2 : w.heap.size + 1 ≤ w2.heap.size := by have := hb.size; simpa using this
  clear hb k0 k1 k2 k3 hA HL HB0 HBK
  go_wp2_with fail
  go_loopw [5, 8] (fun v5 v8 wr => ∃ k : Nat, k ≤ n ∧ v8 = .int .i64 k ∧ Hid (Below w.heap.size w wr ∧ w2.heap.size ≤ wr.heap.size ∧ wr.heap[w.heap.size]? = some (.cells #[.int .i64 x.fixed, .slice A1 x.refs.length c1, .int .i64 x.record, .slice A2 x.recs.length c2] 64 (0, 0)) ∧ wr.ownsRow w2.heap.size 3 1 v5 (x.upTo k).length ((x.upTo k).flatMap encI))) (fun _ v8 _ => n - (intOf v8).toNat)
  case atStart => exact ⟨0, by omega, rfl, Lib.hid ⟨HB2.out, Nat.le_refl _, HK2.out, World.ownsRow_nil _ _ _ _⟩⟩
  case round =>
    obtain ⟨k, hk, rfl, HR⟩ := hrel
    clear HB2 HK2
    by_cases hlt : k < n
    · have k0 := (blk_cells HR.out.2.2.1 0).trans rfl
      have k1 := (blk_cells HR.out.2.2.1 1).trans rfl
      have k2 := (blk_cells HR.out.2.2.1 2).trans rfl
      have k3 := (blk_cells HR.out.2.2.1 3).trans rfl
      go_wp2_with fail
      refine (hR.out _ k (HW.out.on HR.out.1) hlt).mono ?_
      rintro e w3 ⟨rfl, hb⟩
      have HR3 : Hid (Below w.heap.size w w3 ∧ w2.heap.size ≤ w3.heap.size ∧ w3.heap[w.heap.size]? = some (.cells #[.int .i64 x.fixed, .slice A1 x.refs.length c1, .int .i64 x.record, .slice A2 x.recs.length c2] 64 (0, 0)) ∧ w3.ownsRow w2.heap.size 3 1 u5 (x.upTo k).length ((x.upTo k).flatMap encI)) :=
        Lib.hid ⟨HR.out.1.on hb, Nat.le_trans HR.out.2.1 hb.size, (hb.block _ (block_lt HR.out.2.2.1)).trans HR.out.2.2.1, own_on HR.out.2.2.2 hb⟩
      have hs := Lay.upTo_succ x k
      have hule := Lay.upTo_le x k
      clear hb k0 k1 k2 k3 HR
      cases hb : x.isRef k with
      | false =>
        rw [hb, if_neg (by decide), List.append_nil] at hs
        have HS := Lib.hid hs
        clear hs hb
        go_wp2
        go_roundw
        case rel => exact ⟨k + 1, by omega, by go_num, Lib.hid (by rw [HS.out]; exact HR3.out)⟩
        case measure => simp [intOf]; omega
      | true =>
        rw [hb, if_pos rfl] at hs
        have HS := Lib.hid hs
        clear hs hb
        have hsz3 := HR3.out.2.1
        generalize hul : x.upTo k = ul at *
        go_wp2_with (at_builtin; refine wpList_append_own _ rfl _ _ 42 rfl w2.heap.size 3 i0 (.int .i64 0) 1 8 Tryz.underlying42 HI.out HZ0.out HZ1.out HZ2.out rfl (by decide) _ _ _ rfl (HR3.out.2.2.2.alloc _) ⟨w3.heap.size, 0, none⟩ 1 1 [.int .i64 (k : Nat)] rfl rfl (World.news_of_block (cs := #[.int .i64 (k : Nat)]) (t := 3) (fr := (0, 0)) (heap_alloc_new w3 _)) (by simp [Value.oneCell']) (by unfold maxLen; omega) (by omega) (by simp; omega) ?_; intro v' w5 hown' hgrow _)
        have HS5 : Hid (Below w.heap.size w w5 ∧ w2.heap.size ≤ w5.heap.size ∧ w5.heap[w.heap.size]? = some (.cells #[.int .i64 x.fixed, .slice A1 x.refs.length c1, .int .i64 x.record, .slice A2 x.recs.length c2] 64 (0, 0)) ∧ w5.ownsRow w2.heap.size 3 1 v' (ul ++ [(k : Int)]).length ((ul ++ [(k : Int)]).flatMap encI)) := by
          obtain ⟨q1, q2, q3, q4⟩ := HR3.out
          refine Lib.hid ⟨(q1.alloc (by omega) _).grown hgrow (by simp; omega) (fun k e => by have := (q4.lt k e).1; omega), ?_, ?_, by simpa [encI] using hown'⟩
          · have := hgrow.size; simp at this; omega
          · exact (hgrow.block w.heap.size (by simp; omega) (fun e => by have := (q4.lt _ e.symm).1; omega)).trans ((Below.heap_alloc _ _ _ (by omega)).trans q3)
        clear hown' hgrow HR3
        go_roundw
        case rel => exact ⟨k + 1, by omega, by go_num, Lib.hid (by rw [HS.out]; exact HS5.out)⟩
        case measure => simp [intOf]; omega
    · obtain rfl : k = n := by omega
      have hule := Lay.upTo_le x k
      go_wp2
      go_ret
      exact ⟨_, rfl, intsY_of_own HR.out.2.2.2 (by omega), HR.out.1⟩
end Go.Proofs.YtfflacggaebonaaGreatDoor
end
section
namespace Go.Proofs.YtfflacggaebonaaGreatDoor
open Go.RowKit Go.Shelf
set_option linter.unusedVariables false
set_option linter.unusedSimpArgs false
attribute [local go_sem] Oper.semAt_some
variable {w w' : World} {x : Lay} {A1 A2 : Option Addr} {c1 c2 : Nat}
theorem below_grown {W W' : World} (h : Below W.heap.size W W') : W.grownBy W' none := ⟨h.os, h.tape, h.output, h.size, fun k hk _ => h.block k hk⟩
/-- What a round keeps: what lay below, and two blocks. -/
def KpY (n₀ b1 b2 : Nat) (W W' : World) : Prop := Below n₀ W W' ∧ W.heap.size ≤ W'.heap.size ∧ ∀ (k : Nat) (o : Array Value × TypeId), (k = b1 ∨ k = b2) → W.heap[k]? = some (.cells o.1 o.2 (0, 0)) → W'.heap[k]? = some (.cells o.1 o.2 (0, 0))
theorem KpY.t {n₀ b1 b2 : Nat} {A B C : World} (h : KpY n₀ b1 b2 A B) (k : KpY n₀ b1 b2 B C) : KpY n₀ b1 b2 A C := ⟨h.1.trans k.1, Nat.le_trans h.2.1 k.2.1, fun i o hi ho => k.2.2 i o hi (h.2.2 i o hi ho)⟩
theorem KpY.b {n₀ b1 b2 : Nat} {w : World} (hn : n₀ ≤ w.heap.size) (W : World) (l : Nat) (o o' : Obj) (hl : w.heap.size ≤ l) (h : W.heap[l]? = some o) (hc : o.isCells = false) (hw : o.isWalk = false) : KpY n₀ b1 b2 W (W.putObj l o') :=
  ⟨belowK_b hn W l o o' hl h hc hw, by simp, fun k u hk hu => by
    have hne : k ≠ l := fun e => by subst e; rw [h] at hu; cases hu; cases hc
    exact (World.putObj_heap_other hne).trans hu⟩
/-- Where the iterator stands: what it captured, and the layout's places. -/
structure SlAt (base W : World) (b1 b2 : Nat) (x : Lay) (A1 : Option Addr) (c1 : Nat) (A2 : Option Addr) (c2 : Nat) (c : Int) : Prop where
  below : Below base.heap.size base W
  lay : W.heap[b1]? = some (.cells (layCells x A1 c1 A2 c2) 64 (0, 0))
  cnt : W.heap[b2]? = some (.cells #[.int .i64 c] 3 (0, 0))
theorem SlAt.kp {base W W' : World} {b1 b2 : Nat} {c : Int} (h : SlAt base W b1 b2 x A1 c1 A2 c2 c) (k : KpY base.heap.size b1 b2 W W') : SlAt base W' b1 b2 x A1 c1 A2 c2 c := ⟨h.below.trans k.1, k.2.2 b1 (_, _) (.inl rfl) h.lay, k.2.2 b2 (_, _) (.inr rfl) h.cnt⟩
theorem SlAt.on {base W W' : World} {b1 b2 : Nat} {c : Int} (h : SlAt base W b1 b2 x A1 c1 A2 c2 c) (hb : Below W.heap.size W W') : SlAt base W' b1 b2 x A1 c1 A2 c2 c := ⟨h.below.on hb, (hb.block _ (block_lt h.lay)).trans h.lay, (hb.block _ (block_lt h.cnt)).trans h.cnt⟩
def isPre (xs ys : List Int) : Prop := xs <+: ys
theorem take_snoc {l : List Int} {k : Nat} (h : k < l.length) : l.take (k + 1) = l.take k ++ [l.getD k 0] := by
  rw [List.take_succ_eq_append_getElem h]; simp [List.getD, h]
/-- The places up to the k-th of record r. -/
def Lay.partTo (x : Lay) (r k : Nat) : List Int := x.slots r ++ (x.recs.take k).map fun p => x.fixed + r * x.record + p
theorem Lay.partTo_zero (x : Lay) (r : Nat) : x.partTo r 0 = x.slots r := by simp [Lay.partTo]
theorem Lay.partTo_all (x : Lay) (r : Nat) : x.partTo r x.recs.length = x.slots (r + 1) := by
  unfold Lay.partTo; rw [Lay.slots_succ, List.take_length]
theorem Lay.partTo_snoc (x : Lay) (r : Nat) {k : Nat} (h : k < x.recs.length) : x.partTo r (k + 1) = x.partTo r k ++ [x.fixed + r * x.record + x.recs.getD k 0] := by
  unfold Lay.partTo; rw [take_snoc h, List.map_append, ← List.append_assoc]; rfl
theorem Lay.slots_pre (x : Lay) : ∀ {r c : Nat}, r ≤ c → x.slots r <+: x.slots c
  | r, c, h => by
    induction c with
    | zero => obtain rfl : r = 0 := by omega
              exact List.prefix_refl _
    | succ c ih =>
      by_cases e : r = c + 1
      · subst e; exact List.prefix_refl _
      · rw [Lay.slots_succ]
        exact (ih (by omega)).trans (List.prefix_append _ _)
theorem Lay.partTo_pre (x : Lay) {r k c : Nat} (h : r < c) : x.partTo r k <+: x.slots c := by
  refine List.IsPrefix.trans ?_ (Lay.slots_pre x (show r + 1 ≤ c from h))
  rw [Lay.slots_succ]
  unfold Lay.partTo
  exact (List.prefix_append_right_inj _).2 ((List.take_prefix _ _).map _)
theorem Lay.refs_pre (x : Lay) (k c : Nat) : x.refs.take k <+: x.slots c := by
  refine List.IsPrefix.trans (List.take_prefix _ _) ?_
  have := Lay.slots_pre x (Nat.zero_le c)
  rwa [Lay.slots_zero] at this
theorem pre_lt {l : List Int} {y : Int} {xs : List Int} (h : (l ++ [y]) <+: xs) : l.length < xs.length := by
  have := h.length_le
  simp at this; omega
set_option maxRecDepth 100000 in
set_option maxHeartbeats 1000000 in
theorem slots1_in (n : Nat) (hn : 1 ≤ n) (l b1 b2 N : Nat) (J Jx : List Int → World → Prop) (base : World) (c : Int) (hL : LayIs base x A1 c1 A2 c2) (xs : List Int) (hxs : xs = if (x.size c).2 = 0 then x.slots c.toNat else []) (hN : xs.length ≤ N)
    (hY : ∀ pre y W, J pre W → pre.length < N → YieldAt Fence.wide (n - 1) Tryz.prog l #[.int .i64 y] W fun e W' =>
      (e = .returned (.bool true) ∧ J (pre ++ [y]) W' ∧ KpY base.heap.size b1 b2 W W') ∨ (e = .returned (.bool false) ∧ Jx (pre ++ [y]) W'))
    (W : World) (hS : SlAt base W b1 b2 x A1 c1 A2 c2 c) (hJ : AbidesFrom W.heap.size J) (h0 : J [] W) :
    CallsIn Fence.wide n Tryz.prog 68 #[.func (.yield l) #[] #[], .pointer (some ⟨b1, 0, none⟩), .pointer (some ⟨b2, 0, none⟩)] W fun e W' => (∃ v, e = .returned v) ∧
      ((∃ ys, ys = xs ∧ J ys W') ∨ (∃ pre, isPre pre xs ∧ Jx pre W')) := by
  have hA : Hid (∀ X, LayIs X x A1 c1 A2 c2 → Calls Tryz.prog 69 #[.agg #[.int .i64 x.fixed, .slice A1 x.refs.length c1, .int .i64 x.record, .slice A2 x.recs.length c2], .int .i64 c] X fun e w' => e = .returned (.tuple #[.int .i64 (x.size c).1, .int .i64 (x.size c).2]) ∧ Below X.heap.size X w') := Lib.hid (fun X hX => size_any _ _ _ _ _ _ X hX)
  have HL0 := Lib.hid hL
  have HS := Lib.hid hS
  have hlay := hS.lay
  unfold layCells at hlay
  have e0 := (blk_cells hlay 0).trans rfl
  have e1 := (blk_cells hlay 1).trans rfl
  have e2 := (blk_cells hlay 2).trans rfl
  have e3 := (blk_cells hlay 3).trans rfl
  have e4 := (blk_cells hS.cnt 0).trans rfl
  clear hS hL hlay
  refine callsIn_of_wp Tryz.func68 rfl trivial ?_ rfl
  simp only [Tryz.ntmps68, List.size_toArray, List.length_cons, List.length_nil, Nat.reduceAdd, Nat.reduceSub, Array.replicate_succ, Array.replicate_zero, List.push_toArray, List.append_toArray, List.nil_append, List.cons_append]
  gi_wp2_with fail
  refine ⟨trivial, (callsIn_wide.2 (hA.out _ (HL0.out.on HS.out.below))).mono ?_⟩
  rintro e w1 ⟨rfl, hb⟩
  have HS1 := Lib.hid (HS.out.on hb)
  have hJ1 : J [] w1 := hJ _ _ _ none h0 (below_grown hb) (fun r e => by cases e)
  have g0 := cell_on hb e0
  have g1 := cell_on hb e1
  have g2 := cell_on hb e2
  have g3 := cell_on hb e3
  clear hb e0 e1 e2 e3 e4 hA HS
  by_cases hz : (x.size c).2 = 0
  · rw [if_pos hz] at hxs
    have hok := Lay.size_ok hz
    have hr := Lay.right_out hok.1
    have hl1 := rise_len hr.2.2.2.2.2.1 hr.1
    have hl2 := rise_len hr.2.2.2.2.2.2 hr.2.2.1
    have hmul : 0 ≤ c * x.record := Int.mul_nonneg hok.2.1 hr.2.2.1
    obtain ⟨cn, rfl⟩ : ∃ cn : Nat, c = cn := ⟨c.toNat, by omega⟩
    rw [Int.toNat_natCast] at hxs
    rw [hz, hok.2.2.2.2.1]
    have hn8 : x.fixed + cn * x.record < 8192 := by have := hok.2.2.2.2.2; omega
    have HRP := Lib.hid hok.2.2.2.1
    have HRR := Lib.hid (rise_all hr.2.2.2.2.2.2).2
    have hF0 := hr.1
    have hF1 := hr.2.1
    have hR0 := hr.2.2.1
    have hR1 := hr.2.2.2.1
    have HN : Hid (∀ l y, (l ++ [y]) <+: xs → l.length < N) := Lib.hid (fun l y h => by have := pre_lt h; omega)
    have HX := Lib.hid hxs
    clear hz hok hr hxs hN
    gi_wp2_with fail
    gi_loopw [22] (fun v22 wr => ∃ k : Nat, k ≤ x.refs.length ∧ v22 = .int .i64 k ∧ Hid (SlAt base wr b1 b2 x A1 c1 A2 c2 cn) ∧ J (x.refs.take k) wr) (fun v22 _ => x.refs.length - (intOf v22).toNat)
    case atStart => exact ⟨0, by omega, rfl, HS1, by simpa using hJ1⟩
    case round =>
      obtain ⟨k, hk, rfl, HSk, hJk⟩ := hrel
      clear g0 g1 g2 g3 HS1 hJ1
      have hlay := HSk.out.lay
      unfold layCells at hlay
      have g0 := (blk_cells hlay 0).trans rfl
      have g1 := (blk_cells hlay 1).trans rfl
      have g2 := (blk_cells hlay 2).trans rfl
      have g3 := (blk_cells hlay 3).trans rfl
      clear hlay
      by_cases hlt : k < x.refs.length
      · obtain ⟨b, o, rfl, hx⟩ := intsY_at (HL0.out.on HSk.out.below).h1 k hlt
        have hpre : (x.refs.take k ++ [x.refs.getD k 0]) <+: xs := by rw [← take_snoc hlt, HX.out]; exact Lay.refs_pre x _ _
        obtain ⟨fn, tmps, assign, body, hy, hR⟩ := hY (x.refs.take k) (x.refs.getD k 0) wr hJk (HN.out _ _ hpre)
        rw [← take_snoc hlt] at hR hpre
        generalize x.refs.getD k 0 = p at *
        gi_wp2
        refine hR.mono ?_
        rintro e W3 (⟨rfl, hJ3, hk3⟩ | ⟨rfl, hJx3⟩)
        · have HS3 := Lib.hid (HSk.out.kp hk3)
          clear hk3 g0 g1 g2 g3
          gi_wp2
          go_roundw
          case rel => exact ⟨k + 1, by omega, by go_num, HS3, hJ3⟩
          case measure => simp [intOf]; omega
        · gi_wp2
          refine bodyPost_ret (results_none rfl _ _ _) rfl ?_
          exact ⟨⟨_, rfl⟩, .inr ⟨_, hpre, hJx3⟩⟩
      · obtain rfl : k = x.refs.length := by omega
        rw [List.take_length, ← Lay.slots_zero x] at hJk
        gi_wp2_with fail
        gi_loopw [8] (fun v8 wr => ∃ r : Nat, r ≤ cn ∧ v8 = .int .i64 (x.fixed + r * x.record) ∧ Hid (SlAt base wr b1 b2 x A1 c1 A2 c2 cn) ∧ J (x.slots r) wr) (fun v8 _ => (x.fixed + cn * x.record - intOf v8).toNat)
        case atStart => exact ⟨0, by omega, by simp, HSk, hJk⟩
        case round =>
          obtain ⟨r, hr, rfl, HSr, hJr⟩ := hrel
          clear g0 g1 g2 g3 HSk hJk
          have hlay := HSr.out.lay
          unfold layCells at hlay
          have g0 := (blk_cells hlay 0).trans rfl
          have g1 := (blk_cells hlay 1).trans rfl
          have g2 := (blk_cells hlay 2).trans rfl
          have g3 := (blk_cells hlay 3).trans rfl
          clear hlay
          by_cases hrc : r < cn
          · have hRpos : 0 < x.record := HRP.out (by omega)
            have hstep := mul_step r x.record
            have hle : ((r + 1 : Nat) : Int) * x.record ≤ cn * x.record := Int.mul_le_mul_of_nonneg_right (by omega) hR0
            have hr0 : 0 ≤ (r : Int) * x.record := Int.mul_nonneg (by omega) hR0
            obtain ⟨fr, hfr⟩ : ∃ fr, fr = x.fixed + r * x.record := ⟨_, rfl⟩
            have HFR := Lib.hid hfr
            rw [← hfr]
            have d0 : decide (fr < x.fixed + cn * x.record) = true := decide_eq_true (by omega)
            have hfr0 : 0 ≤ fr := by omega
            have hfr1 : fr < 8192 := by omega
            have hnx : fr + x.record = x.fixed + ((r + 1 : Nat) : Int) * x.record := by rw [hstep]; omega
            have HNX := Lib.hid hnx
            have HLT : Hid (fr < x.fixed + cn * x.record ∧ fr < x.fixed + ((r + 1 : Nat) : Int) * x.record) := Lib.hid ⟨by omega, by rw [hstep]; omega⟩
            clear hfr hstep hle hr0 hnx
            gi_wp2_with fail
            gi_loopw [43] (fun v43 wr => ∃ k : Nat, k ≤ x.recs.length ∧ v43 = .int .i64 k ∧ Hid (SlAt base wr b1 b2 x A1 c1 A2 c2 cn) ∧ J (x.partTo r k) wr) (fun v43 _ => x.recs.length - (intOf v43).toNat)
            case atStart => exact ⟨0, by omega, rfl, HSr, by rw [Lay.partTo_zero]; exact hJr⟩
            case round =>
              obtain ⟨k, hk, rfl, HSk, hJk⟩ := hrel
              clear g0 g1 g2 g3 HSr hJr
              have hlay := HSk.out.lay
              unfold layCells at hlay
              have g0 := (blk_cells hlay 0).trans rfl
              have g1 := (blk_cells hlay 1).trans rfl
              have g2 := (blk_cells hlay 2).trans rfl
              have g3 := (blk_cells hlay 3).trans rfl
              clear hlay
              by_cases hlt : k < x.recs.length
              · obtain ⟨b, o, rfl, hx⟩ := intsY_at (HL0.out.on HSk.out.below).h2 k hlt
                have hq := HRR.out _ (mem_getD hlt)
                have hpre : (x.partTo r k ++ [fr + x.recs.getD k 0]) <+: xs := by rw [HFR.out, ← Lay.partTo_snoc x r hlt, HX.out]; exact Lay.partTo_pre x hrc
                obtain ⟨fn, tmps, assign, body, hy, hR⟩ := hY (x.partTo r k) (fr + x.recs.getD k 0) wr hJk (HN.out _ _ hpre)
                have hsn := Lay.partTo_snoc x r hlt
                rw [← HFR.out] at hsn
                rw [← hsn] at hR hpre
                clear hsn
                generalize x.recs.getD k 0 = p at *
                have hw : wrap64 (fr + p) = fr + p := by unfold wrap64; omega
                gi_wp2
                refine hR.mono ?_
                rintro e W3 (⟨rfl, hJ3, hk3⟩ | ⟨rfl, hJx3⟩)
                · have HS3 := Lib.hid (HSk.out.kp hk3)
                  clear hk3 g0 g1 g2 g3
                  gi_wp2
                  go_roundw
                  case rel => exact ⟨k + 1, by omega, by go_num, HS3, hJ3⟩
                  case measure => simp [intOf]; omega
                · gi_wp2
                  refine bodyPost_ret (results_none rfl _ _ _) rfl ?_
                  exact ⟨⟨_, rfl⟩, .inr ⟨_, hpre, hJx3⟩⟩
              · obtain rfl : k = x.recs.length := by omega
                rw [Lay.partTo_all] at hJk
                gi_wp2_with fail
                go_roundw
                case rel => exact ⟨r + 1, by omega, by rw [← HNX.out], HSk, hJk⟩
                case measure =>
                  have := HLT.out.1
                  simp only [intOf]; omega
          · obtain rfl : r = cn := by omega
            rw [← HX.out] at hJr
            gi_wp2
            go_end0
            exact ⟨⟨_, rfl⟩, .inl ⟨_, rfl, hJr⟩⟩
  · rw [if_neg hz] at hxs
    have d : ((x.size c).2 != 0) = true := by simpa using hz
    generalize (x.size c).2 = s2 at *
    generalize (x.size c).1 = s1 at *
    clear hz
    subst hxs
    gi_wp2
    refine bodyPost_ret (results_none rfl _ _ _) rfl ?_
    exact ⟨⟨_, rfl⟩, .inl ⟨_, rfl, hJ1⟩⟩
end Go.Proofs.YtfflacggaebonaaGreatDoor
end
section
namespace Go.Proofs.YtfflacggaebonaaGreatDoor
open Go.RowKit Go.Shelf
set_option linter.unusedVariables false
set_option linter.unusedSimpArgs false
attribute [local go_sem] Oper.semAt_some
variable {w w' : World} {x : Lay} {A1 A2 : Option Addr} {c1 c2 : Nat}
/-- What is told of a layout and a count. -/
def Lay.told (x : Lay) (c : Int) : List Int := if (x.size c).2 = 0 then x.slots c.toNat else []
theorem Lay.told_upTo {x : Lay} {c : Int} (h : (x.size c).2 = 0) : x.told c = x.upTo (x.size c).1.toNat := by
  obtain ⟨h1, h2, h3, h4, h5, h6⟩ := Lay.size_ok h
  have hr := Lay.right_out h1
  have hm : 0 ≤ c * x.record := Int.mul_nonneg h2 hr.2.2.1
  unfold Lay.told
  rw [if_pos h]
  refine Lay.slots_upTo h1 _ _ (fun hc => h4 (by omega)) ?_
  rw [show ((c.toNat : Nat) : Int) = c by omega, h5]
  omega
theorem Lay.told_le (x : Lay) (c : Int) : (x.told c).length ≤ 8192 := by
  by_cases h : (x.size c).2 = 0
  · rw [Lay.told_upTo h]
    have := Lay.upTo_le x (x.size c).1.toNat
    have := (Lay.size_ok h).2.2.2.2.2
    omega
  · unfold Lay.told; rw [if_neg h]; simp
theorem own_less {w : World} {b b' : Nat} {e : TypeId} {size n : Nat} {v : Value} {xs : List Value} (h : w.ownsRow b e size v n xs) (hb : b' ≤ b) : w.ownsRow b' e size v n xs := by
  obtain ⟨h1, h2⟩ := h
  refine ⟨h1, ?_⟩
  rcases h2 with h2 | ⟨g, cap, cur, hv, hg, r⟩
  · exact .inl h2
  · exact .inr ⟨g, cap, cur, hv, by omega, r⟩
theorem slots_in (n : Nat) (x : Lay) (A1 : Option Addr) (c1 : Nat) (A2 : Option Addr) (c2 : Nat) (c : Int) (w : World) : CallsIn Fence.wide n Tryz.prog 40 #[.agg #[.int .i64 x.fixed, .slice A1 x.refs.length c1, .int .i64 x.record, .slice A2 x.recs.length c2], .int .i64 c] w fun e w' => e = .returned (.func (.func 68) #[] #[.pointer (some ⟨w.heap.size, 0, none⟩), .pointer (some ⟨w.heap.size + 1, 0, none⟩)]) ∧ w' = (w.alloc (.cells #[.int .i64 x.fixed, .slice A1 x.refs.length c1, .int .i64 x.record, .slice A2 x.recs.length c2] 64)).alloc (.cells #[.int .i64 c] 3) := by
  refine callsIn_of_wp Tryz.func40 rfl trivial ?_ rfl
  simp only [Tryz.ntmps40, List.size_toArray, List.length_cons, List.length_nil, Nat.reduceAdd, Nat.reduceSub, Array.replicate_succ, Array.replicate_zero, List.push_toArray, List.append_toArray, List.nil_append, List.cons_append]
  gi_wp2
  go_ret
  exact ⟨rfl, rfl⟩
end Go.Proofs.YtfflacggaebonaaGreatDoor
end
section
namespace Go.Proofs
open Go.Shelf
def Tryz.lays129_ren : Go.Shelf.Ren := ⟨fun | 129 => 94 | n => n, fun | 53 => 33 | 3 => 3 | 4 => 4 | 46 => 168 | 5 => 5 | 9 => 9 | n => n, fun | n => n⟩
theorem Tryz.lays129 : Go.Proofs.Lays.n129 Tryz.prog Tryz.lays129_ren := {
  mixed := by kernel_rfl
  f129 := Tryz.func94.trans (congrArg some (by kernel_rfl))
  t3 := Tryz.underlying3
  a3 := Tryz.isAgg3
  z3 := Tryz.sizeOf3
  v3 := Tryz.zeroValue3
  t4 := Tryz.underlying4
  a4 := Tryz.isAgg4
  z4 := Tryz.sizeOf4
  v4 := Tryz.zeroValue4
  t5 := Tryz.underlying5
  a5 := Tryz.isAgg5
  z5 := Tryz.sizeOf5
  v5 := Tryz.zeroValue5
  t9 := Tryz.underlying9
  a9 := Tryz.isAgg9
  z9 := Tryz.sizeOf9
  v9 := Tryz.zeroValue9
  t46 := Tryz.underlying168
  a46 := Tryz.isAgg168
  z46 := Tryz.sizeOf168
  v46 := Tryz.zeroValue168
  t53 := Tryz.underlying33
  a53 := Tryz.isAgg33
  z53 := Tryz.sizeOf33
  v53 := Tryz.zeroValue33 }
theorem Tryz.bits_Len64 (x : Int) (w : World) (h0 : 0 ≤ x) (h1 : x ≤ 18446744073709551615) :
    Calls Tryz.prog 94 #[.int .u64 x] w fun e w' => e = .returned (.int .i64 (Lib.bitLen x.toNat)) ∧ w' = w := Any.bits_Len64 Tryz.lays129 x w h0 h1
def Tryz.laysNm215_ren : Go.Shelf.Ren := ⟨fun | 15 => 80 | n => n, fun | 22 => 42 | 3 => 3 | 4 => 4 | n => n, fun | n => n⟩
theorem Tryz.laysNm215 : Go.Proofs.Lays2.n15 Tryz.prog Tryz.laysNm215_ren := {
  mixed := by kernel_rfl
  f15 := Tryz.func80.trans (congrArg some (by kernel_rfl))
  t3 := Tryz.underlying3
  a3 := Tryz.isAgg3
  z3 := Tryz.sizeOf3
  v3 := Tryz.zeroValue3
  t4 := Tryz.underlying4
  a4 := Tryz.isAgg4
  z4 := Tryz.sizeOf4
  v4 := Tryz.zeroValue4
  t22 := Tryz.underlying42
  a22 := Tryz.isAgg42
  z22 := Tryz.sizeOf42
  v22 := Tryz.zeroValue42
  i3 := by kernel_rfl }
open Go.RowKit Go.Lib in
theorem Tryz.slices_Clone_int (b off n c : Nat) (zs : List Int) (w : World) (hz : n ≤ zs.length) (hbig : n * 8 ≤ 140737488355328) (hc : ∀ j, j < zs.length → w.cell? ⟨b, off + j, none⟩ = some (.int .i64 (zs.getD j 0))) :
    Calls Tryz.prog 80 #[.slice (some ⟨b, off, none⟩) n c] w fun e w' => ∃ v', e = .returned v' ∧ w'.ownsRow w.heap.size 3 1 v' n ((zs.take n).map (Value.int .i64)) ∧ v' ≠ .slice none 0 0 ∧ Below w.heap.size w w' := Any.slices_Clone_int Tryz.laysNm215 b off n c zs w hz hbig hc
open Go.RowKit Go.Lib in
theorem Tryz.slices_Clone_int_nil (n c : Nat) (w : World) :
    Calls Tryz.prog 80 #[.slice none n c] w fun e w' => e = .returned (.slice none 0 0) ∧ w' = w := Any.slices_Clone_int_nil Tryz.laysNm215 n c w
open Go.RowKit Go.Lib in
theorem Tryz.slices_Clone_int_zero (a : Addr) (c : Nat) (w : World) :
    Calls Tryz.prog 80 #[.slice (some a) 0 c] w fun e w' => ∃ v', e = .returned v' ∧ w'.ownsRow w.heap.size 3 1 v' 0 [] ∧ v' ≠ .slice none 0 0 ∧ Below w.heap.size w w' := Any.slices_Clone_int_zero Tryz.laysNm215 a c w
end Go.Proofs
end
section
namespace Go.Proofs.YtfflacggaebonaaGreatDoor
open Go.RowKit
set_option linter.unusedVariables false
set_option linter.unusedSimpArgs false
variable {w w' : World}
def OwnPost (l : List Int) (w : World) (e : Ending) (W' : World) : Prop := ∃ v, e = .returned v ∧ W'.ownsRow w.heap.size 3 1 v l.length (l.flatMap encI) ∧ Below w.heap.size w W'
theorem enc_map (l : List Int) : l.flatMap encI = l.map (Value.int .i64) := by induction l with
  | nil => rfl
  | cons a t ih => simp only [List.flatMap_cons, List.map_cons, ih]; rfl
theorem clone_any (A : Option Addr) (l : List Int) (c : Nat) (w : World) (hl : SliceOf w A 1 encI 0 l) (hc : l.length ≤ 100) : Calls Tryz.prog 80 #[.slice A l.length c] w (OwnPost l w) := by
  by_cases h0 : l = []
  · subst h0
    cases A with
    | none => exact (Tryz.slices_Clone_int_nil _ c w).mono fun e w' ⟨he, hw⟩ => ⟨_, he, by rw [hw]; exact World.ownsRow_nil _ _ _ _, by rw [hw]; exact Below.refl _ _⟩
    | some a => exact (Tryz.slices_Clone_int_zero a c w).mono fun e w' ⟨v, he, hr, _, hb⟩ => ⟨v, he, hr, hb⟩
  · have hpos : 0 < l.length := List.length_pos_iff.2 h0
    obtain ⟨b, o, rfl, _⟩ := hl 0 hpos
    refine (Tryz.slices_Clone_int b o l.length c l w (Nat.le_refl _) (by omega) (fun j hj => ?_)).mono fun e w' ⟨v, he, hr, _, hb⟩ => ⟨v, he, ?_, hb⟩
    · obtain ⟨_, _, e, hx⟩ := intsY_at hl j hj
      cases e
      exact hx
    · rw [enc_map]
      rwa [List.take_length] at hr
theorem results_cell1 {fn : Func} {p : Tmp} {ty : TypeId} (h : fn.results = #[.cell p ty]) (tmps : Array Value) (P : Program) (w : World) :
    (results fn tmps).run P w = ((asAddr (tmps.getD p undef)).run P w).andThen fun a w₁ => (loadVar ty a).run P w₁ := by
  simp only [results, h]
  simp [Sem.run_bind, Result.andThen]
theorem own_x {base k n : Nat} {t : TypeId} {v : Value} {xs : List Value} {cs : Array Value} (h : w.ownsRow base 3 1 v n xs) (hk : w.heap[k]? = some (.cells cs t (0, 0))) (ht : t ≠ 3) : v.ownBlock ≠ some k := by
  rcases h.2 with ⟨rfl, _⟩ | ⟨g, cap, cur, rfl, _, hg, _⟩
  · simp [Value.ownBlock]
  · intro e
    obtain rfl : g = k := by simpa [Value.ownBlock] using e
    rw [hk] at hg
    cases hg
    exact ht rfl
theorem grown_set (w : World) (b i : Nat) (v : Value) : w.grownBy (w.setCell ⟨b, i, none⟩ v) (some b) :=
  ⟨rfl, rfl, rfl, by simp [World.setCell], fun k _ hk => Below.heap_setCell _ _ _ _ (fun e => hk (by simp [e]))⟩
/-- TwoY rows of numbers, and two blocks of layouts. -/
structure TwoY (w base : World) (b1 b2 : Nat) (v1 v2 : Value) (l1 l2 : List Int) (p q : Nat) : Prop where
  o1 : w.ownsRow b1 3 1 v1 l1.length (l1.flatMap encI)
  o2 : w.ownsRow b2 3 1 v2 l2.length (l2.flatMap encI)
  hp : ∃ cs, w.heap[p]? = some (.cells cs 64 (0, 0))
  hq : ∃ cs, w.heap[q]? = some (.cells cs 64 (0, 0))
  lp : base.heap.size ≤ p
  lq : base.heap.size ≤ q
  below : Below base.heap.size base w
theorem TwoY.set {base : World} {b1 b2 p q k : Nat} {v1 v2 : Value} {l1 l2 : List Int} (h : TwoY w base b1 b2 v1 v2 l1 l2 p q) (hk : k = p ∨ k = q) (i : Nat) (u : Value) : TwoY (w.setCell ⟨k, i, none⟩ u) base b1 b2 v1 v2 l1 l2 p q := by
  have hb : ∃ cs, w.heap[k]? = some (.cells cs 64 (0, 0)) := by rcases hk with rfl | rfl; exact h.hp; exact h.hq
  obtain ⟨cs, hcs⟩ := hb
  have hkb : ∀ (j : Nat) (cs' : Array Value), w.heap[j]? = some (.cells cs' 64 (0, 0)) → ∃ cs'' : Array Value, (w.setCell ⟨k, i, none⟩ u).heap[j]? = some (.cells cs'' 64 (0, 0)) := fun j cs' hj => by
    by_cases e : j = k
    · subst e; exact ⟨_, blk_set hj i u⟩
    · exact ⟨_, blk_far hj _ _ e⟩
  obtain ⟨cp, hcp⟩ := h.hp
  obtain ⟨cq, hcq⟩ := h.hq
  exact ⟨h.o1.kept (grown_set w k i u) (.inr (own_x h.o1 hcs (by decide))), h.o2.kept (grown_set w k i u) (.inr (own_x h.o2 hcs (by decide))), hkb _ _ hcp, hkb _ _ hcq, h.lp, h.lq, h.below.setCell (p := ⟨k, i, none⟩) (by rcases hk with rfl | rfl; exact h.lp; exact h.lq) u⟩
def OwnLay (x : Lay) (w : World) (e : Ending) (w' : World) : Prop := ∃ u1 u2, e = .returned (.agg #[.int .i64 x.fixed, u1, .int .i64 x.record, u2]) ∧ w'.ownsRow w.heap.size 3 1 u1 x.refs.length (x.refs.flatMap encI) ∧ w'.ownsRow w.heap.size 3 1 u2 x.recs.length (x.recs.flatMap encI) ∧ Below w.heap.size w w'
set_option maxRecDepth 100000 in
set_option maxHeartbeats 2000000 in
theorem own_lay (x : Lay) (A1 : Option Addr) (c1 : Nat) (A2 : Option Addr) (c2 : Nat) (w : World) (h : LayIs w x A1 c1 A2 c2) (m1 : x.refs.length ≤ 100) (m2 : x.recs.length ≤ 100) :
    Calls Tryz.prog 56 #[layV x A1 c1 A2 c2] w (OwnLay x w) := by
  have HC1 : Hid (∀ W, Below w.heap.size w W → Calls Tryz.prog 80 #[.slice A1 x.refs.length c1] W (OwnPost x.refs W)) := Lib.hid (fun W hW => clone_any _ _ _ W (h.on hW).h1 m1)
  have HC2 : Hid (∀ W, Below w.heap.size w W → Calls Tryz.prog 80 #[.slice A2 x.recs.length c2] W (OwnPost x.recs W)) := Lib.hid (fun W hW => clone_any _ _ _ W (h.on hW).h2 m2)
  have hb1 := below1 w (.cells #[.int .i64 x.fixed, .slice A1 x.refs.length c1, .int .i64 x.record, .slice A2 x.recs.length c2] 64)
  have hl1 := heap_alloc_new w (.cells #[.int .i64 x.fixed, .slice A1 x.refs.length c1, .int .i64 x.record, .slice A2 x.recs.length c2] 64)
  have hz1 : (w.alloc (.cells #[.int .i64 x.fixed, .slice A1 x.refs.length c1, .int .i64 x.record, .slice A2 x.recs.length c2] 64)).heap.size = w.heap.size + 1 := World.size_alloc _ _
  unfold layV
  go_enter Tryz.func56, Tryz.ntmps56
  go_wp2_with fail
  generalize hW1 : w.alloc (.cells #[.int .i64 x.fixed, .slice A1 x.refs.length c1, .int .i64 x.record, .slice A2 x.recs.length c2] 64) = W1 at *
  have hb2 := hb1.on (below1 W1 (.cells #[.int .i64 0, .slice none 0 0, .int .i64 0, .slice none 0 0] 64))
  have hl2 := (Below.heap_alloc W1 (.cells #[.int .i64 0, .slice none 0 0, .int .i64 0, .slice none 0 0] 64) _ (block_lt hl1)).trans hl1
  have hr2 := heap_alloc_new W1 (.cells #[.int .i64 0, .slice none 0 0, .int .i64 0, .slice none 0 0] 64)
  rw [hz1] at hr2
  generalize hW2 : W1.alloc (.cells #[.int .i64 0, .slice none 0 0, .int .i64 0, .slice none 0 0] 64) = W2 at *
  clear hW1 hW2 hb1 hl1
  have k0 := (blk_cells hl2 0).trans rfl
  have k1 := (blk_cells hl2 1).trans rfl
  have k2 := (blk_cells hl2 2).trans rfl
  have k3 := (blk_cells hl2 3).trans rfl
  have t1 := blk_thaw hl2 1
  have t3 := blk_thaw hl2 3
  go_region_law (first | (go_simp; go_at_call 80; first | (refine (HC1.out _ (below_drewN hb2 1)).mono ?_; rintro e w4 ⟨v4, rfl, hv4, hb4⟩; clear HC1; obtain ⟨A4, c4, e4, hc4, -⟩ := own_slice encI 0 (fun _ => rfl) hv4; subst e4; have zb := (hb4.block _ (block_lt hl2)).trans hl2; have k0 := (blk_cells zb 0).trans rfl; have k1 := (blk_cells zb 1).trans rfl; have k2 := (blk_cells zb 2).trans rfl; have k3 := (blk_cells zb 3).trans rfl; have t1 := blk_thaw zb 1; have t3 := blk_thaw zb 3) | (refine (HC2.out _ ((below_drewN hb2 1).on hb4)).mono ?_; rintro e w5 ⟨v5, rfl, hv5, hb5⟩; obtain ⟨A5, c5, e5, hc5, -⟩ := own_slice encI 0 (fun _ => rfl) hv5; subst e5; have zb5 := (hb5.block _ (block_lt zb)).trans zb; have k0 := (blk_cells zb5 0).trans rfl; have k1 := (blk_cells zb5 1).trans rfl; have k2 := (blk_cells zb5 2).trans rfl; have k3 := (blk_cells zb5 3).trans rfl; have t1 := blk_thaw zb5 1; have t3 := blk_thaw zb5 3)))
  all_goals
    have zr5 := (hb5.block _ (Nat.lt_of_lt_of_le (block_lt hr2) hb4.size)).trans ((hb4.block _ (block_lt hr2)).trans hr2)
    have HTW : Hid (TwoY w5 w W2.drew.heap.size w4.heap.size (.slice A4 x.refs.length c4) (.slice A5 x.recs.length c5) x.refs x.recs w.heap.size (w.heap.size + 1)) := Lib.hid ⟨own_on hv4 hb5, hv5, ⟨_, zb5⟩, ⟨_, zr5⟩, Nat.le_refl _, by omega, ((below_drewN hb2 1).on hb4).on hb5⟩
    have hW2 : w.heap.size ≤ W2.drew.heap.size := hb2.size
    have hW4 : w.heap.size ≤ w4.heap.size := Nat.le_trans hW2 hb4.size
    have r0 := (blk_cells zr5 0).trans rfl
    have r1 := (blk_cells zr5 1).trans rfl
    have r2 := (blk_cells zr5 2).trans rfl
    have r3 := (blk_cells zr5 3).trans rfl
    have s0 := blk_thaw zr5 0
    have s1 := blk_thaw zr5 1
    have s2 := blk_thaw zr5 2
    have s3 := blk_thaw zr5 3
    clear hv4 hv5 hb4 hb5 zb zb5 zr5 hb2 hl2 hr2 HC2 h
    go_wp2
    (try simp only [Exit.inBlock, Exit.then])
    refine bodyPost_ret (v := .agg #[.int .i64 x.fixed, .slice A4 x.refs.length c4, .int .i64 x.record, .slice A5 x.recs.length c5]) ?_ rfl ⟨_, _, rfl, ?_, ?_, ?_⟩
    · rw [results_cell1 rfl]
      go_simp
      (try rfl)
    · exact own_less ((((((HTW.out.set (.inl rfl) 1 _).set (.inl rfl) 3 _).set (.inr rfl) 0 _).set (.inr rfl) 1 _).set (.inr rfl) 2 _).set (.inr rfl) 3 _).o1 hW2
    · exact own_less ((((((HTW.out.set (.inl rfl) 1 _).set (.inl rfl) 3 _).set (.inr rfl) 0 _).set (.inr rfl) 1 _).set (.inr rfl) 2 _).set (.inr rfl) 3 _).o2 hW4
    · exact ((((((HTW.out.set (.inl rfl) 1 _).set (.inl rfl) 3 _).set (.inr rfl) 0 _).set (.inr rfl) 1 _).set (.inr rfl) 2 _).set (.inr rfl) 3 _).below
end Go.Proofs.YtfflacggaebonaaGreatDoor
end
section
namespace Go.Proofs.YtfflacggaebonaaGreatDoor
open Go.RowKit
set_option linter.unusedVariables false
set_option linter.unusedSimpArgs false
variable {w w' : World} {lo : Nat} {T : Nat → Prop}
/-- A layout, and where its slices lie. -/
structure LayR where
  x : Lay
  A1 : Option Addr
  c1 : Nat
  A2 : Option Addr
  c2 : Nat
def layREnc (r : LayR) : List Value := [.int .i64 r.x.fixed, .slice r.A1 r.x.refs.length r.c1, .int .i64 r.x.record, .slice r.A2 r.x.recs.length r.c2]
def layR0 : LayR := ⟨⟨0, [], 0, []⟩, none, 0, none, 0⟩
theorem infoLay : (Tryz.prog.info? 64).map (fun i => (i.zero, i.size, i.bytes)) = some (some (.agg #[.int .i64 0, .slice none 0 0, .int .i64 0, .slice none 0 0]), 4, 64) := by kernel_rfl
/-- Its slices are rows of their own. -/
structure Good (w : World) (r : LayR) : Prop where
  o1 : w.ownsRow 0 3 1 (.slice r.A1 r.x.refs.length r.c1) r.x.refs.length (r.x.refs.flatMap encI)
  o2 : w.ownsRow 0 3 1 (.slice r.A2 r.x.recs.length r.c2) r.x.recs.length (r.x.recs.flatMap encI)
  m1 : r.x.refs.length ≤ 64
  m2 : r.x.recs.length ≤ 64
theorem Good.on {r : LayR} (h : Good w r) (hb : Below w.heap.size w w') : Good w' r := { h with o1 := own_on h.o1 hb, o2 := own_on h.o2 hb }
theorem Good.lay {r : LayR} (h : Good w r) : LayIs w r.x r.A1 r.c1 r.A2 r.c2 := by
  obtain ⟨A, c, e, hc, hs⟩ := own_slice encI 0 (fun _ => rfl) h.o1
  cases e
  obtain ⟨A, c, e, hc', hs'⟩ := own_slice encI 0 (fun _ => rfl) h.o2
  cases e
  have := h.m1
  have := h.m2
  exact ⟨hs, hc, by unfold maxLen; omega, hs', hc', by unfold maxLen; omega⟩
theorem Good.grown {r : LayR} {row : Option Nat} (h : Good w r) (hg : w.grownBy w' row) (hr : ∀ k, row = some k → ∃ cs t, w.heap[k]? = some (.cells cs t (0, 0)) ∧ t ≠ 3) : Good w' r := by
  have key : ∀ {v : Value} {n : Nat} {xs : List Value}, w.ownsRow 0 3 1 v n xs → v.ownBlock = none ∨ v.ownBlock ≠ row := fun {v n xs} ho => by
    cases e : v.ownBlock with
    | none => exact .inl rfl
    | some k =>
      refine .inr (fun e2 => ?_)
      obtain ⟨cs, t, hk, ht⟩ := hr k e2.symm
      exact own_x ho hk ht e
  exact { h with o1 := h.o1.kept hg (key h.o1), o2 := h.o2.kept hg (key h.o2) }
/-- A book at its block. -/
structure BookAt (w : World) (P bd : Nat) (v : Value) (l : List LayR) : Prop where
  head : w.heap[P]? = some (.cells #[v] 122 (0, 0))
  row : w.ownsRow bd 64 4 v l.length (l.flatMap layREnc)
  good : ∀ r ∈ l, Good w r
  hP : P < bd
  le : bd ≤ w.heap.size
  many : l.length ≤ 64
theorem BookAt.on {P bd : Nat} {v : Value} {l : List LayR} (h : BookAt w P bd v l) (hb : Below w.heap.size w w') : BookAt w' P bd v l :=
  { h with head := (hb.block _ (block_lt h.head)).trans h.head, row := own_on h.row hb, good := fun r hr => (h.good r hr).on hb, le := Nat.le_trans h.le hb.size }
/-- Where a row lies, if it is one. -/
theorem own_mod {S : Nat → Prop} {e : TypeId} {s n bd : Nat} {v : Value} {xs : List Value} (h : w.ownsRow bd e s v n xs) (hm : Mod S w w') (hn : ∀ k, v.ownBlock = some k → ¬ S k) : w'.ownsRow bd e s v n xs := by
  refine ⟨h.1, ?_⟩
  rcases h.2 with hn' | ⟨g, cap, cur, rfl, hb, hgg, rest⟩
  · exact .inl hn'
  · exact .inr ⟨g, cap, cur, rfl, hb, hm.keeps hgg (hn g rfl), rest⟩
/-- A book's blocks. -/
def BookK (P : Nat) (v : Value) (l : List LayR) (k : Nat) : Prop := k = P ∨ v.ownBlock = some k ∨ ∃ r ∈ l, (Value.slice r.A1 r.x.refs.length r.c1).ownBlock = some k ∨ (Value.slice r.A2 r.x.recs.length r.c2).ownBlock = some k
theorem BookAt.mod {P bd : Nat} {v : Value} {l : List LayR} (h : BookAt w P bd v l) (hm : Mod T w w') (hn : ∀ k, BookK P v l k → ¬ T k) : BookAt w' P bd v l :=
  { h with head := hm.keeps h.head (hn _ (.inl rfl)), row := own_mod h.row hm (fun k e => hn k (.inr (.inl e))), le := Nat.le_trans h.le hm.size, good := fun r hr => { h.good r hr with o1 := own_mod (h.good r hr).o1 hm (fun k e => hn k (.inr (.inr ⟨r, hr, .inl e⟩))), o2 := own_mod (h.good r hr).o2 hm (fun k e => hn k (.inr (.inr ⟨r, hr, .inr e⟩))) } }
/-- A book of these layouts, whose blocks are none of T's. -/
def BookT (T : Nat → Prop) (w : World) (P : Nat) (ls : List Lay) : Prop := ∃ v l bd, BookAt w P bd v l ∧ l.map (·.x) = ls ∧ ∀ k, BookK P v l k → ¬ T k
theorem BookT.on {P : Nat} {ls : List Lay} (h : BookT T w P ls) (hb : Below w.heap.size w w') : BookT T w' P ls := by
  obtain ⟨v, l, bd, h1, h2, h3⟩ := h
  exact ⟨v, l, bd, h1.on hb, h2, h3⟩
theorem BookT.mod {P : Nat} {ls : List Lay} (h : BookT T w P ls) (hm : Mod T w w') : BookT T w' P ls := by
  obtain ⟨v, l, bd, h1, h2, h3⟩ := h
  exact ⟨v, l, bd, h1.mod hm h3, h2, h3⟩
theorem BookT.less {P : Nat} {ls : List Lay} {T' : Nat → Prop} (h : BookT T w P ls) (ht : ∀ k, T' k → T k) : BookT T' w P ls := by
  obtain ⟨v, l, bd, h1, h2, h3⟩ := h
  exact ⟨v, l, bd, h1, h2, fun k hk e => h3 k hk (ht k e)⟩
theorem own_row {bd n : Nat} {v : Value} {xs : List Value} (h : w.ownsRow bd 64 4 v n xs) : ∀ k, v.ownBlock = some k → ∃ cs t, w.heap[k]? = some (.cells cs t (0, 0)) ∧ t ≠ 3 := by
  rcases h.2 with ⟨rfl, _⟩ | ⟨g, cap, cur, rfl, _, hg, _⟩
  · intro k e; simp [Value.ownBlock] at e
  · intro k e
    obtain rfl : g = k := by simpa [Value.ownBlock] using e
    exact ⟨cur, _, hg, by decide⟩
theorem BookAt.added {P bd : Nat} {l : List LayR} {A : Option Addr} {cc g cap d1 d2 : Nat} {B1 B2 : Option Addr} {x : Lay} {w2 w4 w5 : World} {cs : Array Value} {b1 b2 : Nat} (h : BookAt w2 P bd (.slice A l.length cc) l) (hb4 : Below w2.drew.heap.size w2.drew w4)
    (ho1 : w4.ownsRow b1 3 1 (.slice B1 x.refs.length d1) x.refs.length (x.refs.flatMap encI)) (ho2 : w4.ownsRow b2 3 1 (.slice B2 x.recs.length d2) x.recs.length (x.recs.flatMap encI)) (m1 : x.refs.length ≤ 64) (m2 : x.recs.length ≤ 64) (hl : l.length < 64)
    (hgrow : (w4.alloc (.cells cs 64)).grownBy w5 (Value.slice A l.length cc).ownBlock) (hown' : w5.ownsRow bd 64 4 (.slice (some ⟨g, 0, none⟩) (l.length + 1) cap) (l.length + 1) (l.flatMap layREnc ++ layREnc ⟨x, B1, d1, B2, d2⟩)) (zp5 : w5.heap[P]? = some (.cells #[.slice A l.length cc] 122 (0, 0))) :
    BookAt (w5.setCell ⟨P, 0, none⟩ (.slice (some ⟨g, 0, none⟩) (l.length + 1) cap)) P bd (.slice (some ⟨g, 0, none⟩) (l.length + 1) cap) (l ++ [⟨x, B1, d1, B2, d2⟩]) := by
  have hPb := h.hP
  have hg := (hown'.lt g rfl).1
  have hd := h.on (below_drewN (Below.refl _ w2) 1)
  have h4 := BookAt.on (w := w2.drew) hd hb4
  have ha := h4.on (below1 w4 (.cells cs 64))
  have hrow := own_row ha.row
  have hset : ∀ k, some P = some k → ∃ cs t, w5.heap[k]? = some (.cells cs t (0, 0)) ∧ t ≠ 3 := fun k e => by cases e; exact ⟨_, _, zp5, by decide⟩
  have hn : Good w4 ⟨x, B1, d1, B2, d2⟩ := ⟨own_less ho1 (Nat.zero_le _), own_less ho2 (Nat.zero_le _), m1, m2⟩
  refine ⟨blk_set zp5 0 _, ?_, fun r hr => ?_, hPb, ?_, by simp; omega⟩
  · have := hown'.kept (grown_set w5 P 0 (.slice (some ⟨g, 0, none⟩) (l.length + 1) cap)) (.inr (fun e => by have : g = P := Option.some.inj e; omega))
    simpa using this
  · rcases List.mem_append.1 hr with hr | hr
    · exact ((ha.good r hr).grown hgrow hrow).grown (grown_set w5 P 0 _) hset
    · rw [List.mem_singleton] at hr
      subst hr
      exact ((hn.on (below1 w4 (.cells cs 64))).grown hgrow hrow).grown (grown_set w5 P 0 _) hset
  · have := ha.le
    have := hgrow.size
    simp [World.setCell]
    omega
/-- What an addition leaves as it was. -/
def Frame (w w' : World) (P : Nat) (v v' : Value) : Prop := Mod (fun j => j = P ∨ v.ownBlock = some j) w w' ∧ ∀ k, v'.ownBlock = some k → v.ownBlock = some k ∨ w.heap.size ≤ k
theorem Frame.of {P : Nat} {v : Value} (h : Below w.heap.size w w') : Frame w w' P v v := ⟨.of_below h, fun k e => .inl e⟩
theorem add_frame {P g n cap m cc : Nat} {A : Option Addr} {w2 w4 w5 : World} {o : Obj} (h2 : Below w.heap.size w w2) (hb4 : Below w2.drew.heap.size w2.drew w4) (hgrow : (w4.alloc o).grownBy w5 (Value.slice A m cc).ownBlock) (hat : (Value.slice A m cc).ownBlock = some g ∨ g = (w4.alloc o).heap.size) :
    Frame w (w5.setCell ⟨P, 0, none⟩ (.slice (some ⟨g, 0, none⟩) n cap)) P (.slice A m cc) (.slice (some ⟨g, 0, none⟩) n cap) := by
  have hs2 : w.heap.size ≤ w2.heap.size := h2.size
  have hs4 : w2.heap.size ≤ w4.heap.size := hb4.size
  refine ⟨?_, fun k e => ?_⟩
  · have a1 : Mod (fun j => j = P ∨ (Value.slice A m cc).ownBlock = some j) w w2 := .of_below h2
    have a2 : Mod (fun j => j = P ∨ (Value.slice A m cc).ownBlock = some j) w2 w4 := (Mod.drew (Mod.refl _ _)).trans (.of_below hb4)
    have a3 : Mod (fun j => j = P ∨ (Value.slice A m cc).ownBlock = some j) (w4.alloc o) w5 := ⟨hgrow.os, hgrow.tape, hgrow.output, hgrow.size, fun k hk hn => hgrow.block k hk (fun e => hn (.inr e.symm))⟩
    exact (((a1.trans a2).alloc o).trans a3).trans (Mod.setCell _ _ _ _ (.inl rfl))
  · obtain rfl : g = k := Option.some.inj e
    rcases hat with h | h
    · exact .inl h
    · right; rw [h, World.size_alloc]; omega
/-- A layout whose rows are new. -/
def NewR (w : World) (r : LayR) : Prop := ∀ k, (Value.slice r.A1 r.x.refs.length r.c1).ownBlock = some k ∨ (Value.slice r.A2 r.x.recs.length r.c2).ownBlock = some k → w.heap.size ≤ k
def AddPost (w : World) (P bd : Nat) (v : Value) (l : List LayR) (x : Lay) (e : Ending) (w' : World) : Prop :=
  (x.right = false ∧ e = .returned (.tuple #[.int .i64 0, .int .i64 2]) ∧ BookAt w' P bd v l ∧ Frame w w' P v v) ∨
  (x.right = true ∧ l.length = 64 ∧ e = .returned (.tuple #[.int .i64 0, .int .i64 5]) ∧ BookAt w' P bd v l ∧ Frame w w' P v v) ∨
  (x.right = true ∧ l.length < 64 ∧ ∃ v' r, r.x = x ∧ e = .returned (.tuple #[.int .i64 ((l.length + 1 : Nat) : Int), .int .i64 0]) ∧ BookAt w' P bd v' (l ++ [r]) ∧ Frame w w' P v v' ∧ NewR w r)
set_option maxRecDepth 100000 in
set_option maxHeartbeats 4000000 in
theorem add_any {P bd : Nat} {v : Value} {l : List LayR} (h : BookAt w P bd v l) (x : Lay) (A1 : Option Addr) (c1 : Nat) (A2 : Option Addr) (c2 : Nat) (hx : LayIs w x A1 c1 A2 c2) :
    Calls Tryz.prog 24 #[.pointer (some ⟨P, 0, none⟩), layV x A1 c1 A2 c2] w (AddPost w P bd v l x) := by
  obtain ⟨i0, hi, hz0, hz1, hz2⟩ := info_parts infoLay
  have HI := Lib.hid hi
  have HZ0 := Lib.hid hz0
  have HZ1 := Lib.hid hz1
  have HZ2 := Lib.hid hz2
  clear hi hz0 hz1 hz2
  obtain ⟨A, cc, hv, hcc, _⟩ := own_slice layREnc layR0 (fun _ => rfl) h.row
  subst hv
  have HR : Hid (∀ W, LayIs W x A1 c1 A2 c2 → Calls Tryz.prog 55 #[.agg #[.int .i64 x.fixed, .slice A1 x.refs.length c1, .int .i64 x.record, .slice A2 x.recs.length c2]] W fun e w' => e = .returned (.bool x.right) ∧ Below W.heap.size W w') := Lib.hid (fun W hW => right_lay _ _ _ _ _ W hW)
  have HOW : Hid (x.refs.length ≤ 100 → x.recs.length ≤ 100 → ∀ W, LayIs W x A1 c1 A2 c2 → Calls Tryz.prog 56 #[.agg #[.int .i64 x.fixed, .slice A1 x.refs.length c1, .int .i64 x.record, .slice A2 x.recs.length c2]] W (OwnLay x W)) := Lib.hid (fun q1 q2 W hW => own_lay _ _ _ _ _ W hW q1 q2)
  have hb1 := below1 w (.cells #[.int .i64 x.fixed, .slice A1 x.refs.length c1, .int .i64 x.record, .slice A2 x.recs.length c2] 64)
  have hl1 := heap_alloc_new w (.cells #[.int .i64 x.fixed, .slice A1 x.refs.length c1, .int .i64 x.record, .slice A2 x.recs.length c2] 64)
  have k0 := (blk_cells hl1 0).trans rfl
  have k1 := (blk_cells hl1 1).trans rfl
  have k2 := (blk_cells hl1 2).trans rfl
  have k3 := (blk_cells hl1 3).trans rfl
  have HX := Lib.hid (hx.on hb1)
  have HB := Lib.hid (h.on hb1)
  have HL1 := Lib.hid hl1
  have HM1 := Lib.hid hb1
  unfold layV
  clear h hx hb1 hl1
  go_enter Tryz.func24, Tryz.ntmps24
  go_wp2_with fail
  generalize w.alloc (.cells #[.int .i64 x.fixed, .slice A1 x.refs.length c1, .int .i64 x.record, .slice A2 x.recs.length c2] 64) = W1 at *
  refine (HR.out _ HX.out).mono ?_
  rintro e w2 ⟨rfl, hb⟩
  have HB2 := Lib.hid (HB.out.on hb)
  have HX2 := Lib.hid (HX.out.on hb)
  have HM2 := Lib.hid (HM1.out.on hb)
  have HL2 := Lib.hid ((hb.block _ (block_lt HL1.out)).trans HL1.out)
  clear hb HB HX HL1 k0 k1 k2 k3
  have k0 := (blk_cells HL2.out 0).trans rfl
  have k1 := (blk_cells HL2.out 1).trans rfl
  have k2 := (blk_cells HL2.out 2).trans rfl
  have k3 := (blk_cells HL2.out 3).trans rfl
  have p0 := (blk_cells HB2.out.head 0).trans rfl
  have pt := blk_thaw HB2.out.head 0
  cases hr : x.right with
  | false =>
    go_wp2
    go_ret2
    exact .inl ⟨hr, rfl, HB2.out, Frame.of HM2.out⟩
  | true =>
    by_cases hf : l.length = 64
    · rw [hf] at p0
      have hB2 := HB2.out
      go_wp2
      go_ret2
      exact .inr (.inl ⟨hr, hf, rfl, hB2, Frame.of HM2.out⟩)
    · have hmany := HB2.out.many
      obtain ⟨r1, r2, r3, r4, r5, r6, r7⟩ := Lay.right_out hr
      have hl1 := rise_len r6 r1
      have hl2 := rise_len r7 r3
      have hB2 := HB2.out
      have hhead := hB2.head
      have hrow := hB2.row
      have hle := hB2.le
      have hne : some P ≠ (Value.slice A l.length cc).ownBlock := fun e => by have := (hrow.lt P e.symm).1; have := hB2.hP; omega
      have hrowd := own_on hrow (below_drewN (Below.refl _ w2) 1)
      have hPb := hB2.hP
      have hq1 : x.refs.length ≤ 100 := by omega
      have hq2 : x.recs.length ≤ 100 := by omega
      have HOX := Lib.hid (HOW.out hq1 hq2)
      have HX3 : Hid (LayIs w2.drew x A1 c1 A2 c2) := Lib.hid (HX2.out.on (below_drewN (Below.refl _ _) 1))
      clear r5 r6 r7
      have d64 : ((l.length : Int) == 64) = false := by simp; omega
      go_wp2_with fail
      go_region_law (first | (go_simp; go_at_call 56; refine (HOX.out _ HX3.out).mono ?_; rintro e w4 ⟨u1, u2, rfl, ho1, ho2, hb4⟩; obtain ⟨B1, d1, e1, hd1, -⟩ := own_slice encI 0 (fun _ => rfl) ho1; subst e1; obtain ⟨B2, d2, e2, hd2, -⟩ := own_slice encI 0 (fun _ => rfl) ho2; subst e2; have zp := (hb4.block _ (block_lt hhead)).trans hhead; have p0 := (blk_cells zp 0).trans rfl; have pt := blk_thaw zp 0; have zl := (hb4.block _ (block_lt HL2.out)).trans HL2.out; have k0 := (blk_cells zl 0).trans rfl; have k1 := (blk_cells zl 1).trans rfl; have k2 := (blk_cells zl 2).trans rfl; have k3 := (blk_cells zl 3).trans rfl; have hrow4 := own_on hrowd hb4; have hle4 := Nat.le_trans hle hb4.size; have zpa := (Below.heap_alloc w4 (.cells #[.int .i64 x.fixed, .slice B1 x.refs.length d1, .int .i64 x.record, .slice B2 x.recs.length d2] 64) P (block_lt zp)).trans zp; have p0a := (blk_cells zpa 0).trans rfl; have pta := blk_thaw zpa 0) | (refine step_append_lies _ rfl (.tmp 24) (.tmp 27) 22 rfl bd 64 i0 (.agg #[.int .i64 0, .slice none 0 0, .int .i64 0, .slice none 0 0]) 4 64 Tryz.underlying22 HI.out HZ0.out HZ1.out HZ2.out rfl (by decide) (.slice A l.length cc) _ _ rfl (hrow4.alloc _) ⟨w4.heap.size, 0, none⟩ 1 1 [.int .i64 x.fixed, .slice B1 x.refs.length d1, .int .i64 x.record, .slice B2 x.recs.length d2] rfl rfl (World.news_of_block (cs := #[.int .i64 x.fixed, .slice B1 x.refs.length d1, .int .i64 x.record, .slice B2 x.recs.length d2]) (t := 64) (fr := (0, 0)) (heap_alloc_new w4 _)) (by simp [Value.oneCell']) (by decide) (by unfold maxLen; omega) (by omega) (by simp; omega) _ rfl ?_; intro g cap w5 hown' hgrow hat hlt; have zp5 := (hgrow.block P (Nat.lt_of_lt_of_le (block_lt zp) (by simp)) hne).trans ((Below.heap_alloc _ _ _ (block_lt zp)).trans zp); have p0 := (blk_cells zp5 0).trans rfl; have pt := blk_thaw zp5 0))
      all_goals
        have HAD := Lib.hid (BookAt.added (g := g) (cap := cap) hB2 hb4 ho1 ho2 (by omega) (by omega) (by omega) hgrow hown' zp5)
        have HNW : Hid (NewR w ⟨x, B1, d1, B2, d2⟩) := Lib.hid (fun k hk => by rcases hk with hk | hk; exact Nat.le_trans HM2.out.size ((own_less ho1 (Nat.le_refl _)).lt k hk).1; exact Nat.le_trans HM2.out.size ((own_less ho2 (Nat.le_refl _)).lt k hk).1)
        have HFR := Lib.hid (add_frame (P := P) (n := l.length + 1) (cap := cap) HM2.out hb4 hgrow hat)
        clear hB2 hb4 ho1 ho2 hgrow hown' zp zpa p0a pta zl hrow4 hrow hrowd k0 k1 k2 k3
        go_wp2
        go_ret2
        exact .inr (.inr ⟨hr, by omega, _, ⟨x, B1, d1, B2, d2⟩, rfl, by first | rfl | (simp; done) | trace_state, HAD.out, HFR.out, HNW.out⟩)
theorem add_nil (x : Lay) (A1 : Option Addr) (c1 : Nat) (A2 : Option Addr) (c2 : Nat) (w : World) : Calls Tryz.prog 24 #[.pointer none, layV x A1 c1 A2 c2] w fun e w' => e = .returned (.tuple #[.int .i64 0, .int .i64 1]) ∧ Below w.heap.size w w' := by
  unfold layV
  go_enter Tryz.func24, Tryz.ntmps24
  go_wp2
  go_ret2
  exact ⟨rfl, below1 _ _⟩
theorem get_nil (i : Int) (w : World) : Calls Tryz.prog 75 #[.pointer none, .int .i64 i] w fun e w' => e = .returned (.tuple #[.agg #[.int .i64 0, .slice none 0 0, .int .i64 0, .slice none 0 0], .int .i64 1]) ∧ Below w.heap.size w w' := by
  go_enter Tryz.func75, Tryz.ntmps75
  go_wp2
  (try simp only [Exit.inBlock, Exit.then])
  refine bodyPost_ret (v := .tuple #[.agg #[.int .i64 0, .slice none 0 0, .int .i64 0, .slice none 0 0], .int .i64 1]) ?_ rfl ⟨rfl, ?_⟩
  · rw [results_cell_tmp rfl]
    go_simp
    (try rfl)
  · exact below1 _ _
theorem book_new (w : World) : Calls Tryz.prog 19 #[] w fun e w' => e = .returned (.pointer (some ⟨w.heap.size, 0, none⟩)) ∧ BookAt w' w.heap.size w'.heap.size (.slice none 0 0) [] ∧ Below w.heap.size w w' := by
  go_enter Tryz.func19, Tryz.ntmps19
  go_wp2
  go_ret
  exact ⟨rfl, ⟨heap_alloc_new w _, World.ownsRow_nil _ _ _ _, fun r hr => absurd hr List.not_mem_nil, (by simp), Nat.le_refl _, by simp⟩, below1 _ _⟩
set_option maxRecDepth 100000 in
theorem get_out {P bd : Nat} {v : Value} {l : List LayR} (h : BookAt w P bd v l) (i : Int) (hi : i < 1 ∨ (l.length : Int) < i) : Calls Tryz.prog 75 #[.pointer (some ⟨P, 0, none⟩), .int .i64 i] w fun e w' => e = .returned (.tuple #[.agg #[.int .i64 0, .slice none 0 0, .int .i64 0, .slice none 0 0], .int .i64 6]) ∧ Below w.heap.size w w' := by
  obtain ⟨A, cc, hv, hcc, _⟩ := own_slice layREnc layR0 (fun _ => rfl) h.row
  subst hv
  have hb := below1 w (.cells #[.int .i64 0, .slice none 0 0, .int .i64 0, .slice none 0 0] 64)
  have p0 := cell_on hb ((blk_cells h.head 0).trans rfl)
  have HB := Lib.hid hb
  clear h hb
  by_cases h1 : i < 1
  · have d : decide (i < 1) = true := decide_eq_true h1
    clear hi h1
    go_enter Tryz.func75, Tryz.ntmps75
    go_wp2
    (try simp only [Exit.inBlock, Exit.then])
    refine bodyPost_ret (v := .tuple #[.agg #[.int .i64 0, .slice none 0 0, .int .i64 0, .slice none 0 0], .int .i64 6]) ?_ rfl ⟨rfl, ?_⟩
    · rw [results_cell_tmp rfl]
      go_simp
      (try rfl)
    · exact HB.out
  · have d : decide (i < 1) = false := decide_eq_false h1
    have d2 : decide ((l.length : Int) < i) = true := decide_eq_true (by omega)
    clear hi h1
    go_enter Tryz.func75, Tryz.ntmps75
    go_wp2
    (try simp only [Exit.inBlock, Exit.then])
    refine bodyPost_ret (v := .tuple #[.agg #[.int .i64 0, .slice none 0 0, .int .i64 0, .slice none 0 0], .int .i64 6]) ?_ rfl ⟨rfl, ?_⟩
    · rw [results_cell_tmp rfl]
      go_simp
      (try rfl)
    · exact HB.out
/-- A layout's rows lie in blocks of n and above. -/
def LayF (A1 A2 : Option Addr) (n : Nat) : Prop := ∀ b o, (A1 = some ⟨b, o, none⟩ ∨ A2 = some ⟨b, o, none⟩) → n ≤ b
theorem LayIs.mod {S : Nat → Prop} {x : Lay} {A1 A2 : Option Addr} {c1 c2 : Nat} (h : LayIs w x A1 c1 A2 c2) (hm : Mod S w w') (hn : ∀ b o, (A1 = some ⟨b, o, none⟩ ∨ A2 = some ⟨b, o, none⟩) → ¬ S b) : LayIs w' x A1 c1 A2 c2 :=
  { h with h1 := slice_mod h.h1 hm (fun b o e _ => hn b o (.inl e)), h2 := slice_mod h.h2 hm (fun b o e _ => hn b o (.inr e)) }
def GetPost (x : Lay) (w : World) (e : Ending) (w' : World) : Prop := ∃ A1 c1 A2 c2, e = .returned (.tuple #[layV x A1 c1 A2 c2, .int .i64 0]) ∧ LayIs w' x A1 c1 A2 c2 ∧ LayF A1 A2 w.heap.size ∧ Below w.heap.size w w'
set_option maxRecDepth 100000 in
set_option maxHeartbeats 2000000 in
theorem get_in {P bd : Nat} {v : Value} {l : List LayR} (h : BookAt w P bd v l) (k : Nat) (hk : k < l.length) : Calls Tryz.prog 75 #[.pointer (some ⟨P, 0, none⟩), .int .i64 ((k : Int) + 1)] w (GetPost (l.getD k layR0).x w) := by
  obtain ⟨A, cc, hv, hcc, hs⟩ := own_slice layREnc layR0 (fun _ => rfl) h.row
  subst hv
  have hmany := h.many
  have hgd : Good w (l.getD k layR0) := h.good _ (by
    have : l.getD k layR0 = l[k] := by simp [List.getD, hk]
    rw [this]; exact List.getElem_mem hk)
  obtain ⟨b, o, rfl, hc⟩ := hs k hk
  generalize l.getD k layR0 = r at *
  have hb := below1 w (.cells #[.int .i64 0, .slice none 0 0, .int .i64 0, .slice none 0 0] 64)
  have hr0 := heap_alloc_new w (.cells #[.int .i64 0, .slice none 0 0, .int .i64 0, .slice none 0 0] 64)
  have p0 := cell_on hb ((blk_cells h.head 0).trans rfl)
  have c0 := cell_on hb (hc 0 _ rfl)
  have c1 := cell_on hb (hc 1 _ rfl)
  have c2 := cell_on hb (hc 2 _ rfl)
  have c3 := cell_on hb (hc 3 _ rfl)
  rw [Nat.add_zero] at c0
  have hm1 := hgd.m1
  have hm2 := hgd.m2
  have HOW := Lib.hid (own_lay r.x r.A1 r.c1 r.A2 r.c2 _ ((hgd.on hb).lay) (by omega) (by omega))
  have HB := Lib.hid hb
  have HR0 := Lib.hid hr0
  have hk1 : decide ((l.length : Int) < (k : Int) + 1) = false := decide_eq_false (by omega)
  have hk2 : decide ((k : Int) + 1 < 1) = false := decide_eq_false (by omega)
  clear h hb hs hc hgd hr0
  unfold layV at HOW
  go_enter Tryz.func75, Tryz.ntmps75
  go_wp2_with fail
  refine HOW.out.mono ?_
  rintro e w4 ⟨u1, u2, rfl, ho1, ho2, hb4⟩
  obtain ⟨B1, d1, e1, hd1, -⟩ := own_slice encI 0 (fun _ => rfl) ho1
  subst e1
  obtain ⟨B2, d2, e2, hd2, -⟩ := own_slice encI 0 (fun _ => rfl) ho2
  subst e2
  have HLF : Hid (LayF B1 B2 w.heap.size) := Lib.hid (fun b o hk => by have hsz := HB.out.size; rcases hk with hk | hk; exact Nat.le_trans hsz (ho1.lt b (by rw [hk]; rfl)).1; exact Nat.le_trans hsz (ho2.lt b (by rw [hk]; rfl)).1)
  have zr := (hb4.block _ (block_lt HR0.out)).trans HR0.out
  have HTW : Hid (TwoY w4 w 0 0 (.slice B1 r.x.refs.length d1) (.slice B2 r.x.recs.length d2) r.x.refs r.x.recs w.heap.size w.heap.size) := Lib.hid ⟨own_less ho1 (Nat.zero_le _), own_less ho2 (Nat.zero_le _), ⟨_, zr⟩, ⟨_, zr⟩, Nat.le_refl _, Nat.le_refl _, HB.out.on hb4⟩
  have r0 := (blk_cells zr 0).trans rfl
  have r1 := (blk_cells zr 1).trans rfl
  have r2 := (blk_cells zr 2).trans rfl
  have r3 := (blk_cells zr 3).trans rfl
  have s0 := blk_thaw zr 0
  have s1 := blk_thaw zr 1
  have s2 := blk_thaw zr 2
  have s3 := blk_thaw zr 3
  clear ho1 ho2 hb4 zr c0 c1 c2 c3 p0 HOW HR0
  go_wp2
  (try simp only [Exit.inBlock, Exit.then])
  refine bodyPost_ret (v := .tuple #[.agg #[.int .i64 r.x.fixed, .slice B1 r.x.refs.length d1, .int .i64 r.x.record, .slice B2 r.x.recs.length d2], .int .i64 0]) ?_ rfl ⟨B1, d1, B2, d2, rfl, ?_, HLF.out, ?_⟩
  · rw [results_cell_tmp rfl]
    go_simp
    (try rfl)
  · have hT := (((HTW.out.set (.inl rfl) 0 (.int .i64 r.x.fixed)).set (.inl rfl) 1 (.slice B1 r.x.refs.length d1)).set (.inl rfl) 2 (.int .i64 r.x.record)).set (.inl rfl) 3 (.slice B2 r.x.recs.length d2)
    exact Good.lay (r := ⟨r.x, B1, d1, B2, d2⟩) ⟨hT.o1, hT.o2, hm1, hm2⟩
  · exact ((((HTW.out.set (.inl rfl) 0 (.int .i64 r.x.fixed)).set (.inl rfl) 1 (.slice B1 r.x.refs.length d1)).set (.inl rfl) 2 (.int .i64 r.x.record)).set (.inl rfl) 3 (.slice B2 r.x.recs.length d2)).below
end Go.Proofs.YtfflacggaebonaaGreatDoor
end
