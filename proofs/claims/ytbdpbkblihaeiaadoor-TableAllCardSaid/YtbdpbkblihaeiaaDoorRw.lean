/- Both tables side by side. -/
import Derived.Test.YtbdpbkblihaeiaaDoorRv
namespace Go.Proofs.YtbdpbkblihaeiaaDoor
open Go.RowKit
set_option linter.unusedVariables false
set_option linter.unusedSimpArgs false
variable {w w' base : World} {B S p q bd G : Nat} {l r : List Slot} {v : Value} {told : List (Int × Int)}
/-- The document's slot to one of the table's. -/
def refOf (s : Slot) : Slot := ⟨if s.used then s.gen else s.gen + 1, s.used, s.e⟩
theorem refOf_get {k : Nat} (h : k < l.length) : (l.map refOf).getD k slot0 = refOf (l.getD k slot0) := by simp [List.getD, h]
theorem map_set (k : Nat) (x : Slot) : (l.set k x).map refOf = (l.map refOf).set k (refOf x) := List.map_set
theorem fresh_ref (i g : Int) : freshT (l.map refOf) i g = freshT l i g := by
  rw [Bool.eq_iff_iff, fresh_iff, fresh_iff]
  refine exists_congr fun k => ?_
  rw [List.length_map]
  constructor
  · rintro ⟨h0, h1, h2, h3⟩
    rw [refOf_get h1] at h2 h3
    have hu : (l.getD k slot0).used = true := h2
    refine ⟨h0, h1, hu, ?_⟩
    rw [← h3]; unfold refOf; rw [hu]; rfl
  · rintro ⟨h0, h1, h2, h3⟩
    rw [refOf_get h1]
    refine ⟨h0, h1, h2, ?_⟩
    rw [← h3]; unfold refOf; rw [h2]; rfl
theorem free_ref {s : Slot} (h : s.gen ≤ 255) : freeR (refOf s) = !taken s := by
  unfold freeR refOf taken
  cases hu : s.used
  · by_cases hg : s.gen = 255
    · simp [hg]
    · have h1 : decide (s.gen + 1 ≤ 255) = true := decide_eq_true (by omega)
      have h2 : (s.gen == 255) = false := by simpa using hg
      show (!false && decide (s.gen + 1 ≤ 255)) = !(false || s.gen == 255)
      rw [h1, h2]; rfl
  · simp
theorem set_ref {k : Nat} (hk : k < l.length) (hu : (l.getD k slot0).used = true) (e : Entry) : (l.set k ⟨(l.getD k slot0).gen, true, e⟩).map refOf = (l.map refOf).set k ⟨((l.map refOf).getD k slot0).gen, ((l.map refOf).getD k slot0).used, e⟩ := by
  rw [map_set, refOf_get hk]; unfold refOf; rw [hu]
theorem drop_ref {k : Nat} (hk : k < l.length) (hu : (l.getD k slot0).used = true) : (dropL l k).map refOf = (l.map refOf).set k ⟨((l.map refOf).getD k slot0).gen + 1, false, noEntry⟩ := by
  unfold dropL; rw [map_set, refOf_get hk]; unfold refOf; rw [hu]; rfl
theorem add_ref {k : Nat} (hk : k < l.length) (hu : taken (l.getD k slot0) = false) (e : Entry) : (addL l k e).map refOf = (l.map refOf).set k ⟨((l.map refOf).getD k slot0).gen, true, e⟩ ∧ ((l.map refOf).getD k slot0).gen = (l.getD k slot0).gen + 1 := by
  have hu' : (l.getD k slot0).used = false := by
    unfold taken at hu
    cases h : (l.getD k slot0).used
    · rfl
    · rw [h] at hu; simp at hu
  unfold addL; rw [map_set, refOf_get hk]; unfold refOf; rw [hu']; exact ⟨rfl, rfl⟩
/-- A table, the tokens, the document's table. -/
structure TR (base w : World) (B S p q bd : Nat) (l : List Slot) (v : Value) (told : List (Int × Int)) (G : Nat) (r : List Slot) : Prop where
  ts : TS base w B S p q bd l v told
  ref : RefT w G r
  lG : G < bd
  hG : base.heap.size ≤ G
  nB : G ≠ B
  nS : G ≠ S
  np : G ≠ p
  nq : G ≠ q
theorem TR.on (h : TR base w B S p q bd l v told G r) (hb : Below w.heap.size w w') : TR base w' B S p q bd l v told G r := { h with ts := h.ts.on hb, ref := h.ref.on hb }
theorem TR.put (h : TR base w B S p q bd l v told G r) (o : Obj) : TR base (w.alloc o) B S p q bd l v told G r := h.on (below1 w o)
theorem TR.to {l' : List Slot} (h : TR base w B S p q bd l v told G r) (ht : TableTo w B S p q l' 107 104 88 85 w') : TR base w' B S p q bd l' v told G r ∧ Mod (fun k => k < bd) w w' :=
  ⟨{ h with ts := (h.ts.to ht).1, ref := h.ref.mod ht.2 (fun e => by rcases e with e | e | e | e; exact h.nB e; exact h.nS e; exact h.np e; exact h.nq e) }, (h.ts.to ht).2⟩
theorem TR.toG {r' : List Slot} (h : TR base w B S p q bd l v told G r) (hr : RefT w' G r') (hm : Mod (fun i => i = G) w w') : TR base w' B S p q bd l v told G r' ∧ Mod (fun k => k < bd) w w' := by
  have hmb : Mod (fun k => k < bd) w w' := hm.mono (fun k _ e => by have e' : k = G := e; rw [e']; exact h.lG)
  exact ⟨{ h with ts := { h.ts with tab := h.ts.tab.mod hm h.nB.symm h.nS.symm h.np.symm h.nq.symm, below := Mod.below h.ts.below hm (fun k e => by have e' : k = G := e; rw [e']; exact h.hG) h.ts.below.size, le := Nat.le_trans h.ts.le hm.size, row := own_mod h.ts.row hmb (fun _ e => e) }, ref := hr }, hmb⟩
theorem TR.app {v' : Value} {told' : List (Int × Int)} (h : TR base w B S p q bd l v told G r) (hg : w.grownBy w' v.ownBlock) (hr : w'.ownsRow bd 57 2 v' told'.length (told'.flatMap tokEnc)) : TR base w' B S p q bd l v' told' G r := by
  have hm : Mod (fun k => v.ownBlock = some k) w w' := ⟨hg.os, hg.tape, hg.output, hg.size, fun k hk hn => hg.block k hk (fun e => hn e.symm)⟩
  exact { h with ts := h.ts.app hg hr, ref := h.ref.mod hm (fun e => by have := (h.ts.row.lt G e).1; have := h.lG; omega) }
theorem TR.get (h : TR base w B S p q bd l v told G r) (i g : Int) : Calls Tryd.prog 32 #[.pointer (some ⟨B, 0, none⟩), tokV i g] w fun e w' => e = .returned (.tuple #[entV (getE l i g), .int .i64 (errI l i g)]) ∧ TR base w' B S p q bd l v told G r ∧ Mod (fun k => k < bd) w w' :=
  (h.ts.getB i g).mono fun e w' ⟨he, hb⟩ => ⟨he, h.on hb, .of_below hb⟩
theorem TR.set (h : TR base w B S p q bd l v told G r) (i g : Int) (ee : Entry) : Calls Tryd.prog 33 #[.pointer (some ⟨B, 0, none⟩), tokV i g, entV ee] w fun e w' => e = .returned (.int .i64 (errI l i g)) ∧ TR base w' B S p q bd (setT l i g ee) v told G r ∧ Mod (fun k => k < bd) w w' := by
  unfold setT errI
  cases hf : freshT l i g with
  | true =>
    obtain ⟨k, rfl, h1, h2, h3⟩ := fresh_out hf
    rw [Int.toNat_natCast]
    exact (tset_yes h.ts.tab k g ee h1 h2 h3).mono fun e w' ⟨he, ht⟩ => ⟨he, h.to ht⟩
  | false => exact (tset_no h.ts.tab i g ee hf).mono fun e w' ⟨he, hb⟩ => ⟨he, h.on hb, .of_below hb⟩
theorem TR.drop (h : TR base w B S p q bd l v told G r) (i g : Int) : Calls Tryd.prog 34 #[.pointer (some ⟨B, 0, none⟩), tokV i g] w fun e w' => e = .returned (.int .i64 (errI l i g)) ∧ TR base w' B S p q bd (dropT l i g) v told G r ∧ Mod (fun k => k < bd) w w' := by
  unfold dropT errI
  cases hf : freshT l i g with
  | true =>
    obtain ⟨k, rfl, h1, h2, h3⟩ := fresh_out hf
    rw [Int.toNat_natCast]
    exact (drop_yes h.ts.tab k g h1 h2 h3).mono fun e w' ⟨he, ht⟩ => ⟨he, h.to ht⟩
  | false => exact (drop_no h.ts.tab i g hf).mono fun e w' ⟨he, hb⟩ => ⟨he, h.on hb, .of_below hb⟩
theorem TR.add (h : TR base w B S p q bd l v told G r) (hT : Tab base) (h0 : 0 < base.heap.size) (ee : Entry) : Calls Tryd.prog 36 #[.pointer (some ⟨B, 0, none⟩), entV ee] w fun e w' => e = .returned (.tuple #[tokV (addTok l).1 (addTok l).2, .int .i64 (addErr l)]) ∧ TR base w' B S p q bd (addT l ee) v told G r ∧ Mod (fun k => k < bd) w w' := by
  unfold addTok addErr addT
  have hT' := h.ts.baseTab hT h0
  rcases first_cases (l.map taken) 0 with ⟨k, h1, h2, h3, h4⟩ | ⟨h1, h2⟩
  · rw [h1]
    have hk : k < l.length := by simpa using h3
    have ht : taken (l.getD k slot0) = false := by
      have : (l.map taken).getD k false = taken (l.getD k slot0) := by simp [List.getD, hk]
      rw [← this]; exact h4
    exact (add_in h.ts.tab hT' ee k h1 hk ht).mono fun e w' ⟨he, ht⟩ => ⟨he, h.to ht⟩
  · rw [h1]
    exact (add_full h.ts.tab hT' ee h1).mono fun e w' ⟨he, hb⟩ => ⟨he, h.on hb, .of_below hb⟩
def refT (G n : Nat) : Value := .slice (some ⟨G, 0, none⟩) n n
theorem refT_map (G : Nat) (l : List Slot) : refT G l.length = refVal G (l.map refOf) := by unfold refT refVal; rw [List.length_map]
theorem TR.freshR (h : TR base w B S p q bd l v told G (l.map refOf)) (i g : Int) : Calls Tryd.prog 55 #[refT G l.length, tokV i g] w fun e w' => e = .returned (.bool (freshT l i g)) ∧ TR base w' B S p q bd l v told G (l.map refOf) ∧ Mod (fun k => k < bd) w w' :=
  refT_map G l ▸ (rfresh_any h.ref i g).mono fun e w' ⟨he, hb⟩ => ⟨by rw [he, fresh_ref], h.on hb, .of_below hb⟩
/-- What the document's Add does, told of the table's slots. -/
theorem TR.addR {l' : List Slot} {ee : Entry} (h : TR base w B S p q bd l' v told G (l.map refOf)) (hgen : ∀ s ∈ l, s.gen ≤ 255) (hl' : l' = addT l ee) : Calls Tryd.prog 56 #[refT G l.length, entV ee] w fun e w' => e = .returned (.tuple #[tokV (addTok l).1 (addTok l).2, .int .i64 (addErr l)]) ∧ TR base w' B S p q bd l' v told G (l'.map refOf) ∧ Mod (fun k => k < bd) w w' := by
  rw [refT_map]
  have hg : ∀ k, k < l.length → (l.getD k slot0).gen ≤ 255 := fun k hk => by
    have : l.getD k slot0 = l[k] := by simp [List.getD, hk]
    rw [this]; exact hgen _ (List.getElem_mem hk)
  refine (radd_any h.ref ee).mono fun e w' hp => ?_
  rcases hp with ⟨k, hk, hf, hm, he, hr, hmod⟩ | ⟨hn, he, hr, hmod⟩
  · rw [List.length_map] at hk
    have ht : taken (l.getD k slot0) = false := by
      rw [refOf_get hk, free_ref (hg k hk)] at hf; simpa using hf
    have ha := addT_at (l := l) (e := ee) hk ht (fun j hj => by
      have := hm j hj
      rw [refOf_get (by omega), free_ref (hg j (by omega))] at this; simpa using this)
    have hr2 := add_ref hk ht ee
    rw [← hr2.1] at hr
    refine ⟨by rw [he, ha.2.1, ha.2.2, hr2.2], ?_⟩
    rw [hl', ha.1] at h ⊢
    exact h.toG hr hmod
  · have hall : ∀ k, k < l.length → taken (l.getD k slot0) = true := fun k hk => by
      have := hn k (by simpa using hk)
      rw [refOf_get hk, free_ref (hg k hk)] at this; simpa using this
    have ha : addTok l = (0, 0) ∧ addErr l = 12 ∧ addT l ee = l := by
      unfold addTok addErr addT
      rcases first_cases (l.map taken) 0 with ⟨k, h1, h2, h3, h4⟩ | ⟨h1, h2⟩
      · have hk : k < l.length := by simpa using h3
        have : (l.map taken).getD k false = taken (l.getD k slot0) := by simp [List.getD, hk]
        rw [this, hall k hk] at h4; cases h4
      · rw [h1]; exact ⟨rfl, rfl, rfl⟩
    refine ⟨by rw [he, ha.1, ha.2.1], ?_⟩
    rw [hl', ha.2.2] at h ⊢
    exact h.toG hr hmod
theorem TR.dropR {l' : List Slot} {i g : Int} (h : TR base w B S p q bd l' v told G (l.map refOf)) (hgen : ∀ s ∈ l, s.gen ≤ 255) (hf : freshT l i g = true) (hl' : l' = dropT l i g) : Calls Tryd.prog 57 #[refT G l.length, tokV i g] w fun e w' => e = .returned (.tuple #[]) ∧ TR base w' B S p q bd l' v told G (l'.map refOf) ∧ Mod (fun k => k < bd) w w' := by
  rw [refT_map]
  obtain ⟨k, rfl, h1, h2, h3⟩ := fresh_out hf
  have hgk : (l.getD k slot0).gen ≤ 255 := by
    have : l.getD k slot0 = l[k] := by simp [List.getD, h1]
    rw [this]; exact hgen _ (List.getElem_mem h1)
  have hd : l' = dropL l k := by rw [hl']; unfold dropT; rw [if_pos hf, Int.toNat_natCast]
  have hg2 : ((l.map refOf).getD k slot0).gen ≤ 255 := by rw [refOf_get h1]; unfold refOf; rw [h2]; exact hgk
  refine (rdrop_any h.ref k g (by simpa using h1) hg2).mono fun e w' ⟨he, hr, hm⟩ => ⟨he, ?_⟩
  rw [← drop_ref h1 h2, ← hd] at hr
  exact h.toG hr hm
end Go.Proofs.YtbdpbkblihaeiaaDoor
