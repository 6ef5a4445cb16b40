/- A table and the tokens that were told: contracts over both. -/
import Derived.Test.YtbdpbkblihaeiaaDoorTf
import Derived.Maps.AppendAt
import Derived.Deep.AppendLies
import Derived.Laws.AppendOwn
import Derived.RangeFuncBox
namespace Go.Proofs.YtbdpbkblihaeiaaDoor
open Go.RowKit
set_option linter.unusedVariables false
set_option linter.unusedSimpArgs false
variable {w w' base : World} {B S p q bd : Nat} {l : List Slot} {v : Value} {told : List (Int × Int)}
def tokEnc (x : Int × Int) : List Value := [.int .i64 x.1, .int .i64 x.2]
/-- A table that was made by the call, and a slice of tokens in blocks of bd and above. -/
structure TS (base w : World) (B S p q bd : Nat) (l : List Slot) (v : Value) (told : List (Int × Int)) : Prop where
  tab : TableAt w B S p q l 107 104 88 85
  below : Below base.heap.size base w
  hB : base.heap.size ≤ B
  hS : base.heap.size ≤ S
  hp : base.heap.size ≤ p
  hq : base.heap.size ≤ q
  lB : B < bd
  lS : S < bd
  lp : p < bd
  lq : q < bd
  le : bd ≤ w.heap.size
  row : w.ownsRow bd 57 2 v told.length (told.flatMap tokEnc)
theorem own_mod {P : Nat → Prop} {bs : Nat} {t : TypeId} {size n : Nat} {v : Value} {xs : List Value} (h : w.ownsRow bs t size v n xs) (hm : Mod P w w') (hn : ∀ k, P k → k < bs) : w'.ownsRow bs t size v n xs := by
  obtain ⟨h1, h2⟩ := h
  refine ⟨h1, ?_⟩
  rcases h2 with h2 | ⟨g, cap, cur, hv, hg, hh, r⟩
  · exact .inl h2
  · exact .inr ⟨g, cap, cur, hv, hg, hm.keeps hh (fun e => by have := hn g e; omega), r⟩
theorem TS.on (h : TS base w B S p q bd l v told) (hb : Below w.heap.size w w') : TS base w' B S p q bd l v told :=
  { h with tab := h.tab.on hb, below := h.below.on hb, le := Nat.le_trans h.le hb.size, row := own_mod h.row (P := fun _ => False) (.of_below hb) (fun _ e => e.elim) }
theorem TS.four (h : TS base w B S p q bd l v told) : ∀ k, Four B S p q k → k < bd ∧ base.heap.size ≤ k := fun k e => by
  have := h.hB; have := h.hS; have := h.hp; have := h.hq; have := h.lB; have := h.lS; have := h.lp; have := h.lq
  rcases e with e | e | e | e <;> omega
theorem TS.to {l' : List Slot} (h : TS base w B S p q bd l v told) (ht : TableTo w B S p q l' 107 104 88 85 w') : TS base w' B S p q bd l' v told ∧ Mod (fun k => k < bd) w w' :=
  ⟨{ h with tab := ht.1, below := Mod.below h.below ht.2 (fun k e => (h.four k e).2) h.below.size, le := Nat.le_trans h.le ht.2.size, row := own_mod h.row ht.2 (fun k e => (h.four k e).1) }, ht.2.mono fun k _ e => (h.four k e).1⟩
theorem TS.same (h : TS base w B S p q bd l v told) (hb : Below w.heap.size w w') : TS base w' B S p q bd l v told ∧ Mod (fun k => k < bd) w w' := ⟨h.on hb, .of_below hb⟩
theorem TS.baseTab (h : TS base w B S p q bd l v told) (hT : Tab base) (h0 : 0 < base.heap.size) : Tab w := hT.below h.below h0
def getE (l : List Slot) (i g : Int) : Entry := if freshT l i g then (l.getD i.toNat slot0).e else noEntry
def errI (l : List Slot) (i g : Int) : Int := if freshT l i g then 0 else 8
def setT (l : List Slot) (i g : Int) (e : Entry) : List Slot := if freshT l i g then l.set i.toNat ⟨(l.getD i.toNat slot0).gen, true, e⟩ else l
def dropT (l : List Slot) (i g : Int) : List Slot := if freshT l i g then dropL l i.toNat else l
/-- What Add leaves, the token, the error. -/
def addT (l : List Slot) (e : Entry) : List Slot := if (FirstL (l.map taken) 0).2 then addL l (FirstL (l.map taken) 0).1 e else l
def addTok (l : List Slot) : Int × Int := if (FirstL (l.map taken) 0).2 then (((FirstL (l.map taken) 0).1 : Nat), ((l.getD (FirstL (l.map taken) 0).1 slot0).gen + 1 : Nat)) else (0, 0)
def addErr (l : List Slot) : Int := if (FirstL (l.map taken) 0).2 then 0 else 12
theorem TS.get (h : TS base w B S p q bd l v told) (i g : Int) : Calls Tryd.prog 32 #[.pointer (some ⟨B, 0, none⟩), tokV i g] w fun e w' => e = .returned (.tuple #[entV (getE l i g), .int .i64 (errI l i g)]) ∧ TS base w' B S p q bd l v told ∧ Mod (fun k => k < bd) w w' := by
  unfold getE errI
  cases hf : freshT l i g with
  | true => exact (get_yes h.tab i g hf).mono fun e w' ⟨he, hb⟩ => ⟨he, h.same hb⟩
  | false => exact (get_no h.tab i g hf).mono fun e w' ⟨he, hb⟩ => ⟨he, h.same hb⟩
theorem TS.set (h : TS base w B S p q bd l v told) (i g : Int) (ee : Entry) : Calls Tryd.prog 33 #[.pointer (some ⟨B, 0, none⟩), tokV i g, entV ee] w fun e w' => e = .returned (.int .i64 (errI l i g)) ∧ TS base w' B S p q bd (setT l i g ee) v told ∧ Mod (fun k => k < bd) w w' := by
  unfold setT errI
  cases hf : freshT l i g with
  | true =>
    obtain ⟨k, rfl, h1, h2, h3⟩ := fresh_out hf
    rw [Int.toNat_natCast]
    exact (tset_yes h.tab k g ee h1 h2 h3).mono fun e w' ⟨he, ht⟩ => ⟨he, h.to ht⟩
  | false => exact (tset_no h.tab i g ee hf).mono fun e w' ⟨he, hb⟩ => ⟨he, h.same hb⟩
theorem TS.drop (h : TS base w B S p q bd l v told) (i g : Int) : Calls Tryd.prog 34 #[.pointer (some ⟨B, 0, none⟩), tokV i g] w fun e w' => e = .returned (.int .i64 (errI l i g)) ∧ TS base w' B S p q bd (dropT l i g) v told ∧ Mod (fun k => k < bd) w w' := by
  unfold dropT errI
  cases hf : freshT l i g with
  | true =>
    obtain ⟨k, rfl, h1, h2, h3⟩ := fresh_out hf
    rw [Int.toNat_natCast]
    exact (drop_yes h.tab k g h1 h2 h3).mono fun e w' ⟨he, ht⟩ => ⟨he, h.to ht⟩
  | false => exact (drop_no h.tab i g hf).mono fun e w' ⟨he, hb⟩ => ⟨he, h.same hb⟩
theorem TS.add (h : TS base w B S p q bd l v told) (hT : Tab base) (h0 : 0 < base.heap.size) (ee : Entry) : Calls Tryd.prog 36 #[.pointer (some ⟨B, 0, none⟩), entV ee] w fun e w' => e = .returned (.tuple #[tokV (addTok l).1 (addTok l).2, .int .i64 (addErr l)]) ∧ TS base w' B S p q bd (addT l ee) v told ∧ Mod (fun k => k < bd) w w' := by
  unfold addTok addErr addT
  have hT' := h.baseTab hT h0
  rcases first_cases (l.map taken) 0 with ⟨k, h1, h2, h3, h4⟩ | ⟨h1, h2⟩
  · rw [h1]
    have hk : k < l.length := by simpa using h3
    have ht : taken (l.getD k slot0) = false := by
      have : (l.map taken).getD k false = taken (l.getD k slot0) := by simp [List.getD, hk]
      rw [← this]; exact h4
    exact (add_in h.tab hT' ee k h1 hk ht).mono fun e w' ⟨he, ht⟩ => ⟨he, h.to ht⟩
  · rw [h1]
    exact (add_full h.tab hT' ee h1).mono fun e w' ⟨he, hb⟩ => ⟨he, h.same hb⟩
def TS0 (base w : World) (B S p q bd : Nat) (l : List Slot) : Prop := TS base w B S p q bd l (.slice none 0 0) []
theorem tnew_ts (n : Nat) (w : World) (h1 : 1 ≤ n) (h2 : n ≤ 4096) : Calls Tryd.prog 35 #[.int .i64 n] w fun e w' => ∃ B S p q, e = .returned (.tuple #[.pointer (some ⟨B, 0, none⟩), .int .i64 0]) ∧ TS w w' B S p q w'.heap.size (List.replicate n slot0) (.slice none 0 0) [] := by
  refine (tnew_in n w h1 h2).mono fun e w' ⟨B, S, p, q, he, ht, hb, hB, hS, hp, hq⟩ => ⟨B, S, p, q, he, ?_⟩
  obtain ⟨ws, hm⟩ := ht.map
  exact ⟨ht, hb, hB, hS, hp, hq, block_lt ht.head, block_lt ht.body, block_lt hm.head, block_lt hm.body, Nat.le_refl _, World.ownsRow_nil _ _ _ _⟩
structure Act7 where
  kind : Int
  which : Int
  raw : Bool
  ti : Int
  tg : Int
  e : Entry
def act7Enc (a : Act7) : List Value := [.int .i64 a.kind, .int .i64 a.which, .bool a.raw, .int .i64 a.ti, .int .i64 a.tg, .int .i64 a.e.addr, .int .i64 a.e.region, .bool a.e.held, .bool a.e.pinned]
def act70 : Act7 := ⟨0, 0, false, 0, 0, noEntry⟩
def act7V (a : Act7) : Value := .agg (act7Enc a).toArray
theorem results_cell1 {fn : Func} {p : Tmp} {ty : TypeId} (h : fn.results = #[.cell p ty]) (tmps : Array Value) (P : Program) (w : World) :
    (results fn tmps).run P w = ((asAddr (tmps.getD p undef)).run P w).andThen fun a w₁ => (loadVar ty a).run P w₁ := by
  simp only [results, h]
  simp [Sem.run_bind, Result.andThen]
theorem rem_len (a : Int) (d : Nat) (hd : 1 ≤ d) : ∃ R : Nat, (IntKind.u64.wrap a).tmod (d : Int) = (R : Int) ∧ R < d := by
  have h : 0 ≤ IntKind.u64.wrap a := by rw [IntKind.wrap_u64]; omega
  rw [Int.tmod_eq_emod_of_nonneg h]
  have h1 := Int.emod_nonneg (IntKind.u64.wrap a) (show (d : Int) ≠ 0 by omega)
  have h2 := Int.emod_lt_of_pos (IntKind.u64.wrap a) (show (0 : Int) < d by omega)
  exact ⟨((IntKind.u64.wrap a) % (d : Int)).toNat, by omega, by omega⟩
theorem tok_at {A : Option Addr} (h : SliceOf w A 2 tokEnc (0, 0) told) (k : Nat) (hk : k < told.length) : ∃ b o, A = some ⟨b, o, none⟩ ∧ w.cell? ⟨b, o + k * 2, none⟩ = some (.int .i64 (told.getD k (0, 0)).1) ∧ w.cell? ⟨b, o + k * 2 + 1, none⟩ = some (.int .i64 (told.getD k (0, 0)).2) := by
  obtain ⟨b, o, e, h1⟩ := h k hk
  exact ⟨b, o, e, h1 0 _ rfl, h1 1 _ rfl⟩
def TokPost (w : World) (e : Ending) (w' : World) : Prop := ∃ i g : Int, e = .returned (tokV i g) ∧ Below w.heap.size w w'
set_option maxRecDepth 100000 in
theorem token_any (a : Act7) (A : Option Addr) (c : Nat) (hm : told.length ≤ maxLen) (hS : SliceOf w A 2 tokEnc (0, 0) told) : Calls Tryd.prog 40 #[act7V a, .slice A told.length c] w (TokPost w) := by
  obtain ⟨kind, which, raw, ti, tg, ee⟩ := a
  unfold act7V act7Enc
  unfold maxLen at hm
  cases raw with
  | true =>
    clear hS
    go_enter Tryd.func40, Tryd.ntmps40
    go_wp2
    (try simp only [Exit.inBlock, Exit.then])
    refine bodyPost_ret (v := tokV ti tg) ?_ rfl ⟨ti, tg, rfl, (below1 w _).on (below1 _ _)⟩
    rw [results_cell1 rfl]
    go_simp
    rfl
  | false =>
    by_cases h0 : told.length = 0
    · obtain rfl : told = [] := List.length_eq_zero_iff.1 h0
      clear hS
      simp only [List.length_nil]
      go_enter Tryd.func40, Tryd.ntmps40
      go_wp2
      (try simp only [Exit.inBlock, Exit.then])
      refine bodyPost_ret (v := tokV ti tg) ?_ rfl ⟨ti, tg, rfl, (below1 w _).on (below1 _ _)⟩
      rw [results_cell1 rfl]
      go_simp
      rfl
    · obtain ⟨R, hR, hRN⟩ := rem_len which told.length (by omega)
      have hb2 := (below1 w (.cells #[.int .i64 kind, .int .i64 which, .bool false, .int .i64 ti, .int .i64 tg, .int .i64 ee.addr, .int .i64 ee.region, .bool ee.held, .bool ee.pinned] 70)).on (below1 _ (.cells #[.int .i64 0, .int .i64 0] 57))
      obtain ⟨b, o, rfl, e0, e1⟩ := tok_at (hS.on hb2) R hRN
      have k0 : ((told.length : Int) == 0) = false := by simp; intro e; rw [e] at h0; simp at h0
      have k1 : ¬ told.length = 0 := h0
      have k2 : ¬ told = [] := fun e => h0 (by rw [e]; rfl)
      generalize told.getD R (0, 0) = x at e0 e1
      obtain ⟨xi, xg⟩ := x
      clear hS h0
      go_enter Tryd.func40, Tryd.ntmps40
      go_wp2_with (simp only [hR])
      (try simp only [Exit.inBlock, Exit.then])
      refine bodyPost_ret (v := tokV xi xg) ?_ rfl ⟨xi, xg, rfl, (below1 w _).on (below1 _ _)⟩
      rw [results_cell1 rfl]
      go_simp
      rfl
end Go.Proofs.YtbdpbkblihaeiaaDoor
