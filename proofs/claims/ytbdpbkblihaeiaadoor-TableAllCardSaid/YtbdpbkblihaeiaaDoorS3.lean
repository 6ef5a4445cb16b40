/- TableOnce: a walk. -/
import Derived.Test.YtbdpbkblihaeiaaDoorS2
import Derived.Test.YtbdpbkblihaeiaaDoorAp
namespace Go.Proofs.YtbdpbkblihaeiaaDoor
open Go.RowKit
set_option linter.unusedVariables false
set_option linter.unusedSimpArgs false
variable {w w' base : World} {B S p q bd : Nat} {l : List Slot} {v v' : Value} {told gone : List (Int × Int)}
/-- A table and two slices of tokens. -/
structure TG (base w : World) (B S p q bd : Nat) (l : List Slot) (v : Value) (told : List (Int × Int)) (v' : Value) (gone : List (Int × Int)) : Prop where
  ts : TS base w B S p q bd l v told
  row : w.ownsRow bd 57 2 v' gone.length (gone.flatMap tokEnc)
  apart : ∀ k, v.ownBlock = some k → v'.ownBlock = some k → False
theorem TG.on (h : TG base w B S p q bd l v told v' gone) (hb : Below w.heap.size w w') : TG base w' B S p q bd l v told v' gone := ⟨h.ts.on hb, own_on h.row hb, h.apart⟩
theorem TG.put (h : TG base w B S p q bd l v told v' gone) (o : Obj) : TG base (w.alloc o) B S p q bd l v told v' gone := h.on (below1 w o)
theorem TG.to {l' : List Slot} (h : TG base w B S p q bd l v told v' gone) (hS : TS base w' B S p q bd l' v told) (hm : Mod (fun k => k < bd) w w') : TG base w' B S p q bd l' v told v' gone := ⟨hS, own_mod h.row hm (fun _ e => e), h.apart⟩
theorem TG.first {u : Value} {told' : List (Int × Int)} (h : TG base w B S p q bd l v told v' gone) (hg : w.grownBy w' v.ownBlock) (hr : w'.ownsRow bd 57 2 u told'.length (told'.flatMap tokEnc)) (hu : ∀ k, u.ownBlock = some k → v.ownBlock = some k ∨ k = w.heap.size) : TG base w' B S p q bd l u told' v' gone :=
  ⟨h.ts.app hg hr, h.row.kept hg (by
    cases e : v'.ownBlock with
    | none => exact .inl rfl
    | some k => exact .inr (fun e2 => h.apart k e2.symm e)), fun k e1 e2 => by
    rcases hu k e1 with g | g
    · exact h.apart k g e2
    · have := (h.row.lt k e2).2; omega⟩
theorem TG.second {u : Value} {gone' : List (Int × Int)} (h : TG base w B S p q bd l v told v' gone) (hg : w.grownBy w' v'.ownBlock) (hr : w'.ownsRow bd 57 2 u gone'.length (gone'.flatMap tokEnc)) (hu : ∀ k, u.ownBlock = some k → v'.ownBlock = some k ∨ k = w.heap.size) : TG base w' B S p q bd l v told u gone' := by
  have hbd : base.heap.size ≤ bd := by have := h.ts.hB; have := h.ts.lB; omega
  have hrow : ∀ k, v'.ownBlock = some k → bd ≤ k := fun k e => (h.row.lt k e).1
  have hm : Mod (fun k => v'.ownBlock = some k) w w' := ⟨hg.os, hg.tape, hg.output, hg.size, fun k hk hn => hg.block k hk (fun e => hn e.symm)⟩
  have hn : ∀ k, k < bd → ¬ v'.ownBlock = some k := fun k hk e => by have := hrow k e; omega
  refine ⟨{ h.ts with tab := h.ts.tab.mod hm (hn _ h.ts.lB) (hn _ h.ts.lS) (hn _ h.ts.lp) (hn _ h.ts.lq), below := h.ts.below.grown hg h.ts.below.size (fun k e => by have := hrow k e; omega), le := Nat.le_trans h.ts.le hg.size, row := h.ts.row.kept hg ?_ }, hr, fun k e1 e2 => ?_⟩
  · cases e : v.ownBlock with
    | none => exact .inl rfl
    | some k => exact .inr (fun e2 => h.apart k e e2.symm)
  · rcases hu k e2 with g | g
    · exact h.apart k e1 g
    · have := (h.ts.row.lt k e1).2; omega
theorem TG.get (h : TG base w B S p q bd l v told v' gone) (i g : Int) : Calls Tryd.prog 32 #[.pointer (some ⟨B, 0, none⟩), tokV i g] w fun e w' => e = .returned (.tuple #[entV (getE l i g), .int .i64 (errI l i g)]) ∧ TG base w' B S p q bd l v told v' gone ∧ Mod (fun k => k < bd) w w' :=
  (h.ts.get i g).mono fun e w' ⟨he, hS, hm⟩ => ⟨he, h.to hS hm, hm⟩
theorem TG.set (h : TG base w B S p q bd l v told v' gone) (i g : Int) (ee : Entry) : Calls Tryd.prog 33 #[.pointer (some ⟨B, 0, none⟩), tokV i g, entV ee] w fun e w' => e = .returned (.int .i64 (errI l i g)) ∧ TG base w' B S p q bd (setT l i g ee) v told v' gone ∧ Mod (fun k => k < bd) w w' :=
  (h.ts.set i g ee).mono fun e w' ⟨he, hS, hm⟩ => ⟨he, h.to hS hm, hm⟩
theorem TG.drop (h : TG base w B S p q bd l v told v' gone) (i g : Int) : Calls Tryd.prog 34 #[.pointer (some ⟨B, 0, none⟩), tokV i g] w fun e w' => e = .returned (.int .i64 (errI l i g)) ∧ TG base w' B S p q bd (dropT l i g) v told v' gone ∧ Mod (fun k => k < bd) w w' :=
  (h.ts.drop i g).mono fun e w' ⟨he, hS, hm⟩ => ⟨he, h.to hS hm, hm⟩
theorem TG.add (h : TG base w B S p q bd l v told v' gone) (hT : Tab base) (h0 : 0 < base.heap.size) (ee : Entry) : Calls Tryd.prog 36 #[.pointer (some ⟨B, 0, none⟩), entV ee] w fun e w' => e = .returned (.tuple #[tokV (addTok l).1 (addTok l).2, .int .i64 (addErr l)]) ∧ TG base w' B S p q bd (addT l ee) v told v' gone ∧ Mod (fun k => k < bd) w w' :=
  (h.ts.add hT h0 ee).mono fun e w' ⟨he, hS, hm⟩ => ⟨he, h.to hS hm, hm⟩
/-- What holds of the tokens that were told, and of those that are gone. -/
structure Once (l : List Slot) (told gone : List (Int × Int)) : Prop where
  isTold : ∀ x ∈ told, ∃ k : Nat, k < l.length ∧ x.1 = k ∧ x.2 ≤ (l.getD k slot0).gen
  isGone : ∀ x ∈ gone, ∃ k : Nat, k < l.length ∧ x.1 = k ∧ x.2 ≤ (l.getD k slot0).gen ∧ ((l.getD k slot0).used = true → x.2 < (l.getD k slot0).gen)
  count : usedN l + gone.length = told.length
theorem usedN_set (l : List Slot) (k : Nat) (hk : k < l.length) (x : Slot) : (usedN (l.set k x) : Int) = usedN l - (if (l.getD k slot0).used then 1 else 0) + (if x.used then 1 else 0) := by
  have h := List.countP_set (p := (·.used)) (l := l) (i := k) (a := x) hk
  have hp : l[k].used = true → 0 < l.countP (·.used) := fun e => List.countP_pos_iff.2 ⟨_, List.getElem_mem hk, e⟩
  have e : l.getD k slot0 = l[k] := by simp [List.getD, hk]
  unfold usedN
  rw [← List.countP_eq_length_filter, ← List.countP_eq_length_filter, h, e]
  cases h1 : l[k].used <;> cases h2 : x.used <;> simp <;> (first | omega | (have := hp h1; omega))
theorem Once.nil (k : Nat) : Once (List.replicate k slot0) [] [] := ⟨by simp, by simp, by
  have : usedN (List.replicate k slot0) = 0 := by rw [← stR_zero]; exact stR_used k 0
  rw [this]; rfl⟩
theorem Once.stale (h : Once l told gone) {x : Int × Int} (hx : x ∈ gone) : freshT l x.1 x.2 = false := by
  obtain ⟨k, h1, h2, h3, h4⟩ := h.isGone x hx
  cases hf : freshT l x.1 x.2 with
  | false => rfl
  | true =>
    obtain ⟨j, e1, e2, e3, e4⟩ := fresh_out hf
    obtain rfl : k = j := by omega
    have := h4 e3
    omega
theorem add_cases (l : List Slot) : (∃ k, k < l.length ∧ taken (l.getD k slot0) = false ∧ (∀ e, addT l e = addL l k e) ∧ addTok l = (((k : Nat) : Int), (((l.getD k slot0).gen + 1 : Nat) : Int)) ∧ addErr l = 0) ∨ ((∀ e, addT l e = l) ∧ addErr l = 12) := by
  unfold addT addTok addErr
  rcases first_cases (l.map taken) 0 with ⟨k, h1, h2, h3, h4⟩ | ⟨h1, h2⟩
  · left
    rw [h1]
    have hk : k < l.length := by simpa using h3
    have ht : taken (l.getD k slot0) = false := by
      have : (l.map taken).getD k false = taken (l.getD k slot0) := by simp [List.getD, hk]
      rw [← this]; exact h4
    exact ⟨k, hk, ht, fun e => rfl, rfl, rfl⟩
  · right
    rw [h1]
    exact ⟨fun e => rfl, rfl⟩
theorem Once.add (h : Once l told gone) (e : Entry) {k : Nat} (hk : k < l.length) (ht : taken (l.getD k slot0) = false) : Once (addL l k e) (told ++ [(((k : Nat) : Int), (((l.getD k slot0).gen + 1 : Nat) : Int))]) gone ∧ ∀ x ∈ told, x ≠ (((k : Nat) : Int), (((l.getD k slot0).gen + 1 : Nat) : Int)) := by
  have hu : (l.getD k slot0).used = false := by
    unfold taken at ht
    cases hu : (l.getD k slot0).used
    · rfl
    · rw [hu] at ht; simp at ht
  have hg : ∀ j, (l.getD j slot0).gen ≤ ((addL l k e).getD j slot0).gen := fun j => by
    unfold addL
    by_cases hj : j = k
    · rw [hj, set_getD _ _ hk]; exact Nat.le_succ _
    · rw [set_ne _ hj]; exact Nat.le_refl _
  have hlen : (addL l k e).length = l.length := by simp [addL]
  refine ⟨⟨fun x hx => ?_, fun x hx => ?_, ?_⟩, fun x hx => ?_⟩
  · rcases List.mem_append.1 hx with g | g
    · obtain ⟨j, h1, h2, h3⟩ := h.isTold x g
      have := hg j
      exact ⟨j, by omega, h2, by omega⟩
    · simp only [List.mem_singleton] at g
      subst g
      refine ⟨k, by omega, rfl, ?_⟩
      unfold addL
      rw [set_getD _ _ hk]
      exact Int.le_refl _
  · obtain ⟨j, h1, h2, h3, h4⟩ := h.isGone x hx
    have := hg j
    refine ⟨j, by omega, h2, by omega, fun hu' => ?_⟩
    by_cases hj : j = k
    · subst hj
      unfold addL
      rw [set_getD _ _ hk]
      show x.2 < (((l.getD j slot0).gen + 1 : Nat) : Int)
      omega
    · unfold addL at hu' ⊢
      rw [set_ne _ hj] at hu' ⊢
      exact h4 hu'
  · have h1 := usedN_set l k hk ⟨(l.getD k slot0).gen + 1, true, e⟩
    rw [hu] at h1
    have h2 := h.count
    unfold addL
    simp [- List.getD_eq_getElem?_getD] at h1
    rw [List.length_append]
    simp only [List.length_cons, List.length_nil]
    omega
  · obtain ⟨j, h1, h2, h3⟩ := h.isTold x hx
    intro he
    rw [he] at h2 h3
    obtain rfl : k = j := by have : ((k : Nat) : Int) = j := h2; omega
    have : (((l.getD k slot0).gen + 1 : Nat) : Int) ≤ (l.getD k slot0).gen := h3
    omega
theorem Once.drop (h : Once l told gone) {i g : Int} (hf : freshT l i g = true) : Once (dropT l i g) told (gone ++ [(i, g)]) := by
  obtain ⟨k, rfl, hk, hu, hgen⟩ := fresh_out hf
  have hd : dropT l k g = l.set k ⟨(l.getD k slot0).gen, false, noEntry⟩ := by unfold dropT dropL; rw [if_pos hf, Int.toNat_natCast]
  rw [hd]
  have hg : ∀ j, ((l.set k ⟨(l.getD k slot0).gen, false, noEntry⟩).getD j slot0).gen = (l.getD j slot0).gen := fun j => by
    by_cases hj : j = k
    · rw [hj, set_getD _ _ hk]
    · rw [set_ne _ hj]
  refine ⟨fun x hx => ?_, fun x hx => ?_, ?_⟩
  · obtain ⟨j, h1, h2, h3⟩ := h.isTold x hx
    exact ⟨j, by simpa using h1, h2, by rw [hg]; exact h3⟩
  · rcases List.mem_append.1 hx with g' | g'
    · obtain ⟨j, h1, h2, h3, h4⟩ := h.isGone x g'
      refine ⟨j, by simpa using h1, h2, by rw [hg]; exact h3, fun hu' => ?_⟩
      by_cases hj : j = k
      · rw [hj, set_getD _ _ hk] at hu'; cases hu'
      · rw [set_ne _ hj] at hu' ⊢
        exact h4 hu'
    · simp only [List.mem_singleton] at g'
      subst g'
      refine ⟨k, by simpa using hk, rfl, by rw [hg]; exact Int.le_of_eq hgen.symm, fun hu' => ?_⟩
      rw [set_getD _ _ hk] at hu'; cases hu'
  · have h1 := usedN_set l k hk ⟨(l.getD k slot0).gen, false, noEntry⟩
    rw [hu] at h1
    have h2 := h.count
    simp [- List.getD_eq_getElem?_getD] at h1
    rw [List.length_append]
    simp only [List.length_cons, List.length_nil]
    omega
/-- An act's entry lies in its block. -/
def Four4 (w : World) (b : Nat) (x y : Int) (h p : Bool) : Prop := w.cell? ⟨b, 5, none⟩ = some (.int .i64 x) ∧ w.cell? ⟨b, 6, none⟩ = some (.int .i64 y) ∧ w.cell? ⟨b, 7, none⟩ = some (.bool h) ∧ w.cell? ⟨b, 8, none⟩ = some (.bool p)
theorem Four4.of {b : Nat} {x y : Int} {h p : Bool} (h1 : w.cell? ⟨b, 5, none⟩ = some (.int .i64 x)) (h2 : w.cell? ⟨b, 6, none⟩ = some (.int .i64 y)) (h3 : w.cell? ⟨b, 7, none⟩ = some (.bool h)) (h4 : w.cell? ⟨b, 8, none⟩ = some (.bool p)) : Four4 w b x y h p := ⟨h1, h2, h3, h4⟩
theorem Four4.on {b : Nat} {x y : Int} {h p : Bool} (k : Four4 w b x y h p) (hm : Mod (fun k => k < bd) w w') (hb : bd ≤ b) : Four4 w' b x y h p := ⟨hi_cell hm k.1 hb, hi_cell hm k.2.1 hb, hi_cell hm k.2.2.1 hb, hi_cell hm k.2.2.2 hb⟩
theorem Four4.grown {row : Option Nat} {b : Nat} {x y : Int} {h p : Bool} (k : Four4 w b x y h p) (hg : w.grownBy w' row) (hne : some b = row → False) (hlt : b < w.heap.size) : Four4 w' b x y h p := by
  have e : ∀ o, w'.cell? ⟨b, o, none⟩ = w.cell? ⟨b, o, none⟩ := fun o => World.cell?_of_block (w := w) (hg.block b hlt hne)
  exact ⟨(e _).trans k.1, (e _).trans k.2.1, (e _).trans k.2.2.1, (e _).trans k.2.2.2⟩
theorem Pair.mk {b : Nat} {x y : Int} (hb : bd ≤ b) (h0 : w.cell? ⟨b, 0, none⟩ = some (.int .i64 x)) (h1 : w.cell? ⟨b, 1, none⟩ = some (.int .i64 y)) : Pair bd w b x y := ⟨hb, lt_of_cell h0, h0, h1⟩
theorem left_eq (l : List Slot) : ((usedN l : Int) + ((l.length : Int) - (usedN l + goneN l : Nat))) + (goneN l : Nat) = l.length := by omega
set_option maxRecDepth 100000 in
set_option maxHeartbeats 4000000 in
theorem once_walk (n : Int) (A : Option Addr) (al : List Act7) (c : Nat) (hc : al.length ≤ c) (hm : al.length ≤ maxLen) (hS : SliceOf w A 9 act7Enc act70 al) (hT : Tab w) :
    Calls Tryd.prog 11 #[.int .i64 n, .slice A al.length c] w fun e w' => e = .returned (.bool true) ∧ Below w.heap.size w w' := by
  unfold maxLen at hm
  obtain ⟨K, hK⟩ := grown7_n n 6 (by decide)
  obtain ⟨i0, hi, hz0, hz1, hz2⟩ := info_parts infoTok
  have HI := Lib.hid hi
  have HZ0 := Lib.hid hz0
  have HZ1 := Lib.hid hz1
  have HZ2 := Lib.hid hz2
  have hK1 : 1 ≤ K := by omega
  have hK2 : K ≤ 6 := by omega
  have HK := Lib.hid hK
  have HS := Lib.hid hS
  have HT := Lib.hid hT
  have h0 : 0 < w.heap.size := lt_of_cell (hT 0 (by decide))
  clear hS hK hT hi hz0 hz1 hz2
  have hmax : (if (0 : Int) < n then n else 0) = max 0 n := by omega
  go_enter Tryd.func11, Tryd.ntmps11
  go_wp2_with fail
  rw [← HK.out]
  refine (tnew_ts K w hK1 (by omega)).mono ?_
  rintro e w1 ⟨B, S, p, q, rfl, hS⟩
  have HS1 := Lib.hid hS
  generalize w1.heap.size = bd at *
  clear hS hmax
  go_wp2_with fail
  refine (HS1.out.alive HT.out h0).mono ?_
  rintro e w2 ⟨rfl, hb, hS⟩
  have HS2 := Lib.hid hS
  clear hb hS HS1
  by_cases hlong : 100 < al.length
  · go_wp2_with fail
    refine (HS2.out.alive HT.out h0).mono ?_
    rintro e w3 ⟨rfl, hb, hS⟩
    have HS3 := Lib.hid hS
    clear hb hS
    go_wp2
    go_ret
    exact ⟨rfl, HS3.out.below⟩
  · have HG0 : Hid (TG w w2 B S p q bd (List.replicate K slot0) (.slice none 0 0) [] (.slice none 0 0) []) := Lib.hid ⟨HS2.out, World.ownsRow_nil _ _ _ _, fun k e => by cases e⟩
    clear HS2
    go_wp2_with fail
    go_loopw [8, 9, 56] (fun v8 v9 v56 wr => ∃ (k : Nat) (l : List Slot) (told gone : List (Int × Int)), k ≤ al.length ∧ v56 = .int .i64 k ∧ Hid (TG w wr B S p q bd l v8 told v9 gone) ∧ Hid (Once l told gone) ∧ Hid (l.length = K) ∧ told.length ≤ k ∧ gone.length ≤ k) (fun _ _ v56 _ => al.length - (intOf v56).toNat)
    case atStart => exact ⟨0, _, [], [], by omega, rfl, HG0, Lib.hid (Once.nil K), Lib.hid List.length_replicate, by simp, by simp⟩
    case round =>
      obtain ⟨k, l, told, gone, hk, rfl, HGk, HOk, HLk, htold, hgone⟩ := hrel
      by_cases hlt : k < al.length
      · obtain ⟨b, o, rfl, e1⟩ := act7_cells (HS.out.on HGk.out.ts.below) k hlt
        obtain ⟨A2, c2, rfl, hc2, hS2⟩ := own_any HGk.out.ts.row
        obtain ⟨A8, c8, rfl, hc8, _⟩ := own_any HGk.out.row
        generalize al.getD k act70 = x at e1
        obtain ⟨xk, xw, xr, xi, xg, ⟨xa, xre, xh, xp⟩⟩ := x
        have d0 := e1 0 _ rfl
        have d1 := e1 1 _ rfl
        have d2 := e1 2 _ rfl
        have d3 := e1 3 _ rfl
        have d4 := e1 4 _ rfl
        have d5 := e1 5 _ rfl
        have d6 := e1 6 _ rfl
        have d7 := e1 7 _ rfl
        have d8 := e1 8 _ rfl
        rw [Nat.add_zero] at d0
        have HC : Hid (Calls Tryd.prog 40 #[act7V ⟨xk, xw, xr, xi, xg, ⟨xa, xre, xh, xp⟩⟩, .slice A2 told.length c2] (wr.alloc (.cells #[.int .i64 xk, .int .i64 xw, .bool xr, .int .i64 xi, .int .i64 xg, .int .i64 xa, .int .i64 xre, .bool xh, .bool xp] 70)) (TokPost (wr.alloc (.cells #[.int .i64 xk, .int .i64 xw, .bool xr, .int .i64 xi, .int .i64 xg, .int .i64 xa, .int .i64 xre, .bool xh, .bool xp] 70)))) :=
          Lib.hid (token_any _ A2 c2 (by unfold maxLen; omega) (hS2.on (below1 wr _)))
        clear e1 hS2
        go_wp2_with fail
        refine HC.out.mono ?_
        rintro e w2 ⟨i, g, rfl, hb⟩
        have HG2 := Lib.hid (((HGk.out.on (below1 wr _)).on hb).put (.cells #[.int .i64 i, .int .i64 g] 57))
        have hblk := ((one_block hb).symm ▸ (Below.heap_alloc w2 (.cells #[.int .i64 i, .int .i64 g] 57) wr.heap.size (Nat.lt_of_lt_of_le (by simp) hb.size)) : (w2.alloc (.cells #[.int .i64 i, .int .i64 g] 57)).heap[wr.heap.size]? = _)
        have hle := HGk.out.ts.le
        have hle2 : bd ≤ w2.heap.size := Nat.le_trans hle (Nat.le_trans (by simp) hb.size)
        have f0 := (blk_cells hblk 0).trans rfl
        have f5 := (blk_cells hblk 5).trans rfl
        have f6 := (blk_cells hblk 6).trans rfl
        have f7 := (blk_cells hblk 7).trans rfl
        have f8 := (blk_cells hblk 8).trans rfl
        have p0 := (blk_cells (heap_alloc_new w2 (.cells #[.int .i64 i, .int .i64 g] 57)) 0).trans rfl
        have p1 := (blk_cells (heap_alloc_new w2 (.cells #[.int .i64 i, .int .i64 g] 57)) 1).trans rfl
        have HNA : Hid (∀ k, (Value.slice A2 told.length c2).ownBlock = some k → k < wr.heap.size) := Lib.hid (fun k e => (HGk.out.ts.row.lt k e).2)
        have HNG := Lib.hid (fun k e => (HGk.out.row.lt k e).2)
        generalize hact : wr.heap.size = act at *
        clear hb hblk d0 d1 d2 d3 d4 d5 d6 d7 d8 HC HGk hact
        unfold tokV
        by_cases hk0 : xk = 0
        · subst hk0
          go_wp2_with fail
          refine (HG2.out.add HT.out h0 ⟨xa, xre, xh, xp⟩).mono ?_
          rintro e w3 ⟨rfl, hG3, hm3⟩
          rcases add_cases l with ⟨kk, hkk, htk, hadd, htok, herr⟩ | ⟨hadd, herr⟩
          · rw [hadd] at hG3
            rw [htok, herr]
            have hon := HOk.out.add ⟨xa, xre, xh, xp⟩ hkk htk
            have hll : (addL l kk ⟨xa, xre, xh, xp⟩).length = l.length := by simp [addL]
            generalize (l.getD kk slot0).gen + 1 = gg at *
            generalize addL l kk ⟨xa, xre, xh, xp⟩ = l2 at *
            have HL2 : Hid (l2.length = K) := Lib.hid (hll.trans HLk.out)
            have HON := Lib.hid hon.1
            have HNE := Lib.hid hon.2
            have HG3 := Lib.hid (hG3.put (.cells #[.int .i64 (kk : Nat), .int .i64 (gg : Nat)] 57))
            have HP3 := Lib.hid (Pair.new hG3.ts.le (kk : Nat) (gg : Nat) 57)
            have HA3 := Lib.hid (((Four4.of f5 f6 f7 f8).on hm3 hle).on (.of_below (below1 w3 (.cells #[.int .i64 (kk : Nat), .int .i64 (gg : Nat)] 57))) hle)
            have hle3 := hG3.ts.le
            clear hon hll hG3 hm3 hadd htok herr f0 f5 f6 f7 f8 p0 p1 HG2
            unfold tokV
            go_wp2_with fail
            generalize hpb : w3.heap.size = pb at *
            generalize hw3 : w3.alloc (.cells #[.int .i64 (kk : Nat), .int .i64 (gg : Nat)] 57) = W3 at *
            clear hw3 hpb
            go_loopw [78] (fun v78 wr => ∃ j : Nat, j ≤ told.length ∧ v78 = .int .i64 j ∧ Below W3.heap.size W3 wr) (fun v78 _ => told.length - (intOf v78).toNat)
            case atStart => exact ⟨0, by omega, rfl, Below.refl _ _⟩
            case round =>
              obtain ⟨j, hj, rfl, hB⟩ := hrel
              have HGb := Lib.hid (HG3.out.on hB)
              have HPb := Lib.hid (HP3.out.on (.of_below hB))
              have HAb := Lib.hid (HA3.out.on (.of_below hB) hle)
              have q0 := HPb.out.2.2.1
              have q1 := HPb.out.2.2.2
              by_cases hltj : j < told.length
              · obtain ⟨_, _, e9, _, hs9⟩ := own_any HGb.out.ts.row
                cases e9
                obtain ⟨_, _, rfl, y0, y1⟩ := tok_at hs9 j hltj
                have hne : told.getD j (0, 0) ≠ ((kk : Int), (gg : Int)) := HNE.out _ (by
                  have : told.getD j (0, 0) = told[j] := by simp [List.getD, hltj]
                  rw [this]; exact List.getElem_mem hltj)
                generalize told.getD j (0, 0) = y at y0 y1 hne
                obtain ⟨yi, yg⟩ := y
                have hB2 := hB.on (below1 wr (.cells #[.int .i64 yi, .int .i64 yg] 57))
                have q0' := (HPb.out.put (.cells #[.int .i64 yi, .int .i64 yg] 57)).2.2.1
                have q1' := (HPb.out.put (.cells #[.int .i64 yi, .int .i64 yg] 57)).2.2.2
                clear hs9 q0 q1
                by_cases hi : yi = (kk : Int)
                · subst hi
                  have hg : ¬ yg = (gg : Int) := fun e => hne (by rw [e])
                  clear hne
                  go_wp2
                  go_roundw
                  case rel => exact ⟨j + 1, by omega, by go_num, hB2⟩
                  case measure => simp [intOf]; omega
                · clear hne
                  go_wp2
                  go_roundw
                  case rel => exact ⟨j + 1, by omega, by go_num, hB2⟩
                  case measure => simp [intOf]; omega
              · obtain rfl : j = told.length := by omega
                have hle9 := HGb.out.ts.le
                go_wp2_with (at_builtin; refine wpList_append_two _ rfl _ _ 53 rfl bd 57 i0 (.agg #[.int .i64 0, .int .i64 0]) 2 16 Tryd.underlying53 HI.out HZ0.out HZ1.out HZ2.out rfl (by decide) _ _ _ rfl (HGb.out.ts.row.alloc _) ⟨wr.heap.size, 0, none⟩ 1 1 [.int .i64 (kk : Nat), .int .i64 (gg : Nat)] rfl rfl (World.news_of_block (cs := #[.int .i64 (kk : Nat), .int .i64 (gg : Nat)]) (t := 57) (fr := (0, 0)) (heap_alloc_new wr _)) (by simp [Value.oneCell']) (by unfold maxLen; omega) (by omega) (by simp; omega) (by decide) ?_; intro v5 w5 hown' hgrow hu5)
                have HG5 := Lib.hid ((HGb.out.put _).first hgrow (told' := told ++ [((kk : Int), (gg : Int))]) (by simpa [tokEnc] using hown') hu5)
                have HA5 := Lib.hid (((HAb.out.on (.of_below (below1 wr _)) hle)).grown hgrow (fun e => by have := HNA.out _ e.symm; omega) (Nat.lt_of_lt_of_le (lt_of_cell HAb.out.1) (by simp)))
                have ht2 : (told ++ [((kk : Int), (gg : Int))]).length ≤ k + 1 := by simp; omega
                have hg2 : gone.length ≤ k + 1 := by omega
                clear hown' hgrow hu5 q0 q1 HGb HPb HAb HG3 HP3 HA3
                generalize told ++ [((kk : Int), (gg : Int))] = told2 at *
                go_wp2_with fail
                go_loopw [102] (fun v102 wr => ∃ j : Nat, j ≤ gone.length ∧ v102 = .int .i64 j ∧ Hid (TG w wr B S p q bd l2 v5 told2 (.slice A8 gone.length c8) gone) ∧ Hid (Four4 wr act xa xre xh xp)) (fun v102 _ => gone.length - (intOf v102).toNat)
                case atStart => exact ⟨0, by omega, rfl, HG5, HA5⟩
                case round =>
                  obtain ⟨j, hj, rfl, HGj, HAj⟩ := hrel
                  by_cases hltj : j < gone.length
                  · obtain ⟨A9, c9, e9, hc9, hs9⟩ := own_any HGj.out.row
                    cases e9
                    obtain ⟨_, _, rfl, y0, y1⟩ := tok_at hs9 j hltj
                    have HST := Lib.hid (HON.out.stale (x := gone.getD j (0, 0)) (by
                      have : gone.getD j (0, 0) = gone[j] := by simp [List.getD, hltj]
                      rw [this]; exact List.getElem_mem hltj))
                    generalize gone.getD j (0, 0) = y at y0 y1 HST
                    obtain ⟨yi, yg⟩ := y
                    have HER : Hid (errI l2 yi yg = 8) := Lib.hid (by unfold errI; rw [if_neg (by have h := HST.out; simp only [] at h; rw [h]; decide)])
                    have HSE : Hid (∀ e, setT l2 yi yg e = l2) := Lib.hid (fun e => by unfold setT; rw [if_neg (by have h := HST.out; simp only [] at h; rw [h]; decide)])
                    have HDR : Hid (dropT l2 yi yg = l2) := Lib.hid (by unfold dropT; rw [if_neg (by have h := HST.out; simp only [] at h; rw [h]; decide)])
                    have HGa := Lib.hid (HGj.out.put (.cells #[.int .i64 yi, .int .i64 yg] 57))
                    have HPa := Lib.hid (Pair.new HGj.out.ts.le yi yg 57)
                    have HAa := Lib.hid (HAj.out.on (.of_below (below1 wr (.cells #[.int .i64 yi, .int .i64 yg] 57))) hle)
                    generalize hpb : wr.heap.size = pb at *
                    clear hs9 HST
                    go_wp2_with fail
                    refine (HGa.out.get yi yg).mono ?_
                    rintro e w6 ⟨rfl, hG6, hm6⟩
                    rw [HER.out]
                    generalize getE l2 yi yg = z
                    obtain ⟨za, zr, zh, zp⟩ := z
                    have HG6 := Lib.hid (hG6.put (.cells #[.int .i64 za, .int .i64 zr, .bool zh, .bool zp] 51))
                    have HP6 := Lib.hid ((HPa.out.on hm6).put (.cells #[.int .i64 za, .int .i64 zr, .bool zh, .bool zp] 51))
                    have HA6 := Lib.hid ((HAa.out.on hm6 hle).on (.of_below (below1 w6 (.cells #[.int .i64 za, .int .i64 zr, .bool zh, .bool zp] 51))) hle)
                    have q0 := HP6.out.2.2.1
                    have q1 := HP6.out.2.2.2
                    have e5 := HA6.out.1
                    have e6 := HA6.out.2.1
                    have e7 := HA6.out.2.2.1
                    have e8 := HA6.out.2.2.2
                    clear hG6 hm6 HGa HPa HAa y0 y1 hpb
                    unfold entV
                    go_wp2_with fail
                    refine (HG6.out.set yi yg ⟨xa, xre, xh, xp⟩).mono ?_
                    rintro e w7 ⟨rfl, hG7, hm7⟩
                    rw [HSE.out] at hG7
                    rw [HER.out]
                    have HG7 := Lib.hid hG7
                    have HP7 := Lib.hid (HP6.out.on hm7)
                    have HA7 := Lib.hid (HA6.out.on hm7 hle)
                    clear hG7 hm7 HG6 HP6 HA6 q0 q1 e5 e6 e7 e8
                    have q0 := HP7.out.2.2.1
                    have q1 := HP7.out.2.2.2
                    go_wp2_with fail
                    refine (HG7.out.drop yi yg).mono ?_
                    rintro e w8 ⟨rfl, hG8, hm8⟩
                    rw [HDR.out] at hG8
                    rw [HER.out]
                    have HG8 := Lib.hid hG8
                    have HA8 := Lib.hid (HA7.out.on hm8 hle)
                    clear hG8 hm8 HG7 HP7 HA7 q0 q1
                    go_wp2
                    go_roundw
                    case rel => exact ⟨j + 1, by omega, by go_num, HG8, HA8⟩
                    case measure => simp [intOf]; omega
                  · obtain rfl : j = gone.length := by omega
                    go_wp2
                    go_roundw
                    case rel => exact ⟨k + 1, l2, told2, gone, by omega, by go_num, HGj, HON, HL2, ht2, hg2⟩
                    case measure => simp [intOf]; omega

          · rw [hadd] at hG3
            rw [herr]
            generalize addTok l = tk
            obtain ⟨ti, tg⟩ := tk
            have HG3 := Lib.hid (hG3.put (.cells #[.int .i64 ti, .int .i64 tg] 57))
            clear hG3 hm3 hadd herr f0 f5 f6 f7 f8 p0 p1 HG2
            unfold tokV
            go_wp2
            go_roundw
            case rel => exact ⟨k + 1, l, told, gone, by omega, by go_num, HG3, HOk, HLk, by omega, by omega⟩
            case measure => simp [intOf]; omega
        · by_cases hk3 : xk = 3
          · subst hk3
            go_wp2_with fail
            refine (HG2.out.drop i g).mono ?_
            rintro e w3 ⟨rfl, hG3, hm3⟩
            have HG3 := Lib.hid hG3
            have HP3 := Lib.hid ((Pair.mk hle2 p0 p1).on hm3)
            have HA3 := Lib.hid ((Four4.of f5 f6 f7 f8).on hm3 hle)
            have HL2 := Lib.hid ((dropT_length l i g).trans HLk.out)
            have hle3 := hG3.ts.le
            generalize hpb : w2.heap.size = pb at *
            clear hG3 hm3 f0 f5 f6 f7 f8 p0 p1 HG2 hk0 hpb
            rcases err_cases (l := l) i g with ⟨hf, he⟩ | ⟨hf, he⟩
            · have HON := Lib.hid (HOk.out.drop hf)
              rw [he]
              have q0 := HP3.out.2.2.1
              have q1 := HP3.out.2.2.2
              generalize dropT l i g = l2 at *
              clear he hf
              go_wp2_with (at_builtin; refine wpList_append_two _ rfl _ _ 53 rfl bd 57 i0 (.agg #[.int .i64 0, .int .i64 0]) 2 16 Tryd.underlying53 HI.out HZ0.out HZ1.out HZ2.out rfl (by decide) _ _ _ rfl (HG3.out.row.alloc _) ⟨w3.heap.size, 0, none⟩ 1 1 [.int .i64 i, .int .i64 g] rfl rfl (World.news_of_block (cs := #[.int .i64 i, .int .i64 g]) (t := 57) (fr := (0, 0)) (heap_alloc_new w3 _)) (by simp [Value.oneCell']) (by unfold maxLen; omega) (by omega) (by simp; omega) (by decide) ?_; intro v5 w5 hown' hgrow hu5; obtain ⟨gone2, hgo2⟩ : ∃ x, x = gone ++ [(i, g)] := ⟨_, rfl⟩; have HR5 := Lib.hid (show w5.ownsRow bd 57 2 v5 gone2.length (gone2.flatMap tokEnc) by rw [hgo2]; simpa [tokEnc] using hown'); have HGO := Lib.hid hgo2; clear hgo2; obtain ⟨A7, c7, rfl, hc7, _⟩ := own_any HR5.out)
              have HG5 := Lib.hid ((HG3.out.put _).second hgrow (gone' := gone2) HR5.out hu5)
              have HA5 := Lib.hid (((HA3.out.on (.of_below (below1 w3 _)) hle)).grown hgrow (fun e => by have := HNG.out _ e.symm; omega) (Nat.lt_of_lt_of_le (lt_of_cell HA3.out.1) (by simp)))
              have ht2 : told.length ≤ k + 1 := by omega
              have hg2 : gone2.length ≤ k + 1 := by rw [HGO.out]; simp; omega
              rw [← HGO.out] at HON
              clear hown' hgrow hu5 q0 q1 HG3 HP3 HA3
              clear HR5 HGO
              go_wp2_with fail
              go_loopw [102] (fun v102 wr => ∃ j : Nat, j ≤ gone2.length ∧ v102 = .int .i64 j ∧ Hid (TG w wr B S p q bd l2 (.slice A2 told.length c2) told (.slice A7 gone2.length c7) gone2) ∧ Hid (Four4 wr act xa xre xh xp)) (fun v102 _ => gone2.length - (intOf v102).toNat)
              case atStart => exact ⟨0, by omega, rfl, HG5, HA5⟩
              case round =>
                obtain ⟨j, hj, rfl, HGj, HAj⟩ := hrel
                by_cases hltj : j < gone2.length
                · obtain ⟨A9, c9, e9, hc9, hs9⟩ := own_any HGj.out.row
                  cases e9
                  obtain ⟨_, _, rfl, y0, y1⟩ := tok_at hs9 j hltj
                  have HST := Lib.hid (HON.out.stale (x := gone2.getD j (0, 0)) (by
                    have : gone2.getD j (0, 0) = gone2[j] := by simp [List.getD, hltj]
                    rw [this]; exact List.getElem_mem hltj))
                  generalize gone2.getD j (0, 0) = y at y0 y1 HST
                  obtain ⟨yi, yg⟩ := y
                  have HER : Hid (errI l2 yi yg = 8) := Lib.hid (by unfold errI; rw [if_neg (by have h := HST.out; simp only [] at h; rw [h]; decide)])
                  have HSE : Hid (∀ e, setT l2 yi yg e = l2) := Lib.hid (fun e => by unfold setT; rw [if_neg (by have h := HST.out; simp only [] at h; rw [h]; decide)])
                  have HDR : Hid (dropT l2 yi yg = l2) := Lib.hid (by unfold dropT; rw [if_neg (by have h := HST.out; simp only [] at h; rw [h]; decide)])
                  have HGa := Lib.hid (HGj.out.put (.cells #[.int .i64 yi, .int .i64 yg] 57))
                  have HPa := Lib.hid (Pair.new HGj.out.ts.le yi yg 57)
                  have HAa := Lib.hid (HAj.out.on (.of_below (below1 wr (.cells #[.int .i64 yi, .int .i64 yg] 57))) hle)
                  generalize hpb : wr.heap.size = pb at *
                  clear hs9 HST
                  go_wp2_with fail
                  refine (HGa.out.get yi yg).mono ?_
                  rintro e w6 ⟨rfl, hG6, hm6⟩
                  rw [HER.out]
                  generalize getE l2 yi yg = z
                  obtain ⟨za, zr, zh, zp⟩ := z
                  have HG6 := Lib.hid (hG6.put (.cells #[.int .i64 za, .int .i64 zr, .bool zh, .bool zp] 51))
                  have HP6 := Lib.hid ((HPa.out.on hm6).put (.cells #[.int .i64 za, .int .i64 zr, .bool zh, .bool zp] 51))
                  have HA6 := Lib.hid ((HAa.out.on hm6 hle).on (.of_below (below1 w6 (.cells #[.int .i64 za, .int .i64 zr, .bool zh, .bool zp] 51))) hle)
                  have q0 := HP6.out.2.2.1
                  have q1 := HP6.out.2.2.2
                  have e5 := HA6.out.1
                  have e6 := HA6.out.2.1
                  have e7 := HA6.out.2.2.1
                  have e8 := HA6.out.2.2.2
                  clear hG6 hm6 HGa HPa HAa y0 y1 hpb
                  unfold entV
                  go_wp2_with fail
                  refine (HG6.out.set yi yg ⟨xa, xre, xh, xp⟩).mono ?_
                  rintro e w7 ⟨rfl, hG7, hm7⟩
                  rw [HSE.out] at hG7
                  rw [HER.out]
                  have HG7 := Lib.hid hG7
                  have HP7 := Lib.hid (HP6.out.on hm7)
                  have HA7 := Lib.hid (HA6.out.on hm7 hle)
                  clear hG7 hm7 HG6 HP6 HA6 q0 q1 e5 e6 e7 e8
                  have q0 := HP7.out.2.2.1
                  have q1 := HP7.out.2.2.2
                  go_wp2_with fail
                  refine (HG7.out.drop yi yg).mono ?_
                  rintro e w8 ⟨rfl, hG8, hm8⟩
                  rw [HDR.out] at hG8
                  rw [HER.out]
                  have HG8 := Lib.hid hG8
                  have HA8 := Lib.hid (HA7.out.on hm8 hle)
                  clear hG8 hm8 HG7 HP7 HA7 q0 q1
                  go_wp2
                  go_roundw
                  case rel => exact ⟨j + 1, by omega, by go_num, HG8, HA8⟩
                  case measure => simp [intOf]; omega
                · obtain rfl : j = gone2.length := by omega
                  go_wp2
                  go_roundw
                  case rel => exact ⟨k + 1, l2, told, gone2, by omega, by go_num, HGj, HON, HL2, ht2, hg2⟩
                  case measure => simp [intOf]; omega

            · have hd : dropT l i g = l := by unfold dropT; rw [if_neg (by rw [hf]; decide)]
              rw [he]
              rw [hd] at HG3
              clear he hf hd HL2
              have ht2 : told.length ≤ k + 1 := by omega
              have hg2 : gone.length ≤ k + 1 := by omega
              go_wp2_with fail
              go_loopw [102] (fun v102 wr => ∃ j : Nat, j ≤ gone.length ∧ v102 = .int .i64 j ∧ Hid (TG w wr B S p q bd l (.slice A2 told.length c2) told (.slice A8 gone.length c8) gone) ∧ Hid (Four4 wr act xa xre xh xp)) (fun v102 _ => gone.length - (intOf v102).toNat)
              case atStart => exact ⟨0, by omega, rfl, HG3, HA3⟩
              case round =>
                obtain ⟨j, hj, rfl, HGj, HAj⟩ := hrel
                by_cases hltj : j < gone.length
                · obtain ⟨A9, c9, e9, hc9, hs9⟩ := own_any HGj.out.row
                  cases e9
                  obtain ⟨_, _, rfl, y0, y1⟩ := tok_at hs9 j hltj
                  have HST := Lib.hid (HOk.out.stale (x := gone.getD j (0, 0)) (by
                    have : gone.getD j (0, 0) = gone[j] := by simp [List.getD, hltj]
                    rw [this]; exact List.getElem_mem hltj))
                  generalize gone.getD j (0, 0) = y at y0 y1 HST
                  obtain ⟨yi, yg⟩ := y
                  have HER : Hid (errI l yi yg = 8) := Lib.hid (by unfold errI; rw [if_neg (by have h := HST.out; simp only [] at h; rw [h]; decide)])
                  have HSE : Hid (∀ e, setT l yi yg e = l) := Lib.hid (fun e => by unfold setT; rw [if_neg (by have h := HST.out; simp only [] at h; rw [h]; decide)])
                  have HDR : Hid (dropT l yi yg = l) := Lib.hid (by unfold dropT; rw [if_neg (by have h := HST.out; simp only [] at h; rw [h]; decide)])
                  have HGa := Lib.hid (HGj.out.put (.cells #[.int .i64 yi, .int .i64 yg] 57))
                  have HPa := Lib.hid (Pair.new HGj.out.ts.le yi yg 57)
                  have HAa := Lib.hid (HAj.out.on (.of_below (below1 wr (.cells #[.int .i64 yi, .int .i64 yg] 57))) hle)
                  generalize hpb : wr.heap.size = pb at *
                  clear hs9 HST
                  go_wp2_with fail
                  refine (HGa.out.get yi yg).mono ?_
                  rintro e w6 ⟨rfl, hG6, hm6⟩
                  rw [HER.out]
                  generalize getE l yi yg = z
                  obtain ⟨za, zr, zh, zp⟩ := z
                  have HG6 := Lib.hid (hG6.put (.cells #[.int .i64 za, .int .i64 zr, .bool zh, .bool zp] 51))
                  have HP6 := Lib.hid ((HPa.out.on hm6).put (.cells #[.int .i64 za, .int .i64 zr, .bool zh, .bool zp] 51))
                  have HA6 := Lib.hid ((HAa.out.on hm6 hle).on (.of_below (below1 w6 (.cells #[.int .i64 za, .int .i64 zr, .bool zh, .bool zp] 51))) hle)
                  have q0 := HP6.out.2.2.1
                  have q1 := HP6.out.2.2.2
                  have e5 := HA6.out.1
                  have e6 := HA6.out.2.1
                  have e7 := HA6.out.2.2.1
                  have e8 := HA6.out.2.2.2
                  clear hG6 hm6 HGa HPa HAa y0 y1 hpb
                  unfold entV
                  go_wp2_with fail
                  refine (HG6.out.set yi yg ⟨xa, xre, xh, xp⟩).mono ?_
                  rintro e w7 ⟨rfl, hG7, hm7⟩
                  rw [HSE.out] at hG7
                  rw [HER.out]
                  have HG7 := Lib.hid hG7
                  have HP7 := Lib.hid (HP6.out.on hm7)
                  have HA7 := Lib.hid (HA6.out.on hm7 hle)
                  clear hG7 hm7 HG6 HP6 HA6 q0 q1 e5 e6 e7 e8
                  have q0 := HP7.out.2.2.1
                  have q1 := HP7.out.2.2.2
                  go_wp2_with fail
                  refine (HG7.out.drop yi yg).mono ?_
                  rintro e w8 ⟨rfl, hG8, hm8⟩
                  rw [HDR.out] at hG8
                  rw [HER.out]
                  have HG8 := Lib.hid hG8
                  have HA8 := Lib.hid (HA7.out.on hm8 hle)
                  clear hG8 hm8 HG7 HP7 HA7 q0 q1
                  go_wp2
                  go_roundw
                  case rel => exact ⟨j + 1, by omega, by go_num, HG8, HA8⟩
                  case measure => simp [intOf]; omega
                · obtain rfl : j = gone.length := by omega
                  go_wp2
                  go_roundw
                  case rel => exact ⟨k + 1, l, told, gone, by omega, by go_num, HGj, HOk, HLk, ht2, hg2⟩
                  case measure => simp [intOf]; omega

          · have z0 : (xk == 0) = false := by simpa using hk0
            have z3 : (xk == 3) = false := by simpa using hk3
            have HA2 := Lib.hid (Four4.of f5 f6 f7 f8)
            have ht2 : told.length ≤ k + 1 := by omega
            have hg2 : gone.length ≤ k + 1 := by omega
            clear hk0 hk3 f5 f6 f7 f8
            go_wp2_with fail
            clear f0 p0 p1
            go_loopw [102] (fun v102 wr => ∃ j : Nat, j ≤ gone.length ∧ v102 = .int .i64 j ∧ Hid (TG w wr B S p q bd l (.slice A2 told.length c2) told (.slice A8 gone.length c8) gone) ∧ Hid (Four4 wr act xa xre xh xp)) (fun v102 _ => gone.length - (intOf v102).toNat)
            case atStart => exact ⟨0, by omega, rfl, HG2, HA2⟩
            case round =>
              obtain ⟨j, hj, rfl, HGj, HAj⟩ := hrel
              by_cases hltj : j < gone.length
              · obtain ⟨A9, c9, e9, hc9, hs9⟩ := own_any HGj.out.row
                cases e9
                obtain ⟨_, _, rfl, y0, y1⟩ := tok_at hs9 j hltj
                have HST := Lib.hid (HOk.out.stale (x := gone.getD j (0, 0)) (by
                  have : gone.getD j (0, 0) = gone[j] := by simp [List.getD, hltj]
                  rw [this]; exact List.getElem_mem hltj))
                generalize gone.getD j (0, 0) = y at y0 y1 HST
                obtain ⟨yi, yg⟩ := y
                have HER : Hid (errI l yi yg = 8) := Lib.hid (by unfold errI; rw [if_neg (by have h := HST.out; simp only [] at h; rw [h]; decide)])
                have HSE : Hid (∀ e, setT l yi yg e = l) := Lib.hid (fun e => by unfold setT; rw [if_neg (by have h := HST.out; simp only [] at h; rw [h]; decide)])
                have HDR : Hid (dropT l yi yg = l) := Lib.hid (by unfold dropT; rw [if_neg (by have h := HST.out; simp only [] at h; rw [h]; decide)])
                have HGa := Lib.hid (HGj.out.put (.cells #[.int .i64 yi, .int .i64 yg] 57))
                have HPa := Lib.hid (Pair.new HGj.out.ts.le yi yg 57)
                have HAa := Lib.hid (HAj.out.on (.of_below (below1 wr (.cells #[.int .i64 yi, .int .i64 yg] 57))) hle)
                generalize hpb : wr.heap.size = pb at *
                clear hs9 HST
                go_wp2_with fail
                refine (HGa.out.get yi yg).mono ?_
                rintro e w6 ⟨rfl, hG6, hm6⟩
                rw [HER.out]
                generalize getE l yi yg = z
                obtain ⟨za, zr, zh, zp⟩ := z
                have HG6 := Lib.hid (hG6.put (.cells #[.int .i64 za, .int .i64 zr, .bool zh, .bool zp] 51))
                have HP6 := Lib.hid ((HPa.out.on hm6).put (.cells #[.int .i64 za, .int .i64 zr, .bool zh, .bool zp] 51))
                have HA6 := Lib.hid ((HAa.out.on hm6 hle).on (.of_below (below1 w6 (.cells #[.int .i64 za, .int .i64 zr, .bool zh, .bool zp] 51))) hle)
                have q0 := HP6.out.2.2.1
                have q1 := HP6.out.2.2.2
                have e5 := HA6.out.1
                have e6 := HA6.out.2.1
                have e7 := HA6.out.2.2.1
                have e8 := HA6.out.2.2.2
                clear hG6 hm6 HGa HPa HAa y0 y1 hpb
                unfold entV
                go_wp2_with fail
                refine (HG6.out.set yi yg ⟨xa, xre, xh, xp⟩).mono ?_
                rintro e w7 ⟨rfl, hG7, hm7⟩
                rw [HSE.out] at hG7
                rw [HER.out]
                have HG7 := Lib.hid hG7
                have HP7 := Lib.hid (HP6.out.on hm7)
                have HA7 := Lib.hid (HA6.out.on hm7 hle)
                clear hG7 hm7 HG6 HP6 HA6 q0 q1 e5 e6 e7 e8
                have q0 := HP7.out.2.2.1
                have q1 := HP7.out.2.2.2
                go_wp2_with fail
                refine (HG7.out.drop yi yg).mono ?_
                rintro e w8 ⟨rfl, hG8, hm8⟩
                rw [HDR.out] at hG8
                rw [HER.out]
                have HG8 := Lib.hid hG8
                have HA8 := Lib.hid (HA7.out.on hm8 hle)
                clear hG8 hm8 HG7 HP7 HA7 q0 q1
                go_wp2
                go_roundw
                case rel => exact ⟨j + 1, by omega, by go_num, HG8, HA8⟩
                case measure => simp [intOf]; omega
              · obtain rfl : j = gone.length := by omega
                go_wp2
                go_roundw
                case rel => exact ⟨k + 1, l, told, gone, by omega, by go_num, HGj, HOk, HLk, ht2, hg2⟩
                case measure => simp [intOf]; omega
      · obtain rfl : k = al.length := by omega
        have HCN := Lib.hid HOk.out.count
        obtain ⟨A2, c2, rfl, _, _⟩ := own_any HGk.out.ts.row
        obtain ⟨A8, c8, rfl, _, _⟩ := own_any HGk.out.row
        clear hm
        have hLk := HLk.out
        have htl := taken_le l
        obtain ⟨U, hU⟩ : ∃ U : Nat, usedN l = U := ⟨_, rfl⟩
        obtain ⟨R, hR⟩ : ∃ R : Nat, goneN l = R := ⟨_, rfl⟩
        obtain ⟨F, hF⟩ : ∃ F : Nat, l.length - (U + R) = F := ⟨_, rfl⟩
        have HU := Lib.hid hU
        have HR := Lib.hid hR
        have HUe : Hid (((U : Nat) : Int) = (told.length : Int) - (gone.length : Int)) := Lib.hid (by have := HCN.out; omega)
        have HFe : Hid ((l.length : Int) - ((U + R : Nat) : Int) = (F : Int)) := Lib.hid (by omega)
        have hsum : (U : Int) + (F : Int) + (R : Int) = (K : Int) := by omega
        have hw1 : wrap64 ((told.length : Int) - (gone.length : Int)) = (told.length : Int) - (gone.length : Int) := by simp [wrap64]; omega
        obtain ⟨Z, hZ⟩ : ∃ Z : Nat, U + F = Z := ⟨_, rfl⟩
        have hw2 : wrap64 ((U : Int) + (F : Int)) = (Z : Int) := by clear hw1; simp [wrap64]; omega
        have hw3 : wrap64 ((Z : Int) + (R : Int)) = (K : Int) := by clear hw1 hw2; simp [wrap64]; omega
        clear hZ hsum
        clear hU hR hF htl hLk hc
        go_wp2_with fail
        refine HGk.out.ts.usedB.mono ?_
        rintro e w3 ⟨rfl, hb⟩
        have HG3 := Lib.hid (HGk.out.ts.on hb)
        clear hb
        rw [HU.out, HUe.out]
        go_wp2_with fail
        refine HG3.out.usedB.mono ?_
        rintro e w4 ⟨rfl, hb⟩
        have HG4 := Lib.hid (HG3.out.on hb)
        clear hb
        rw [HU.out]
        go_wp2_with fail
        refine HG4.out.leftB.mono ?_
        rintro e w5 ⟨rfl, hb⟩
        have HG5 := Lib.hid (HG4.out.on hb)
        clear hb
        rw [HU.out, HR.out, HFe.out]
        go_wp2_with fail
        refine HG5.out.retiredB.mono ?_
        rintro e w6 ⟨rfl, hb⟩
        have HG6 := Lib.hid (HG5.out.on hb)
        clear hb
        rw [HR.out]
        go_wp2
        go_ret
        exact ⟨rfl, HG6.out.below⟩
end Go.Proofs.YtbdpbkblihaeiaaDoor
