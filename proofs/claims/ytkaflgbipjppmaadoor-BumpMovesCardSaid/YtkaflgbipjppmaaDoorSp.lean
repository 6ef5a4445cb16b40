/- A space in plain words; its contracts: walks. -/
import Derived.Test.YtkaflgbipjppmaaDoorTr
import Derived.Test.YtkaflgbipjppmaaDoorAp
import Derived.Test.YtkaflgbipjppmaaDoorWr
import Derived.Maps.AppendAt
import Derived.Deep.AppendLies
import Derived.Laws.AppendOwn
namespace Go.Proofs.YtkaflgbipjppmaaDoor
open Go.RowKit
set_option linter.unusedVariables false
variable {w w' : World} {B Wb Ob p q size Pb bd at_ end_ : Nat} {W W' own own' : List Int} {v : Value} {parts : List (Nat × Nat)} {ow : Int}
def partEnc (x : Nat × Nat) : List Value := [.int .i64 x.1, .int .i64 x.2]
structure SpaceAt (w : World) (Pb B bd : Nat) (ow : Int) (v : Value) (parts : List (Nat × Nat)) (at_ end_ : Nat) : Prop where
  head : w.heap[Pb]? = some (.cells #[.pointer (some ⟨B, 0, none⟩), .int .i64 ow, v, .int .i64 at_, .int .i64 end_] 91 (0, 0))
  row : rowW w bd 93 2 v parts.length (parts.flatMap partEnc)
  le : at_ ≤ end_
  e1 : end_ ≤ 1048576
  o1 : 1 ≤ ow
  pin : ∀ x ∈ parts, x.1 + x.2 ≤ 1024
theorem own_mod {P : Nat → Prop} {bs : Nat} {t : TypeId} {size n : Nat} {v : Value} {xs : List Value} (h : w.ownsRow bs t size v n xs) (hm : Mod P w w') (hn : ∀ k, v.ownBlock = some k → ¬ P k) : w'.ownsRow bs t size v n xs := by
  obtain ⟨h1, h2⟩ := h
  refine ⟨h1, ?_⟩
  rcases h2 with h2 | ⟨g, cap, cur, hv, hg, hh, r⟩
  · exact .inl h2
  · exact .inr ⟨g, cap, cur, hv, hg, hm.keeps hh (hn g (by rw [hv]; rfl)), r⟩
theorem SpaceAt.mod {P : Nat → Prop} (h : SpaceAt w Pb B bd ow v parts at_ end_) (hm : Mod P w w') (h1 : ¬ P Pb) (h2 : ∀ k, v.ownBlock = some k → ¬ P k) : SpaceAt w' Pb B bd ow v parts at_ end_ :=
  { h with head := hm.keeps h.head h1, row := wrow_mod h.row hm h2 }
theorem SpaceAt.on (h : SpaceAt w Pb B bd ow v parts at_ end_) (hb : Below w.heap.size w w') : SpaceAt w' Pb B bd ow v parts at_ end_ := h.mod (P := fun _ => False) (.of_below hb) (fun x => x) (fun _ _ x => x)
theorem SpaceAt.c0 (h : SpaceAt w Pb B bd ow v parts at_ end_) : w.cell? ⟨Pb, 0, none⟩ = some (.pointer (some ⟨B, 0, none⟩)) := (blk_cells h.head 0).trans rfl
theorem SpaceAt.c1 (h : SpaceAt w Pb B bd ow v parts at_ end_) : w.cell? ⟨Pb, 1, none⟩ = some (.int .i64 ow) := (blk_cells h.head 1).trans rfl
theorem SpaceAt.c2 (h : SpaceAt w Pb B bd ow v parts at_ end_) : w.cell? ⟨Pb, 2, none⟩ = some v := (blk_cells h.head 2).trans rfl
theorem SpaceAt.c3 (h : SpaceAt w Pb B bd ow v parts at_ end_) : w.cell? ⟨Pb, 3, none⟩ = some (.int .i64 at_) := (blk_cells h.head 3).trans rfl
theorem SpaceAt.c4 (h : SpaceAt w Pb B bd ow v parts at_ end_) : w.cell? ⟨Pb, 4, none⟩ = some (.int .i64 end_) := (blk_cells h.head 4).trans rfl
theorem type_ne {a b : Nat} {xs ys : Array Value} {t u : TypeId} {f g : Nat × Nat} (ha : w.heap[a]? = some (.cells xs t f)) (hb : w.heap[b]? = some (.cells ys u g)) (h : t ≠ u) : a ≠ b := fun e => by
  subst e
  rw [ha] at hb
  injection hb with hb
  injection hb with h1 h2 h3
  exact h h2
theorem own_type {bs k : Nat} {t u : TypeId} {size n : Nat} {v : Value} {xs : List Value} {ys : Array Value} {f : Nat × Nat} (h : w.ownsRow bs t size v n xs) (hk : w.heap[k]? = some (.cells ys u f)) (hne : t ≠ u) : v.ownBlock ≠ some k := fun e => by
  rcases h.2 with ⟨h2, _⟩ | ⟨g, cap, cur, hv, hg, hh, r⟩
  · rw [h2] at e; cases e
  · rw [hv] at e
    have e' : some g = some k := e
    injection e' with e'
    subst e'
    exact type_ne hh hk hne rfl
theorem wrow_type {bs k : Nat} {t u : TypeId} {size n : Nat} {v : Value} {xs : List Value} {ys : Array Value} {f : Nat × Nat} (h : rowW w bs t size v n xs) (hk : w.heap[k]? = some (.cells ys u f)) (hne : t ≠ u) : v.ownBlock ≠ some k := fun e => by
  rcases h.2 with ⟨h2, _⟩ | ⟨g, cap, cur, hv, hg, hh, r⟩
  · rw [h2] at e; cases e
  · rw [hv] at e
    have e' : some g = some k := e
    injection e' with e'
    subst e'
    exact type_ne hh hk hne rfl
theorem SpaceAt.np (h : SpaceAt w Pb B bd ow v parts at_ end_) : v.ownBlock ≠ some Pb := wrow_type h.row h.head (by decide)
theorem SpaceAt.far (h : SpaceAt w Pb B bd ow v parts at_ end_) (hs : StoreAt w B Wb Ob p q W size own) : ∀ k, Five B Wb Ob p q k → k ≠ Pb ∧ v.ownBlock ≠ some k := by
  obtain ⟨u, hu⟩ := hs.map
  intro k hk
  rcases hk with rfl | rfl | rfl | rfl | rfl
  · exact ⟨type_ne hs.head h.head (by decide), wrow_type h.row hs.head (by decide)⟩
  · exact ⟨type_ne hs.body h.head (by decide), wrow_type h.row hs.body (by decide)⟩
  · exact ⟨type_ne hs.owners h.head (by decide), wrow_type h.row hs.owners (by decide)⟩
  · exact ⟨type_ne hu.head h.head (by decide), wrow_type h.row hu.head (by decide)⟩
  · exact ⟨type_ne hu.body h.head (by decide), wrow_type h.row hu.body (by decide)⟩
theorem space_nil (s : Value) (w : World) : Calls Tryd.prog 42 #[.pointer none, s] w fun e w' => e = .returned (.tuple #[.pointer none, .int .i64 1]) ∧ w = w' := by
  go_enter Tryd.func42, Tryd.ntmps42
  go_wp2
  go_ret2
  exact ⟨rfl, rfl⟩
theorem space_few (B : Nat) (o : Int) (w : World) (h : o < 1) : Calls Tryd.prog 42 #[.pointer (some ⟨B, 0, none⟩), .int .i64 o] w fun e w' => e = .returned (.tuple #[.pointer none, .int .i64 2]) ∧ w = w' := by
  go_enter Tryd.func42, Tryd.ntmps42
  go_wp2
  go_ret2
  exact ⟨rfl, rfl⟩
theorem space_new (B bd : Nat) (o : Int) (w : World) (h : 1 ≤ o) : Calls Tryd.prog 42 #[.pointer (some ⟨B, 0, none⟩), .int .i64 o] w fun e w' => e = .returned (.tuple #[.pointer (some ⟨w.heap.size, 0, none⟩), .int .i64 0]) ∧ SpaceAt w' w.heap.size B bd o (.slice none 0 0) [] 0 0 ∧ Below w.heap.size w w' := by
  have c1 : ¬ o < 1 := by omega
  have H := Lib.hid h
  clear h
  go_enter Tryd.func42, Tryd.ntmps42
  go_wp2
  go_ret2
  exact ⟨rfl, ⟨heap_alloc_new w _, rowW_nil _ _ _ _, Nat.le_refl _, by decide, H.out, fun x hx => by cases hx⟩, below1 w _⟩
theorem room_any (h : SpaceAt w Pb B bd ow v parts at_ end_) : Calls Tryd.prog 32 #[.pointer (some ⟨Pb, 0, none⟩)] w fun e w' => e = .returned (.int .i64 (end_ - at_ : Nat)) ∧ Below w.heap.size w w' := by
  have h3 := h.c3
  have h4 := h.c4
  have hl := h.le
  have he := h.e1
  have hr : ((end_ - at_ : Nat) : Int) = (end_ : Int) - (at_ : Int) := by omega
  have HR := Lib.hid hr
  clear h hr
  go_enter Tryd.func32, Tryd.ntmps32
  go_wp2_with fail
  go_quiet (fail)
  go_wp2
  go_ret
  rw [HR.out]
  exact ⟨rfl, below_drewN (Below.refl _ _) _⟩
theorem room_nil (w : World) : Calls Tryd.prog 32 #[.pointer none] w fun e w' => e = .returned (.int .i64 0) ∧ w = w' := by
  go_enter Tryd.func32, Tryd.ntmps32
  go_wp2
  go_ret
  exact ⟨rfl, rfl⟩
theorem alloc_few (Pb : Nat) (n : Int) (w : World) (h : n < 1) : Calls Tryd.prog 18 #[.pointer (some ⟨Pb, 0, none⟩), .int .i64 n] w fun e w' => e = .returned (.tuple #[.int .i64 0, .int .i64 2]) ∧ w = w' := by
  go_enter Tryd.func18, Tryd.ntmps18
  go_wp2
  go_ret2
  exact ⟨rfl, rfl⟩
/-- What Alloc turns. -/
def AllocS (Wb Ob p q Pb : Nat) (v : Value) (k : Nat) : Prop := Four3 Wb Ob p q k ∨ k = Pb ∨ v.ownBlock = some k
set_option maxRecDepth 100000 in
theorem alloc_room (h : SpaceAt w Pb B bd ow v parts at_ end_) (n : Nat) (hn : 1 ≤ n) (hr : n ≤ end_ - at_) : Calls Tryd.prog 18 #[.pointer (some ⟨Pb, 0, none⟩), .int .i64 n] w fun e w' => e = .returned (.tuple #[.int .i64 at_, .int .i64 0]) ∧ SpaceAt w' Pb B bd ow v parts (at_ + n) end_ ∧ Mod (fun k => k = Pb) w w' := by
  have HC := Lib.hid (room_any h)
  have H := Lib.hid h
  have hl := h.le
  have he := h.e1
  have c1 : ¬ (n : Int) < 1 := by omega
  have c2 : (n : Int) ≤ ((end_ - at_ : Nat) : Int) := by omega
  clear h
  go_enter Tryd.func18, Tryd.ntmps18
  go_wp2_with fail
  refine HC.out.mono ?_
  rintro e w1 ⟨rfl, hb⟩
  have H1 := Lib.hid (H.out.on hb)
  have d3 := H1.out.c3
  have t3 := blk_thaw H1.out.head 3
  have HB := Lib.hid hb
  clear hb HC
  go_wp2
  go_ret2
  have hm : Mod (fun k => k = Pb) w1 (w1.setCell ⟨Pb, 3, none⟩ (.int .i64 ((at_ : Int) + n))) := Mod.setCell _ _ _ _ rfl
  refine ⟨rfl, ⟨?_, wrow_mod H1.out.row hm (fun k hk e => H1.out.np (hk.trans (by rw [e]))), by omega, H1.out.e1, H1.out.o1, H1.out.pin⟩, (Mod.of_below HB.out).trans hm⟩
  rw [show ((at_ + n : Nat) : Int) = (at_ : Int) + (n : Int) by omega]
  exact blk_set H1.out.head 3 _
theorem infoPart : (Tryd.prog.info? 93).map (fun i => (i.zero, i.size, i.bytes)) = some (some (.agg #[.int .i64 0, .int .i64 0]), 2, 16) := by kernel_rfl
/-- How many chunks n words need. -/
def need (size n : Nat) : Nat := (n - 1) / size + 1
set_option maxRecDepth 100000 in
set_option maxHeartbeats 1000000 in
theorem alloc_full (h : SpaceAt w Pb B bd ow v parts at_ end_) (hs : StoreAt w B Wb Ob p q W size own) (hT : Tab w) (n : Nat) (hn : 1 ≤ n) (hn2 : n < 9223372036854775808) (hr : ¬ n ≤ end_ - at_) (hrun : runAtO own (need size n) = (0, false)) :
    Calls Tryd.prog 18 #[.pointer (some ⟨Pb, 0, none⟩), .int .i64 n] w fun e w' => e = .returned (.tuple #[.int .i64 0, .int .i64 11]) ∧ Below w.heap.size w w' := by
  have HC := Lib.hid (room_any h)
  have H := Lib.hid h
  have HS := Lib.hid hs
  have hl := h.le
  have he := h.e1
  have hs1 := hs.s1
  have c1 : ¬ (n : Int) < 1 := by omega
  have c2 : ¬ (n : Int) ≤ ((end_ - at_ : Nat) : Int) := by omega
  obtain ⟨k, hk⟩ : ∃ k, k = need size n := ⟨_, rfl⟩
  rw [← hk] at hrun
  have hk1 : 1 ≤ k := by rw [hk]; exact Nat.le_add_left 1 _
  have hkn : k ≤ n := by
    rw [hk]; unfold need
    have := Nat.div_le_self (n - 1) size
    omega
  have hdv : ((n : Int) - 1).tdiv (size : Int) + 1 = (k : Int) := by
    rw [hk]; unfold need
    rw [Int.tdiv_eq_ediv_of_nonneg (by omega), show (n : Int) - 1 = ((n - 1 : Nat) : Int) by omega]
    simp
  have hdv2 : ((n : Int) - 1) / (size : Int) + 1 = (k : Int) := by
    rw [← hdv, Int.tdiv_eq_ediv_of_nonneg (by omega)]
  have hsz : ¬ (size : Int) = 0 := by omega
  have HTK : Hid (∀ Y, Below w.heap.size w Y → Calls Tryd.prog 29 #[.pointer (some ⟨B, 0, none⟩), .int .i64 ow, .int .i64 k] Y fun e w' => e = .returned (.tuple #[.int .i64 0, .int .i64 11]) ∧ Y = w') := Lib.hid (fun Y hY => take_full (hs.on hY) (hT.on hY) ow k h.o1 hk1 hrun)
  have HWD : Hid (∀ Y, Below w.heap.size w Y → Calls Tryd.prog 39 #[.pointer (some ⟨B, 0, none⟩)] Y fun e w' => e = .returned (.int .i64 size) ∧ Y = w') := Lib.hid (fun Y hY => words_any (hs.on hY))
  clear h hs hrun hk
  go_enter Tryd.func18, Tryd.ntmps18
  go_wp2_with fail
  refine HC.out.mono ?_
  rintro e w1 ⟨rfl, hb⟩
  have H1 := Lib.hid (H.out.on hb)
  have d0 := H1.out.c0
  have d1 := H1.out.c1
  have HB := Lib.hid hb
  clear hb HC
  go_wp2_with fail
  refine (HWD.out _ HB.out).mono ?_
  rintro e w2 ⟨rfl, rfl⟩
  have HTQ : Hid (∀ k2, Calls Tryd.prog 29 #[.pointer (some ⟨B, 0, none⟩), .int .i64 ow, .int .i64 k] (w1.drewN k2) fun e w' => e = .returned (.tuple #[.int .i64 0, .int .i64 11]) ∧ w' = w1.drewN k2) := Lib.hid (fun k2 => (HTK.out _ (below_drewN HB.out k2)).mono fun e w' ⟨h1, h2⟩ => ⟨h1, h2.symm⟩)
  go_wp2_with fail
  go_quiet ((go_at_call 29; exact Calls.quiet_of_same (HTQ.out _)))
  go_wp2
  go_ret2
  exact ⟨rfl, below_drewN HB.out _⟩
def AllocPost (w : World) (B Wb Ob p q : Nat) (W : List Int) (size : Nat) (own : List Int) (Pb bd : Nat) (ow : Int) (v : Value) (parts : List (Nat × Nat)) (at_ end_ n a k : Nat) (e : Ending) (w' : World) : Prop :=
  e = .returned (.tuple #[.int .i64 (a * size : Nat), .int .i64 0]) ∧ ∃ v', SpaceAt w' Pb B bd ow v' (parts ++ [(a, k)]) (if k = 1 then a * size + n else at_) (if k = 1 then (a + 1) * size else end_) ∧
    StoreAt w' B Wb Ob p q (zeroW W (a * size) (k * size)) size (fillO own a ow k) ∧ Mod (AllocS Wb Ob p q Pb v) w w' ∧ (∀ j, v'.ownBlock = some j → v.ownBlock = some j ∨ w.heap.size ≤ j)
theorem alloc_fin {w5 w7 X : World} {o : Obj} {v' : Value} {n a k at2 end2 : Nat} (H5 : SpaceAt w5 Pb B bd ow v parts at_ end_) (HSt : StoreAt w5 B Wb Ob p q W' size own') (HM5 : Mod (Four3 Wb Ob p q) w w5)
    (hfar : ∀ j, Five B Wb Ob p q j → j ≠ Pb ∧ v.ownBlock ≠ some j) (hg : (w5.alloc o).grownBy w7 v.ownBlock) (hr : rowW w7 bd 93 2 v' (parts ++ [(a, k)]).length ((parts ++ [(a, k)]).flatMap partEnc))
    (hat : ∀ j, v'.ownBlock = some j → v.ownBlock = some j ∨ j = (w5.alloc o).heap.size) (hX : Mod (fun j => j = Pb) w7 X)
    (hh : X.heap[Pb]? = some (.cells #[.pointer (some ⟨B, 0, none⟩), .int .i64 ow, v', .int .i64 at2, .int .i64 end2] 91 (0, 0))) (hle : at2 ≤ end2) (he : end2 ≤ 1048576) (hak : a + k ≤ 1024)
    (e1 : (if k = 1 then a * size + n else at_) = at2) (e2 : (if k = 1 then (a + 1) * size else end_) = end2) (hW : W' = zeroW W (a * size) (k * size)) (ho : own' = fillO own a ow k) :
    AllocPost w B Wb Ob p q W size own Pb bd ow v parts at_ end_ n a k (.returned (.tuple #[.int .i64 (a * size : Nat), .int .i64 0])) X := by
  subst hW
  subst ho
  have hz := block_lt H5.head
  have hm1 : Mod (fun j => j = Pb ∨ v.ownBlock = some j) w5 X := by
    have h1 : Mod (fun j => j = Pb ∨ v.ownBlock = some j) w5 (w5.alloc o) := .of_below (below1 w5 o)
    have h2 : Mod (fun j => j = Pb ∨ v.ownBlock = some j) (w5.alloc o) w7 := ⟨hg.os, hg.tape, hg.output, hg.size, fun j hj hn => hg.block j hj (fun e => hn (.inr e.symm))⟩
    exact (h1.trans h2).trans (hX.mono fun j _ e => .inl e)
  have hnp : v'.ownBlock ≠ some Pb := fun e => by
    rcases hat _ e with h1 | h1
    · exact H5.np h1
    · simp at h1; omega
  refine ⟨rfl, v', ?_, HSt.mod hm1 (fun j hj e => e.elim (fun e => (hfar j hj).1 e) (fun e => (hfar j hj).2 e)), ?_, fun j hj => ?_⟩
  · rw [e1, e2]
    refine ⟨hh, wrow_mod hr hX (fun j hj e => hnp (hj.trans (by rw [e]))), hle, he, H5.o1, fun y hy => ?_⟩
    rcases List.mem_append.1 hy with g | g
    · exact H5.pin y g
    · rw [List.mem_singleton.1 g]; exact hak
  · exact (HM5.mono fun j _ e => .inl e).trans (hm1.mono fun j _ e => .inr e)
  · rcases hat j hj with h1 | h1
    · exact .inl h1
    · rw [h1]; exact .inr (Nat.le_trans HM5.size (by simp))
set_option maxRecDepth 100000 in
set_option maxHeartbeats 4000000 in
theorem alloc_in (h : SpaceAt w Pb B bd ow v parts at_ end_) (hs : StoreAt w B Wb Ob p q W size own) (hT : Tab w) (n a : Nat) (hn : 1 ≤ n) (hn2 : n < 9223372036854775808) (hr : ¬ n ≤ end_ - at_) (hrun : runAtO own (need size n) = (a, true)) (hpl : parts.length ≤ 1000000) (hbd : bd ≤ w.heap.size) :
    Calls Tryd.prog 18 #[.pointer (some ⟨Pb, 0, none⟩), .int .i64 n] w (AllocPost w B Wb Ob p q W size own Pb bd ow v parts at_ end_ n a (need size n)) := by
  obtain ⟨i0, hi, hz0, hz1, hz2⟩ := info_parts infoPart
  have HI := Lib.hid hi
  have HZ0 := Lib.hid hz0
  have HZ1 := Lib.hid hz1
  have HZ2 := Lib.hid hz2
  clear hi hz0 hz1 hz2
  have HC := Lib.hid (room_any h)
  have H := Lib.hid h
  have HS := Lib.hid hs
  have hl := h.le
  have he := h.e1
  have hs1 := hs.s1
  have c1 : ¬ (n : Int) < 1 := by omega
  have c2 : ¬ (n : Int) ≤ ((end_ - at_ : Nat) : Int) := by omega
  obtain ⟨k, hk⟩ : ∃ k, k = need size n := ⟨_, rfl⟩
  rw [← hk] at hrun ⊢
  have hk1 : 1 ≤ k := by rw [hk]; exact Nat.le_add_left 1 _
  have hkn : k ≤ n := by
    rw [hk]; unfold need
    have := Nat.div_le_self (n - 1) size
    omega
  have hdv : ((n : Int) - 1).tdiv (size : Int) + 1 = (k : Int) := by
    rw [hk]; unfold need
    rw [Int.tdiv_eq_ediv_of_nonneg (by omega), show (n : Int) - 1 = ((n - 1 : Nat) : Int) by omega]
    simp
  have hdv2 : ((n : Int) - 1) / (size : Int) + 1 = (k : Int) := by
    rw [← hdv, Int.tdiv_eq_ediv_of_nonneg (by omega)]
  have hsz : ¬ (size : Int) = 0 := by omega
  have hak : a + k ≤ own.length := by
    rcases run_at hrun with ⟨_, h1, _⟩ | ⟨h1, _⟩
    · exact h1
    · cases h1
  have hol := hs.o2
  have hs2 := hs.s2
  have HTK : Hid (∀ Y, Below w.heap.size w Y → Calls Tryd.prog 29 #[.pointer (some ⟨B, 0, none⟩), .int .i64 ow, .int .i64 k] Y (TakePost Y B Wb Ob p q W size own ow k a)) := Lib.hid (fun Y hY => take_in (hs.on hY) (hT.on hY) ow k a h.o1 hk1 hrun)
  have HWD : Hid (∀ Y, Below w.heap.size w Y → Calls Tryd.prog 39 #[.pointer (some ⟨B, 0, none⟩)] Y fun e w' => e = .returned (.int .i64 size) ∧ Y = w') := Lib.hid (fun Y hY => words_any (hs.on hY))
  have HFAR : Hid (∀ Y W' own', SpaceAt Y Pb B bd ow v parts at_ end_ → StoreAt Y B Wb Ob p q W' size own' → ∀ k, Five B Wb Ob p q k → k ≠ Pb ∧ v.ownBlock ≠ some k) := Lib.hid (fun Y W' own' h1 h2 => h1.far h2)
  have hfar := h.far hs
  have HP4 : Hid (∀ k, Four3 Wb Ob p q k → k ≠ Pb ∧ v.ownBlock ≠ some k) := Lib.hid (fun k e => hfar k (.inr e))
  have HPB : Hid (∀ k, Five B Wb Ob p q k → k ≠ Pb ∧ v.ownBlock ≠ some k) := Lib.hid hfar
  have hx2 : (a + 1) * size ≤ 1048576 := Nat.le_trans (Nat.mul_le_mul (show a + 1 ≤ 1024 by omega) hs2) (by decide)
  have hx1 : a * size + size = (a + 1) * size := (Nat.succ_mul _ _).symm
  obtain ⟨x, hx⟩ : ∃ x, x = a * size := ⟨_, rfl⟩
  have HX := Lib.hid hx
  have HX1 := Lib.hid hx1
  have e1 : IntKind.i64.wrap ((a : Int) * (size : Int)) = (x : Int) := by
    rw [show ((a : Int) * (size : Int)) = (x : Int) by rw [hx]; simp, IntKind.wrap_i64]; omega
  have e2 : IntKind.i64.wrap (((a : Int) + 1) * (size : Int)) = ((x + size : Nat) : Int) := by
    rw [show (((a : Int) + 1) * (size : Int)) = ((x + size : Nat) : Int) by rw [hx, hx1]; simp, IntKind.wrap_i64]; omega
  have HKS := Lib.hid (show k = 1 → n ≤ size from fun e => by
    rw [hk] at e; unfold need at e
    have h0 : (n - 1) / size = 0 := by omega
    have := (Nat.div_eq_zero_iff).1 h0
    omega)
  clear h hs hrun hk hfar hx hx1
  go_enter Tryd.func18, Tryd.ntmps18
  go_wp2_with fail
  refine HC.out.mono ?_
  rintro e w1 ⟨rfl, hb⟩
  have H1 := Lib.hid (H.out.on hb)
  have d0 := H1.out.c0
  have d1 := H1.out.c1
  have HB := Lib.hid hb
  clear hb HC
  go_wp2_with fail
  refine (HWD.out _ HB.out).mono ?_
  rintro e w2 ⟨rfl, rfl⟩
  go_wp2_with fail
  first
    | go_region_with (go_at_call 29; refine (HTK.out _ (Below.drew HB.out)).mono ?_; rintro e w5 ⟨rfl, hSt, hMd⟩)
    | fail
  all_goals
    have HSt := Lib.hid hSt
    have hM5 : Mod (Four3 Wb Ob p q) w w5 := (Mod.of_below (Below.drew HB.out)).trans hMd
    have HM5 := Lib.hid hM5
    have H5 : Hid (SpaceAt w5 Pb B bd ow v parts at_ end_) := Lib.hid (H.out.mod hM5 (fun e => (HP4.out _ e).1 rfl) (fun j hj e => (HP4.out _ e).2 hj))
    have f2 := H5.out.c2
    have hz5 := HSt.out.head
    have hlt5 := block_lt H5.out.head
    have hbd5 : bd ≤ w5.heap.size := Nat.le_trans hbd HM5.out.size
    have hnp := H5.out.np
    clear hSt hMd hM5
    by_cases hk0 : k = 1
    · have kb : ((k : Int) == 1) = true := by simp [hk0]
      have HK0 := Lib.hid hk0
      clear hk0
      go_wp2_with (at_builtin; refine wpList_append_weak _ rfl _ _ 89 rfl bd 93 i0 (.agg #[.int .i64 0, .int .i64 0]) 2 16 Tryd.underlying89 HI.out HZ0.out HZ1.out HZ2.out rfl (by decide) v parts.length (parts.flatMap partEnc) rfl (wrow_mod H5.out.row (P := fun _ => False) (.of_below (below1 w5 _)) (fun _ _ e => e)) ⟨w5.heap.size, 0, none⟩ 1 1 [.int .i64 a, .int .i64 k] rfl rfl (World.news_of_block (heap_alloc_new w5 (.cells #[.int .i64 a, .int .i64 k] 93))) (by simp [Value.oneCell']) (by unfold maxLen; omega) (by omega) (by simp; omega) (by decide) ?_; intro v' w7 hown' hgrow hat; have hown2 : rowW w7 bd 93 2 v' (parts ++ [(a, k)]).length ((parts ++ [(a, k)]).flatMap partEnc) := (by simpa [partEnc] using hown'); clear hown'; obtain ⟨A4, c4, e4, hc4, -⟩ := wrow_slice partEnc (0, 0) (fun _ => rfl) hown2; subst e4; have HO2 := Lib.hid hown2; have HGR := Lib.hid hgrow; have HAT := Lib.hid hat; clear hown2; have K7 := (hgrow.block Pb (by simp; omega) (fun e => hnp e.symm)).trans ((Below.heap_alloc w5 (.cells #[.int .i64 a, .int .i64 k] 93) Pb hlt5).trans H5.out.head); have g2 := (blk_cells K7 2).trans rfl; have t2 := blk_thaw K7 2; have g3 := (blk_cells K7 3).trans rfl; have t3 := blk_thaw K7 3; have g4 := (blk_cells K7 4).trans rfl; have t4 := blk_thaw K7 4; have HK7 := Lib.hid K7; clear K7 hgrow hat)
      go_ret2
      have hk := HK0.out
      have hns := HKS.out hk
      have hx := HX.out
      have hx1 := HX1.out
      rw [show wrap64 ((x : Int) + (n : Int)) = ((x + n : Nat) : Int) by simp only [wrap64]; omega, show (x : Int) + (size : Int) = ((x + size : Nat) : Int) by omega]
      rw [hx, show parts.length + 1 = (parts ++ [(a, k)]).length by simp]
      exact alloc_fin H5.out HSt.out HM5.out HPB.out HGR.out HO2.out HAT.out (((Mod.setCell (fun j => j = Pb) w7 ⟨Pb, 2, none⟩ _ rfl).trans (Mod.setCell (fun j => j = Pb) _ ⟨Pb, 3, none⟩ _ rfl)).trans (Mod.setCell (fun j => j = Pb) _ ⟨Pb, 4, none⟩ _ rfl)) (blk_set (blk_set (blk_set HK7.out 2 _) 3 _) 4 _) (by omega) (by omega) (by omega) (if_pos hk) ((if_pos hk).trans (hx1.symm)) rfl rfl
    · have kb : ((k : Int) == 1) = false := by simp; omega
      have HK0 := Lib.hid hk0
      clear hk0
      go_wp2_with (at_builtin; refine wpList_append_weak _ rfl _ _ 89 rfl bd 93 i0 (.agg #[.int .i64 0, .int .i64 0]) 2 16 Tryd.underlying89 HI.out HZ0.out HZ1.out HZ2.out rfl (by decide) v parts.length (parts.flatMap partEnc) rfl (wrow_mod H5.out.row (P := fun _ => False) (.of_below (below1 w5 _)) (fun _ _ e => e)) ⟨w5.heap.size, 0, none⟩ 1 1 [.int .i64 a, .int .i64 k] rfl rfl (World.news_of_block (heap_alloc_new w5 (.cells #[.int .i64 a, .int .i64 k] 93))) (by simp [Value.oneCell']) (by unfold maxLen; omega) (by omega) (by simp; omega) (by decide) ?_; intro v' w7 hown' hgrow hat; have hown2 : rowW w7 bd 93 2 v' (parts ++ [(a, k)]).length ((parts ++ [(a, k)]).flatMap partEnc) := (by simpa [partEnc] using hown'); clear hown'; obtain ⟨A4, c4, e4, hc4, -⟩ := wrow_slice partEnc (0, 0) (fun _ => rfl) hown2; subst e4; have HO2 := Lib.hid hown2; have HGR := Lib.hid hgrow; have HAT := Lib.hid hat; clear hown2; have K7 := (hgrow.block Pb (by simp; omega) (fun e => hnp e.symm)).trans ((Below.heap_alloc w5 (.cells #[.int .i64 a, .int .i64 k] 93) Pb hlt5).trans H5.out.head); have g2 := (blk_cells K7 2).trans rfl; have t2 := blk_thaw K7 2; have g3 := (blk_cells K7 3).trans rfl; have t3 := blk_thaw K7 3; have g4 := (blk_cells K7 4).trans rfl; have t4 := blk_thaw K7 4; have HK7 := Lib.hid K7; clear K7 hgrow hat)
      go_ret2
      have hk := HK0.out
      have hx := HX.out
      rw [hx, show parts.length + 1 = (parts ++ [(a, k)]).length by simp]
      exact alloc_fin H5.out HSt.out HM5.out HPB.out HGR.out HO2.out HAT.out (Mod.setCell (fun j => j = Pb) w7 ⟨Pb, 2, none⟩ _ rfl) (blk_set HK7.out 2 _) (by omega) (by omega) (by omega) (if_neg hk) (if_neg hk) rfl rfl
end Go.Proofs.YtkaflgbipjppmaaDoor
