/- Two spaces of the program's and two of the document's, side by side. What an act does to both: plain joins of the contracts. The twin state of an act's two spaces; what stays. What an act does to both: a walk. -/
import Derived.Test.YtkaflgbipjppmaaDoorGA
import Derived.Test.YtkaflgbipjppmaaDoorDB
import Derived.Test.YtkaflgbipjppmaaDoorRo
namespace Go.Proofs.YtkaflgbipjppmaaDoor
section
open Go Go.RowKit
set_option linter.unusedVariables false
set_option linter.unusedSimpArgs false
variable {w w' : World} {B Wb Ob p q G Wg Og size bd : Nat} {W W' own own' : List Int}
structure PSp where
  P : Nat
  ow : Int
  v : Value
  l : List (Nat × Nat)
  a : Nat
  e : Nat
structure DSp where
  D : Nat
  ow : Int
  u : Value
  l : List (Nat × Nat)
  pr : Int
  f : Nat
abbrev PSp.at_ (x : PSp) (w : World) (B bd : Nat) : Prop := SpaceAt w x.P B bd x.ow x.v x.l x.a x.e
abbrev DSp.at_ (x : DSp) (w : World) (G bd : Nat) : Prop := DocAt w x.D G bd x.ow x.u x.l x.pr x.f
structure PS (w : World) (bd B Wb Ob p q : Nat) (W : List Int) (size : Nat) (own : List Int) (x y : PSp) : Prop where
  st : StoreAt w B Wb Ob p q W size own
  s0 : x.at_ w B bd
  s1 : y.at_ w B bd
  ne : x.P ≠ y.P
  far : ∀ k, x.v.ownBlock = some k → y.v.ownBlock ≠ some k
structure DS (w : World) (bd G Wg Og : Nat) (W : List Int) (size : Nat) (own : List Int) (x y : DSp) : Prop where
  rf : RefSt w G Wg Og W size own
  s0 : x.at_ w G bd
  s1 : y.at_ w G bd
  ne : x.D ≠ y.D
  far : ∀ k, x.u.ownBlock = some k → y.u.ownBlock ≠ some k
theorem PS.swap {x y : PSp} (h : PS w bd B Wb Ob p q W size own x y) : PS w bd B Wb Ob p q W size own y x := ⟨h.st, h.s1, h.s0, fun e => h.ne e.symm, fun k h1 h2 => h.far k h2 h1⟩
theorem DS.swap {x y : DSp} (h : DS w bd G Wg Og W size own x y) : DS w bd G Wg Og W size own y x := ⟨h.rf, h.s1, h.s0, fun e => h.ne e.symm, fun k h1 h2 => h.far k h2 h1⟩
theorem PS.on {x y : PSp} (h : PS w bd B Wb Ob p q W size own x y) (hb : Below w.heap.size w w') : PS w' bd B Wb Ob p q W size own x y := ⟨h.st.on hb, h.s0.on hb, h.s1.on hb, h.ne, h.far⟩
theorem DS.on {x y : DSp} (h : DS w bd G Wg Og W size own x y) (hb : Below w.heap.size w w') : DS w' bd G Wg Og W size own x y := ⟨h.rf.on hb, h.s0.on hb, h.s1.on hb, h.ne, h.far⟩
/-- What calls of the program's spaces turn. -/
def ProgS (Wb Ob p q : Nat) (x y : PSp) (k : Nat) : Prop := Four3 Wb Ob p q k ∨ k = x.P ∨ k = y.P ∨ x.v.ownBlock = some k ∨ y.v.ownBlock = some k
def DocS (Wg Og : Nat) (x y : DSp) (k : Nat) : Prop := Two3 Wg Og k ∨ k = x.D ∨ k = y.D ∨ x.u.ownBlock = some k ∨ y.u.ownBlock = some k
theorem ProgS.swap {x y : PSp} {k : Nat} (h : ProgS Wb Ob p q x y k) : ProgS Wb Ob p q y x k := by
  rcases h with h | h | h | h | h
  · exact .inl h
  · exact .inr (.inr (.inl h))
  · exact .inr (.inl h)
  · exact .inr (.inr (.inr (.inr h)))
  · exact .inr (.inr (.inr (.inl h)))
theorem DocS.swap {x y : DSp} {k : Nat} (h : DocS Wg Og x y k) : DocS Wg Og y x k := by
  rcases h with h | h | h | h | h
  · exact .inl h
  · exact .inr (.inr (.inl h))
  · exact .inr (.inl h)
  · exact .inr (.inr (.inr (.inr h)))
  · exact .inr (.inr (.inr (.inl h)))
def Apart9 (B Wb Ob p q G Wg Og : Nat) : Prop := ∀ k, Five B Wb Ob p q k → k ≠ G ∧ k ≠ Wg ∧ k ≠ Og
theorem row_type {x : PSp} (h : x.at_ w B bd) {k : Nat} {ys : Array Value} {t : TypeId} {f : Nat × Nat} (hk : w.heap[k]? = some (.cells ys t f)) (h1 : t ≠ 91) (h2 : t ≠ 93) : k ≠ x.P ∧ x.v.ownBlock ≠ some k :=
  ⟨type_ne hk h.head h1, wrow_type h.row hk (fun e => h2 e.symm)⟩
theorem drow_type {x : DSp} (h : x.at_ w G bd) {k : Nat} {ys : Array Value} {t : TypeId} {f : Nat × Nat} (hk : w.heap[k]? = some (.cells ys t f)) (h1 : t ≠ 115) (h2 : t ≠ 120) : k ≠ x.D ∧ x.u.ownBlock ≠ some k :=
  ⟨type_ne hk h.head h1, own_type h.row hk (fun e => h2 e.symm)⟩
/-- The row of a slice, where it is one. -/
theorem rowW_blk {base : Nat} {e : TypeId} {s n : Nat} {v : Value} {xs : List Value} (h : rowW w base e s v n xs) {k : Nat} (hk : v.ownBlock = some k) : ∃ cur, w.heap[k]? = some (.cells cur e (0, 0)) := by
  rcases h.2 with ⟨h2, _⟩ | ⟨g, cap, cur, hv, hg, hh, r⟩
  · rw [h2] at hk; cases hk
  · rw [hv] at hk
    obtain rfl : g = k := by injection hk
    exact ⟨cur, hh⟩
/-- Behind the document's call the program's spaces are as they were. -/
theorem PS.other {x y : PSp} {z t : DSp} (h : PS w bd B Wb Ob p q W size own x y) (hd : DS w bd G Wg Og W' size own' z t) (ha : Apart9 B Wb Ob p q G Wg Og) (hm : Mod (DocS Wg Og z t) w w') : PS w' bd B Wb Ob p q W size own x y := by
  obtain ⟨u, hu⟩ := h.st.map
  have hz : ∀ {k : Nat} {ys : Array Value} {ty : TypeId} {f : Nat × Nat}, w.heap[k]? = some (.cells ys ty f) → ty ≠ 115 → ty ≠ 120 → k ≠ Wg → k ≠ Og → ¬ DocS Wg Og z t k := fun hk h1 h2 h3 h4 => by
    have g1 := drow_type hd.s0 hk h1 h2
    have g2 := drow_type hd.s1 hk h1 h2
    rintro ((e | e) | e | e | e | e)
    · exact h3 e
    · exact h4 e
    · exact g1.1 e
    · exact g2.1 e
    · exact g1.2 e
    · exact g2.2 e
  have hP : ∀ {s : PSp}, s.at_ w B bd → s.at_ w' B bd := fun hs => hs.mod hm (hz hs.head (by decide) (by decide) (type_ne hs.head hd.rf.body (by decide)) (type_ne hs.head hd.rf.owners (by decide))) (fun k hk => by
    obtain ⟨cur, hc⟩ := rowW_blk hs.row hk
    exact hz hc (by decide) (by decide) (type_ne hc hd.rf.body (by decide)) (type_ne hc hd.rf.owners (by decide)))
  refine ⟨h.st.mod hm (fun k hk => ?_), hP h.s0, hP h.s1, h.ne, h.far⟩
  have g := ha k hk
  rcases hk with rfl | rfl | rfl | rfl | rfl
  · exact hz h.st.head (by decide) (by decide) g.2.1 g.2.2
  · exact hz h.st.body (by decide) (by decide) g.2.1 g.2.2
  · exact hz h.st.owners (by decide) (by decide) g.2.1 g.2.2
  · exact hz hu.head (by decide) (by decide) g.2.1 g.2.2
  · exact hz hu.body (by decide) (by decide) g.2.1 g.2.2
theorem DS.other {x y : PSp} {z t : DSp} (hd : DS w bd G Wg Og W size own z t) (h : PS w bd B Wb Ob p q W' size own' x y) (ha : Apart9 B Wb Ob p q G Wg Og) (hm : Mod (ProgS Wb Ob p q x y) w w') : DS w' bd G Wg Og W size own z t := by
  have hz : ∀ {k : Nat} {ys : Array Value} {ty : TypeId} {f : Nat × Nat}, w.heap[k]? = some (.cells ys ty f) → ty ≠ 91 → ty ≠ 93 → (∀ j, Four3 Wb Ob p q j → j ≠ k) → ¬ ProgS Wb Ob p q x y k := fun hk h1 h2 h3 => by
    have g1 := row_type h.s0 hk h1 h2
    have g2 := row_type h.s1 hk h1 h2
    rintro (e | e | e | e | e)
    · exact h3 _ e rfl
    · exact g1.1 e
    · exact g2.1 e
    · exact g1.2 e
    · exact g2.2 e
  obtain ⟨u, hu⟩ := h.st.map
  have h4 : ∀ {k : Nat} {ys : Array Value} {ty : TypeId} {f : Nat × Nat}, w.heap[k]? = some (.cells ys ty f) → ty ≠ 46 → ty ≠ 3 → ty ≠ 122 → ∀ j, Four3 Wb Ob p q j → j ≠ k := fun hk h1 h2 h3 j hj e => by
    subst e
    rcases hj with e | e | e | e
    · exact type_ne hk h.st.body h1 e
    · exact type_ne hk h.st.owners h2 e
    · exact type_ne hk hu.head h3 e
    · exact type_ne hk hu.body h1 e
  have hP : ∀ {s : DSp}, s.at_ w G bd → s.at_ w' G bd := fun hs => hs.mod hm (hz hs.head (by decide) (by decide) (h4 hs.head (by decide) (by decide) (by decide))) (fun k hk => by
    obtain ⟨cur, hc⟩ := rowW_blk (rowW.of_own hs.row) hk
    exact hz hc (by decide) (by decide) (h4 hc (by decide) (by decide) (by decide)))
  exact ⟨hd.rf.mod hm (hz hd.rf.head (by decide) (by decide) (fun j hj => (ha j (.inr hj)).1)) (hz hd.rf.body (by decide) (by decide) (fun j hj => (ha j (.inr hj)).2.1)) (hz hd.rf.owners (by decide) (by decide) (fun j hj => (ha j (.inr hj)).2.2)), hP hd.s0, hP hd.s1, hd.ne, hd.far⟩
/-- A call of the first space alone. -/
theorem PS.one {x y : PSp} {v' : Value} {l' : List (Nat × Nat)} {a' e' : Nat} (h : PS w bd B Wb Ob p q W size own x y) (hx : SpaceAt w' x.P B bd x.ow v' l' a' e') (hs : StoreAt w' B Wb Ob p q W' size own') (hm : Mod (AllocS Wb Ob p q x.P x.v) w w') (hv : ∀ k, v'.ownBlock = some k → x.v.ownBlock = some k ∨ w.heap.size ≤ k) :
    PS w' bd B Wb Ob p q W' size own' ⟨x.P, x.ow, v', l', a', e'⟩ y ∧ Mod (ProgS Wb Ob p q x y) w w' := by
  have hf1 := h.s1.far h.st
  refine ⟨⟨hs, hx, h.s1.mod hm ?_ (fun k hk e => ?_), h.ne, fun k hk hk1 => ?_⟩, hm.mono fun k _ e => ?_⟩
  · rintro (e | e | e)
    · exact (hf1 _ (.inr e)).1 rfl
    · exact h.ne e.symm
    · exact wrow_type h.s0.row h.s1.head (by decide) e
  · rcases e with e | e | e
    · exact (hf1 _ (.inr e)).2 hk
    · exact wrow_type h.s1.row h.s0.head (by decide) (hk.trans (by rw [e]))
    · exact h.far k e hk
  · rcases hv k hk with g | g
    · exact h.far k g hk1
    · have := (h.s1.row.lt k hk1).2; omega
  · rcases e with e | e | e
    · exact .inl e
    · exact .inr (.inl e)
    · exact .inr (.inr (.inr (.inl e)))
theorem DS.one {x y : DSp} {u' : Value} {l' : List (Nat × Nat)} {pr' : Int} {f' : Nat} (h : DS w bd G Wg Og W size own x y) (hx : DocAt w' x.D G bd x.ow u' l' pr' f') (hs : RefSt w' G Wg Og W' size own') (hm : Mod (DHandS Wg Og x.D x.D x.u) w w') (hv : ∀ k, u'.ownBlock = some k → x.u.ownBlock = some k ∨ w.heap.size ≤ k) :
    DS w' bd G Wg Og W' size own' ⟨x.D, x.ow, u', l', pr', f'⟩ y ∧ Mod (DocS Wg Og x y) w w' := by
  have hf1 := h.s1.far h.rf
  refine ⟨⟨hs, hx, h.s1.mod hm ?_ (fun k hk e => ?_), h.ne, fun k hk hk1 => ?_⟩, hm.mono fun k _ e => ?_⟩
  · rintro (e | e | e | e)
    · exact (hf1 _ (.inr e)).1 rfl
    · exact h.ne e.symm
    · exact h.ne e.symm
    · exact own_type h.s0.row h.s1.head (by decide) e
  · rcases e with e | e | e | e
    · exact (hf1 _ (.inr e)).2 hk
    · exact own_type h.s1.row h.s0.head (by decide) (hk.trans (by rw [e]))
    · exact own_type h.s1.row h.s0.head (by decide) (hk.trans (by rw [e]))
    · exact h.far k e hk
  · rcases hv k hk with g | g
    · exact h.far k g hk1
    · have := (h.s1.row.lt k hk1).2; omega
  · rcases e with e | e | e | e
    · exact .inl e
    · exact .inr (.inl e)
    · exact .inr (.inl e)
    · exact .inr (.inr (.inr (.inl e)))
/-- A program's space and the document's say the same. -/
structure Joint (size : Nat) (own : List Int) (x : PSp) (z : DSp) : Prop where
  l : x.l = z.l
  ow : x.ow = z.ow
  pres : (z.pr = -1 ∧ z.f = 0 ∧ x.a = 0 ∧ x.e = 0) ∨ ∃ c : Nat, z.pr = c ∧ z.f ≤ size ∧ x.a = c * size + z.f ∧ x.e = (c + 1) * size ∧ (c, 1) ∈ x.l
  inv : SpInv own x.ow x.l
theorem Joint.dp {x : PSp} {z : DSp} (h : Joint size own x z) : DPres z.pr z.f z.l := by
  rcases h.pres with ⟨h1, h2, _⟩ | ⟨c, h1, h2, h3, h4, h5⟩
  · exact .inl ⟨h1, h2⟩
  · exact .inr ⟨c, h1, h.l ▸ h5⟩
theorem Joint.pp {x : PSp} {z : DSp} (h : Joint size own x z) : PPres size x.a x.e x.l := by
  rcases h.pres with ⟨_, _, h1, h2⟩ | ⟨c, h1, h2, h3, h4, h5⟩
  · exact .inl ⟨h1, h2⟩
  · exact .inr ⟨c, h4, h5⟩
theorem Joint.room {x : PSp} {z : DSp} (h : Joint size own x z) (hd : z.at_ w G bd) (hr : RefSt w G Wg Og W size own) : Calls Tryd.prog 51 #[.pointer (some ⟨z.D, 0, none⟩)] w fun e w' => e = .returned (.int .i64 (x.e - x.a : Nat)) ∧ Below w.heap.size w w' := by
  rcases h.pres with ⟨h1, h2, h3, h4⟩ | ⟨c, h1, h2, h3, h4, h5⟩
  · have hd2 : DocAt w z.D G bd z.ow z.u z.l (-1) z.f := by rw [← h1]; exact hd
    rw [h3, h4]
    exact droom_no hd2
  · have h6 := droom_in hd hr (by rw [h1]; omega) h2
    have e : x.e - x.a = size - z.f := by rw [h3, h4, Nat.succ_mul]; omega
    rw [e]; exact h6
end
section
open Go Go.RowKit
set_option linter.unusedVariables false
set_option linter.unusedSimpArgs false
variable {w w' : World} {B Wb Ob p q G Wg Og size bd : Nat} {W W' own own' : List Int} {x y : PSp} {z t : DSp}
abbrev PSp.to (x : PSp) (v : Value) : PSp := ⟨x.P, x.ow, v, x.l, x.a, x.e⟩
abbrev DSp.to (x : DSp) (u : Value) : DSp := ⟨x.D, x.ow, u, x.l, x.pr, x.f⟩
def PCall (f : Nat) (args : Array Value) (bd B Wb Ob p q : Nat) (W : List Int) (size : Nat) (own : List Int) (x y : PSp) (res : Value) (W' own' : List Int) (x' y' : PSp) : Prop :=
  ∀ Y, PS Y bd B Wb Ob p q W size own x y → Tab Y → bd ≤ Y.heap.size → Calls Tryd.prog f args Y fun e Y' => e = .returned res ∧ (∃ v1 v2, PS Y' bd B Wb Ob p q W' size own' (x'.to v1) (y'.to v2)) ∧ Mod (ProgS Wb Ob p q x y) Y Y'
def DCall (f : Nat) (args : Array Value) (bd G Wg Og : Nat) (W : List Int) (size : Nat) (own : List Int) (x y : DSp) (res : Value) (W' own' : List Int) (x' y' : DSp) : Prop :=
  ∀ Y, DS Y bd G Wg Og W size own x y → bd ≤ Y.heap.size → Calls Tryd.prog f args Y fun e Y' => e = .returned res ∧ (∃ v1 v2, DS Y' bd G Wg Og W' size own' (x'.to v1) (y'.to v2)) ∧ Mod (DocS Wg Og x y) Y Y'
structure Both (size : Nat) (own own' : List Int) (x y x' y' : PSp) (z t z' t' : DSp) : Prop where
  j0 : Joint size own' x' z'
  j1 : Joint size own' y' t'
  len : own'.length = own.length
  e1 : x'.P = x.P
  e2 : y'.P = y.P
  e3 : z'.D = z.D
  e4 : t'.D = t.D
  e5 : x'.ow = x.ow
  e6 : y'.ow = y.ow
structure Pre9 (size : Nat) (own : List Int) (x y : PSp) (z t : DSp) : Prop where
  j0 : Joint size own x z
  j1 : Joint size own y t
  ne : x.ow ≠ y.ow
  o0 : 1 ≤ x.ow
  o1 : 1 ≤ y.ow
  ol : own.length ≤ 1024
  s1 : 1 ≤ size
  s2 : size ≤ 1024
theorem Pre9.refl (h : Pre9 size own x y z t) : Both size own own x y x y z t z t := ⟨h.j0, h.j1, rfl, rfl, rfl, rfl, rfl, rfl, rfl⟩
theorem Pre9.len (h : Pre9 size own x y z t) : x.l.length ≤ 1000 + 24 := Nat.le_trans h.j0.inv.len h.ol
theorem Pre9.len1 (h : Pre9 size own x y z t) : y.l.length ≤ 1000 + 24 := Nat.le_trans h.j1.inv.len h.ol
theorem mem_ne_cut {l : List (Nat × Nat)} {j : Nat} (hj : j < l.length) {c : Nat × Nat} (hc : c ∈ l) (hne : c ≠ l.getD j (0, 0)) : c ∈ l.take j ++ l.drop (j + 1) := by
  rw [split_at j hj] at hc
  rcases List.mem_append.1 hc with g | g
  · exact List.mem_append.2 (.inl g)
  · rcases List.mem_cons.1 g with g | g
    · exact absurd g hne
    · exact List.mem_append.2 (.inr g)
theorem alloc_tw (h : Pre9 size own x y z t) (bd B Wb Ob p q G Wg Og : Nat) (W : List Int) (n : Int) (hn : n ≤ 100000) : ∃ r1 r2 W' own' x' z', PCall 18 #[.pointer (some ⟨x.P, 0, none⟩), .int .i64 n] bd B Wb Ob p q W size own x y (.tuple #[.int .i64 r1, .int .i64 r2]) W' own' x' y ∧
    DCall 72 #[.pointer (some ⟨z.D, 0, none⟩), .int .i64 n] bd G Wg Og W size own z t (.tuple #[.int .i64 r1, .int .i64 r2]) W' own' z' t ∧ Both size own own' x y x' y z t z' t := by
  by_cases h1 : n < 1
  · exact ⟨0, 2, W, own, x, z, fun Y hP hT hb => (alloc_few x.P n Y h1).mono fun e Y' ⟨he, hw⟩ => ⟨he, ⟨x.v, y.v, hw ▸ hP⟩, hw ▸ Mod.refl _ _⟩, fun Y hD hb => (dalloc_few z.D n Y h1).mono fun e Y' ⟨he, hw⟩ => ⟨he, ⟨z.u, t.u, hw ▸ hD⟩, hw ▸ Mod.refl _ _⟩, h.refl⟩
  · obtain ⟨m, rfl⟩ : ∃ m : Nat, n = m := ⟨n.toNat, by omega⟩
    have hpl := h.len
    by_cases hr : m ≤ x.e - x.a
    · rcases h.j0.pres with ⟨_, _, g3, g4⟩ | ⟨c, g1, g2, g3, g4, g5⟩
      · omega
      · have hsz : x.e - x.a = size - z.f := by rw [g3, g4, Nat.succ_mul]; omega
        refine ⟨(x.a : Nat), 0, W, own, ⟨x.P, x.ow, x.v, x.l, x.a + m, x.e⟩, ⟨z.D, z.ow, z.u, z.l, z.pr, z.f + m⟩, fun Y hP hT hb => (alloc_room hP.s0 m (by omega) hr).mono fun e Y' ⟨he, hx, hm⟩ => ?_, fun Y hD hb => ?_, ⟨⟨h.j0.l, h.j0.ow, .inr ⟨c, g1, ?_, ?_, g4, g5⟩, h.j0.inv⟩, h.j1, rfl, rfl, rfl, rfl, rfl, rfl, rfl⟩⟩
        · obtain ⟨a1, a2⟩ := hP.one hx (hP.st.mod hm (fun k hk e => ((hP.s0.far hP.st) k hk).1 e)) (hm.mono fun k _ e => .inr (.inl e)) (fun k hk => .inl hk)
          exact ⟨he, ⟨_, _, a1⟩, a2⟩
        · have hd : DocAt Y z.D G bd z.ow z.u z.l (c : Int) z.f := by rw [← g1]; exact hD.s0
          refine (dalloc_room c hd hD.rf m (by omega) (by omega) g2).mono fun e Y' ⟨he, hx, hm⟩ => ?_
          rw [← g1] at hx
          obtain ⟨a1, a2⟩ := hD.one hx (hD.rf.mod hm (fun e => ((hD.s0.far hD.rf) _ (.inl rfl)).1 e) (fun e => ((hD.s0.far hD.rf) _ (.inr (.inl rfl))).1 e) (fun e => ((hD.s0.far hD.rf) _ (.inr (.inr rfl))).1 e)) (hm.mono fun k _ e => .inr (.inl e)) (fun k hk => .inl hk)
          exact ⟨by rw [he, g3], ⟨_, _, a1⟩, a2⟩
        · show z.f + m ≤ size; omega
        · show x.a + m = c * size + (z.f + m); omega
    · rcases hrun : runAtO own (need size m) with ⟨a, b⟩
      rcases run_at hrun with ⟨rfl, h2, h3⟩ | ⟨rfl, rfl⟩
      · obtain ⟨k, hk⟩ : ∃ k, k = need size m := ⟨_, rfl⟩
        have hk1 : 1 ≤ k := by rw [hk]; exact Nat.le_add_left 1 _
        have hks : k = 1 → m ≤ size := fun e => by
          rw [hk] at e; unfold need at e
          have h0 : (m - 1) / size = 0 := by omega
          have := (Nat.div_eq_zero_iff).1 h0
          have := h.s1
          omega
        refine ⟨(a * size : Nat), 0, zeroW W (a * size) (need size m * size), fillO own a x.ow (need size m), ⟨x.P, x.ow, x.v, x.l ++ [(a, k)], if k = 1 then a * size + m else x.a, if k = 1 then (a + 1) * size else x.e⟩, ⟨z.D, z.ow, z.u, z.l ++ [(a, k)], if k = 1 then (a : Int) else z.pr, if k = 1 then m else z.f⟩, fun Y hP hT hb => ?_, fun Y hD hb => ?_, ?_⟩
        · refine (alloc_in hP.s0 hP.st hT m a (by omega) (by omega) hr hrun (by omega) hb).mono fun e Y' ⟨he, v', hx, hs, hm, hv⟩ => ?_
          obtain ⟨a1, a2⟩ := hP.one hx hs hm hv
          rw [← hk] at a1 ⊢
          exact ⟨he, ⟨v', y.v, a1⟩, a2⟩
        · have hzl : z.l.length ≤ 1000000 := by rw [← h.j0.l]; omega
          refine (dalloc_in hD.s0 hD.rf (h.j0.ow ▸ h.o0) m (x.e - x.a) a hzl hb (by omega) (by omega) (h.j0.room hD.s0 hD.rf) (by omega) hrun).mono fun e Y' ⟨he, v', hx, hs, hm, hv⟩ => ?_
          obtain ⟨a1, a2⟩ := hD.one hx hs hm hv
          rw [← hk] at a1 ⊢
          rw [h.j0.ow]
          exact ⟨he, ⟨v', t.u, a1⟩, a2⟩
        · have hfree : ∀ c, a ≤ c → c < a + k → own.getD c 0 = 0 := fun c c1 c2 => h3 c c1 (by omega)
          rw [← hk]
          refine ⟨⟨by show x.l ++ _ = z.l ++ _; rw [h.j0.l], h.j0.ow, ?_, h.j0.inv.push hk1 (fun c c1 c2 hc => ?_) (by omega)⟩, ⟨h.j1.l, h.j1.ow, h.j1.pres, h.j1.inv.fill (by omega) (fun c c1 c2 => ?_)⟩, fillO_length _ _ _ _, rfl, rfl, rfl, rfl, rfl, rfl⟩
          · by_cases e : k = 1
            · refine .inr ⟨a, ?_, ?_, ?_, ?_, ?_⟩
              · show (if k = 1 then (a : Int) else z.pr) = a; rw [if_pos e]
              · show (if k = 1 then m else z.f) ≤ size; rw [if_pos e]; exact hks e
              · show (if k = 1 then a * size + m else x.a) = a * size + (if k = 1 then m else z.f); rw [if_pos e, if_pos e]
              · show (if k = 1 then (a + 1) * size else x.e) = _; rw [if_pos e]
              · show (a, 1) ∈ x.l ++ [(a, k)]; rw [e]; simp
            · show ((if k = 1 then (a : Int) else z.pr) = -1 ∧ (if k = 1 then m else z.f) = 0 ∧ (if k = 1 then a * size + m else x.a) = 0 ∧ (if k = 1 then (a + 1) * size else x.e) = 0) ∨ ∃ c : Nat, (if k = 1 then (a : Int) else z.pr) = c ∧ (if k = 1 then m else z.f) ≤ size ∧ (if k = 1 then a * size + m else x.a) = c * size + (if k = 1 then m else z.f) ∧ (if k = 1 then (a + 1) * size else x.e) = (c + 1) * size ∧ (c, 1) ∈ x.l ++ [(a, k)]
              simp only [if_neg e]
              rcases h.j0.pres with g | ⟨c, g1, g2, g3, g4, g5⟩
              · exact .inl g
              · exact .inr ⟨c, g1, g2, g3, g4, List.mem_append.2 (.inl g5)⟩
          · have h4 := (h.j0.inv.on c hc).2
            rw [hfree c c1 c2] at h4
            have := h.o0; omega
          · rw [hfree c c1 c2]
            have := h.o1; omega
      · refine ⟨0, 11, W, own, x, z, fun Y hP hT hb => (alloc_full hP.s0 hP.st hT m (by omega) (by omega) hr hrun).mono fun e Y' ⟨he, hw⟩ => ⟨he, ⟨x.v, y.v, hP.on hw⟩, .of_below hw⟩, fun Y hD hb => (dalloc_full hD.s0 hD.rf (h.j0.ow ▸ h.o0) m (x.e - x.a) (by omega) (by omega) (h.j0.room hD.s0 hD.rf) (by omega) hrun).mono fun e Y' ⟨he, hw⟩ => ⟨he, ⟨z.u, t.u, hD.on hw⟩, .of_below hw⟩, h.refl⟩
/-- Is there a part that begins with a chunk? -/
theorem part_or (l : List (Nat × Nat)) (f : Int) : (∀ i, i < l.length → ((l.getD i (0, 0)).1 : Int) ≠ f) ∨ ∃ j m n, j < l.length ∧ l.getD j (0, 0) = (m, n) ∧ f = (m : Nat) := by
  by_cases h : ∀ i, i < l.length → ((l.getD i (0, 0)).1 : Int) ≠ f
  · exact .inl h
  · have h2 : ∃ i, i < l.length ∧ ((l.getD i (0, 0)).1 : Int) = f := Classical.byContradiction fun g => h fun i hi e => g ⟨i, hi, e⟩
    obtain ⟨j, hj, e⟩ := h2
    exact .inr ⟨j, _, _, hj, rfl, e.symm⟩
theorem drop_tw (h : Pre9 size own x y z t) (bd B Wb Ob p q G Wg Og : Nat) (W : List Int) (f : Int) : ∃ r own' x' z', PCall 34 #[.pointer (some ⟨x.P, 0, none⟩), .int .i64 f] bd B Wb Ob p q W size own x y (.int .i64 r) W own' x' y ∧
    DCall 75 #[.pointer (some ⟨z.D, 0, none⟩), .int .i64 f] bd G Wg Og W size own z t (.int .i64 r) W own' z' t ∧ Both size own own' x y x' y z t z' t := by
  have hpl := h.len
  have hzl : z.l.length ≤ 1000000 := by rw [← h.j0.l]; omega
  rcases part_or x.l f with hno | ⟨j, m, n, hj, hx, rfl⟩
  · refine ⟨6, own, x, z, fun Y hP hT hb => (drop_no hP.s0 (by omega) f (findI_none hno)).mono fun e Y' ⟨he, hw⟩ => ⟨he, ⟨x.v, y.v, hP.on hw⟩, .of_below hw⟩, fun Y hD hb => ?_, h.refl⟩
    refine (ddrop_no hD.s0 hzl f (h.j0.l ▸ hno) hb).mono fun e Y' ⟨he, ⟨u', hx, hu⟩, hm⟩ => ?_
    obtain ⟨a1, a2⟩ := hD.one hx (hD.rf.mod hm (fun e => ((hD.s0.far hD.rf) _ (.inl rfl)).1 e) (fun e => ((hD.s0.far hD.rf) _ (.inr (.inl rfl))).1 e) (fun e => ((hD.s0.far hD.rf) _ (.inr (.inr rfl))).1 e)) (hm.mono fun k _ e => .inr (.inl e)) (fun k hk => .inr (hu k hk))
    exact ⟨he, ⟨u', t.u, a1⟩, a2⟩
  · have hfst := h.j0.inv.first j hj
    rw [hx] at hfst
    have hmem : (m, n) ∈ x.l := by rw [← hx]; exact getD_mem j hj
    have hn1 : 1 ≤ n := h.j0.inv.n1 _ hmem
    have hfit : m + n ≤ own.length := h.j0.inv.fit _ hmem
    have hown := h.j0.inv.part hmem
    have hne : ∀ c, c < n → own.getD (m + c) 0 ≠ 0 := fun c hc => by rw [hown c hc]; have := h.o0; omega
    have hfi : findI x.l (m : Nat) = j := findI_to hj (by rw [hx]) (fun i hi e => hfst i (by omega) (by omega) (by have e2 : ((x.l.getD i (0, 0)).1 : Int) = (m : Int) := e; exact Int.ofNat.inj e2))
    refine ⟨0, fillO own m 0 n, ⟨x.P, x.ow, x.v, x.l.take j ++ x.l.drop (j + 1), if dropP size x.e m n then 0 else x.a, if dropP size x.e m n then 0 else x.e⟩, ⟨z.D, z.ow, z.u, z.l.take j ++ z.l.drop (j + 1), if dropD z.pr m n then -1 else z.pr, if dropD z.pr m n then 0 else z.f⟩, fun Y hP hT hb => ?_, fun Y hD hb => ?_, ?_⟩
    · refine (drop_any hP.s0 hP.st (by omega) hb j m n hfi hj hx (fun i hi => hfst i (by omega) (by omega)) hne hfit).mono fun e Y' ⟨he, v', hx, hs, hm, hv⟩ => ?_
      obtain ⟨a1, a2⟩ := hP.one hx hs (hm.mono fun k _ e => e.elim .inl (fun e => .inr (.inl e))) hv
      exact ⟨he, ⟨v', y.v, a1⟩, a2⟩
    · refine (ddrop_in hD.s0 hD.rf hzl j m n (h.j0.l ▸ hj) (h.j0.l ▸ hx) hn1 (h.j0.l ▸ hfst) hne hfit hb).mono fun e Y' ⟨he, ⟨u', hx, hu⟩, hs, hm⟩ => ?_
      obtain ⟨a1, a2⟩ := hD.one hx hs (hm.mono fun k _ e => e.elim .inl (fun e => .inr (.inl e))) (fun k hk => .inr (hu k hk))
      exact ⟨he, ⟨u', t.u, a1⟩, a2⟩
    · have hcut := h.j0.inv.cut j hj
      rw [hx] at hcut
      refine ⟨⟨by show x.l.take j ++ _ = z.l.take j ++ _; rw [h.j0.l], h.j0.ow, ?_, hcut.1.keep (fillO_length _ _ _ _) (fun c hc => ?_)⟩, ⟨h.j1.l, h.j1.ow, h.j1.pres, h.j1.inv.fill hfit (fun c c1 c2 => ?_)⟩, fillO_length _ _ _ _, rfl, rfl, rfl, rfl, rfl, rfl⟩
      · show ((if dropD z.pr m n then -1 else z.pr) = -1 ∧ (if dropD z.pr m n then 0 else z.f) = 0 ∧ (if dropP size x.e m n then 0 else x.a) = 0 ∧ (if dropP size x.e m n then 0 else x.e) = 0) ∨ ∃ c : Nat, (if dropD z.pr m n then -1 else z.pr) = c ∧ (if dropD z.pr m n then 0 else z.f) ≤ size ∧ (if dropP size x.e m n then 0 else x.a) = c * size + (if dropD z.pr m n then 0 else z.f) ∧ (if dropP size x.e m n then 0 else x.e) = (c + 1) * size ∧ (c, 1) ∈ x.l.take j ++ x.l.drop (j + 1)
        rcases h.j0.pres with ⟨g1, g2, g3, g4⟩ | ⟨c, g1, g2, g3, g4, g5⟩
        · have d1 : dropD z.pr m n = false := by rw [g1]; unfold dropD; rw [decide_eq_false (show ¬ ((m : Nat) : Int) = -1 by omega), Bool.and_false]
          rw [d1, g1, g2, g3, g4]
          refine .inl ⟨rfl, rfl, ?_, ?_⟩ <;> split <;> rfl
        · by_cases hd : n = 1 ∧ c = m
          · obtain ⟨rfl, rfl⟩ := hd
            have d1 : dropD z.pr c 1 = true := by rw [g1]; simp [dropD]
            have d2 : dropP size x.e c 1 = true := dropP_yes g4
            rw [d1, d2]
            exact .inl ⟨rfl, rfl, rfl, rfl⟩
          · have d1 : dropD z.pr m n = false := by
              rw [g1]; unfold dropD
              by_cases e1 : n = 1
              · rw [decide_eq_false (show ¬ ((m : Nat) : Int) = (c : Int) by intro e; exact hd ⟨e1, by omega⟩), Bool.and_false]
              · rw [decide_eq_false e1, Bool.false_and]
            have d2 : dropP size x.e m n = false := by
              rw [g4]; unfold dropP
              by_cases e1 : n = 1
              · rw [decide_eq_false (show ¬ (c + 1) * size = (m + 1) * size from fun e => hd ⟨e1, by have := Nat.eq_of_mul_eq_mul_right (show 0 < size from h.s1) e; omega⟩), Bool.and_false]
              · rw [decide_eq_false e1, Bool.false_and]
            rw [d1, d2]
            refine .inr ⟨c, g1, g2, g3, g4, mem_ne_cut hj g5 (fun e => ?_)⟩
            rw [hx] at e
            injection e with e1 e2
            exact hd ⟨e2.symm, e1⟩
      · rw [fillO_getD _ _ _ _ _ hfit, if_neg (fun g => hcut.2 c (mem_chunkL.2 g) hc)]
        exact (hcut.1.on c hc).2
      · have := hown (c - m) (by omega)
        rw [show m + (c - m) = c by omega] at this
        rw [this]; exact h.ne
theorem clear_tw (h : Pre9 size own x y z t) (bd B Wb Ob p q G Wg Og : Nat) (W : List Int) : ∃ own' x' z', PCall 41 #[.pointer (some ⟨x.P, 0, none⟩)] bd B Wb Ob p q W size own x y (.tuple #[]) W own' x' y ∧
    DCall 76 #[.pointer (some ⟨z.D, 0, none⟩)] bd G Wg Og W size own z t (.tuple #[]) W own' z' t ∧ Both size own own' x y x' y z t z' t ∧ x'.l = [] ∧ x'.a = 0 ∧ x'.e = 0 ∧ own' = giveL own 0 x.l := by
  refine ⟨giveL own 0 x.l, ⟨x.P, x.ow, x.v, [], 0, 0⟩, ⟨z.D, z.ow, z.u, [], -1, 0⟩, fun Y hP hT hb => ?_, fun Y hD hb => ?_, ⟨⟨rfl, h.j0.ow, .inl ⟨rfl, rfl, rfl, rfl⟩, SpInv.nil _ _⟩, ⟨h.j1.l, h.j1.ow, h.j1.pres, h.j1.inv.gives h.j0.inv h.ne⟩, giveL_length _ _ _, rfl, rfl, rfl, rfl, rfl, rfl⟩, rfl, rfl, rfl, rfl⟩
  · refine (clear_any hP.s0 hP.st h.j0.inv h.j0.pp hb).mono fun e Y' ⟨he, ⟨v', hx, hv⟩, hs, hm⟩ => ?_
    obtain ⟨a1, a2⟩ := hP.one hx hs (hm.mono fun k _ e => e.elim .inl (fun e => .inr (.inl e))) hv
    exact ⟨he, ⟨v', y.v, a1⟩, a2⟩
  · refine (dclear_any hD.s0 hD.rf (h.j0.l ▸ h.j0.ow ▸ h.j0.inv) (h.j0.ow ▸ h.o0) h.j0.dp hb).mono fun e Y' ⟨he, ⟨v', hx, hv⟩, hs, hm⟩ => ?_
    rw [← h.j0.l] at hs
    obtain ⟨a1, a2⟩ := hD.one hx hs (hm.mono fun k _ e => e.elim .inl (fun e => .inr (.inl e))) hv
    exact ⟨he, ⟨v', t.u, a1⟩, a2⟩
theorem join_tw (h : Pre9 size own x y z t) (bd B Wb Ob p q G Wg Og : Nat) (W : List Int) : ∃ own' x' y' z' t', PCall 43 #[.pointer (some ⟨x.P, 0, none⟩), .pointer (some ⟨y.P, 0, none⟩)] bd B Wb Ob p q W size own x y (.int .i64 0) W own' x' y' ∧
    DCall 73 #[.pointer (some ⟨z.D, 0, none⟩), .pointer (some ⟨t.D, 0, none⟩)] bd G Wg Og W size own z t (.tuple #[]) W own' z' t' ∧ Both size own own' x y x' y' z t z' t' ∧ x'.l = x.l ++ y.l ∧ y'.l = [] ∧ y'.a = 0 ∧ y'.e = 0 ∧ own' = giveL own x.ow y.l := by
  have hpl := h.len
  have hpl1 := h.len1
  have hne : ∀ c ∈ y.l, ∀ k, k < c.2 → own.getD (c.1 + k) 0 ≠ 0 := fun c hc k hk => by rw [h.j1.inv.part (m := c.1) (n := c.2) hc k hk]; have := h.o1; omega
  have hfit := h.j1.inv.fit
  refine ⟨giveL own x.ow y.l, ⟨x.P, x.ow, x.v, x.l ++ y.l, pjN y.e y.a x.a, pjN y.e y.e x.e⟩, ⟨y.P, y.ow, .slice none 0 0, [], 0, 0⟩, ⟨z.D, z.ow, z.u, z.l ++ t.l, djP t.pr t.pr z.pr, djF t.pr t.f z.f⟩, ⟨t.D, t.ow, .slice none 0 0, [], -1, 0⟩, fun Y hP hT hb => ?_, fun Y hD hb => ?_, ⟨⟨by show x.l ++ _ = z.l ++ _; rw [h.j0.l, h.j1.l], h.j0.ow, ?_, h.j0.inv.join h.j1.inv (fun e => h.ne e.symm)⟩, ⟨rfl, h.j1.ow, .inl ⟨rfl, rfl, rfl, rfl⟩, SpInv.nil _ _⟩, giveL_length _ _ _, rfl, rfl, rfl, rfl, rfl, rfl⟩, rfl, rfl, rfl, rfl, rfl⟩
  · refine (join_in hP.s0 hP.s1 hP.st hP.ne hP.far (by omega) hb hne hfit).mono fun e Y' ⟨he, ⟨v', hx⟩, hy, hs, hm⟩ => ?_
    refine ⟨he, ⟨v', .slice none 0 0, ⟨hs, hx, hy, hP.ne, fun k _ e => by cases e⟩⟩, hm.mono fun k _ e => ?_⟩
    rcases e with (e | e | e) | e
    · exact .inl e
    · exact .inr (.inl e)
    · exact .inr (.inr (.inr (.inl e)))
    · exact .inr (.inr (.inl e))
  · have hl0 := h.j0.l
    have hl1 := h.j1.l
    rw [hl0] at hpl
    rw [hl1] at hpl1 hne hfit
    refine (djoin_in hD.s0 hD.s1 hD.rf hD.ne (h.j0.ow ▸ h.o0) (by omega) (by omega) hne hfit hb).mono fun e Y' ⟨he, ⟨v', hx⟩, hy, hs, hm⟩ => ?_
    rw [← hl1, ← h.j0.ow] at hs
    refine ⟨he, ⟨v', .slice none 0 0, ⟨hs, hx, hy, hD.ne, fun k _ e => by cases e⟩⟩, hm.mono fun k _ e => ?_⟩
    rcases e with e | e | e | e
    · exact .inl e
    · exact .inr (.inl e)
    · exact .inr (.inr (.inl e))
    · exact .inr (.inr (.inr (.inl e)))
  · show (djP t.pr t.pr z.pr = -1 ∧ djF t.pr t.f z.f = 0 ∧ pjN y.e y.a x.a = 0 ∧ pjN y.e y.e x.e = 0) ∨ ∃ c : Nat, djP t.pr t.pr z.pr = c ∧ djF t.pr t.f z.f ≤ size ∧ pjN y.e y.a x.a = c * size + djF t.pr t.f z.f ∧ pjN y.e y.e x.e = (c + 1) * size ∧ (c, 1) ∈ x.l ++ y.l
    rcases h.j1.pres with ⟨g1, g2, g3, g4⟩ | ⟨c, g1, g2, g3, g4, g5⟩
    · have a1 : djP t.pr t.pr z.pr = z.pr := if_neg (by omega)
      have a2 : djF t.pr t.f z.f = z.f := if_neg (by omega)
      have a3 : pjN y.e y.a x.a = x.a := if_neg (by omega)
      have a4 : pjN y.e y.e x.e = x.e := if_neg (by omega)
      rw [a1, a2, a3, a4]
      rcases h.j0.pres with g | ⟨c, g1, g2, g3, g4, g5⟩
      · exact .inl g
      · exact .inr ⟨c, g1, g2, g3, g4, List.mem_append.2 (.inl g5)⟩
    · have hpos : 0 < y.e := by rw [g4]; exact Nat.mul_pos (by omega) h.s1
      have a1 : djP t.pr t.pr z.pr = t.pr := if_pos (by omega)
      have a2 : djF t.pr t.f z.f = t.f := if_pos (by omega)
      have a3 : pjN y.e y.a x.a = y.a := if_pos hpos
      have a4 : pjN y.e y.e x.e = y.e := if_pos hpos
      rw [a1, a2, a3, a4]
      exact .inr ⟨c, g1, g2, g3, g4, List.mem_append.2 (.inr g5)⟩
theorem hand_tw (h : Pre9 size own x y z t) (bd B Wb Ob p q G Wg Og : Nat) (W : List Int) (f : Int) : ∃ r own' x' y' z' t', PCall 44 #[.pointer (some ⟨x.P, 0, none⟩), .pointer (some ⟨y.P, 0, none⟩), .int .i64 f] bd B Wb Ob p q W size own x y (.int .i64 r) W own' x' y' ∧
    DCall 74 #[.pointer (some ⟨z.D, 0, none⟩), .pointer (some ⟨t.D, 0, none⟩), .int .i64 f] bd G Wg Og W size own z t (.int .i64 r) W own' z' t' ∧ Both size own own' x y x' y' z t z' t' := by
  have hpl := h.len
  have hpl1 := h.len1
  have hzl : z.l.length ≤ 1000000 := by rw [← h.j0.l]; omega
  have htl : t.l.length ≤ 1000000 := by rw [← h.j1.l]; omega
  have hbad : (findI x.l f < x.l.length → (x.l.getD (findI x.l f) (0, 0)).2 = 1) → (∀ i, i < x.l.length → ((x.l.getD i (0, 0)).1 : Int) = f → (x.l.getD i (0, 0)).2 ≤ 1) → ∃ r own' x' y' z' t', PCall 44 #[.pointer (some ⟨x.P, 0, none⟩), .pointer (some ⟨y.P, 0, none⟩), .int .i64 f] bd B Wb Ob p q W size own x y (.int .i64 r) W own' x' y' ∧
      DCall 74 #[.pointer (some ⟨z.D, 0, none⟩), .pointer (some ⟨t.D, 0, none⟩), .int .i64 f] bd G Wg Og W size own z t (.int .i64 r) W own' z' t' ∧ Both size own own' x y x' y' z t z' t' := fun h1 h2 => by
    refine ⟨6, own, x, y, z, t, fun Y hP hT hb => (hand_no hP.s0 hP.s1 hP.ne (by omega) f h1).mono fun e Y' ⟨he, hw⟩ => ⟨he, ⟨x.v, y.v, hP.on hw⟩, .of_below hw⟩, fun Y hD hb => ?_, h.refl⟩
    refine (dhand_no hD.s0 hzl t.D f (h.j0.l ▸ h2) hb).mono fun e Y' ⟨he, ⟨u', hx, hu⟩, hm⟩ => ?_
    obtain ⟨a1, a2⟩ := hD.one hx (hD.rf.mod hm (fun e => ((hD.s0.far hD.rf) _ (.inl rfl)).1 e) (fun e => ((hD.s0.far hD.rf) _ (.inr (.inl rfl))).1 e) (fun e => ((hD.s0.far hD.rf) _ (.inr (.inr rfl))).1 e)) (hm.mono fun k _ e => .inr (.inl e)) (fun k hk => .inr (hu k hk))
    exact ⟨he, ⟨u', t.u, a1⟩, a2⟩
  rcases part_or x.l f with hno | ⟨j, m, n, hj, hx, rfl⟩
  · exact hbad (fun e => by rw [findI_none hno] at e; omega) (fun i hi e => absurd e (hno i hi))
  · have hfst := h.j0.inv.first j hj
    rw [hx] at hfst
    have hmem : (m, n) ∈ x.l := by rw [← hx]; exact getD_mem j hj
    have hn1 : 1 ≤ n := h.j0.inv.n1 _ hmem
    have hfi : findI x.l (m : Nat) = j := findI_to hj (by rw [hx]) (fun i hi e => hfst i (by omega) (by omega) (by have e2 : ((x.l.getD i (0, 0)).1 : Int) = (m : Int) := e; exact Int.ofNat.inj e2))
    by_cases hn : n = 1
    · refine hbad (fun _ => by rw [hfi, hx]; exact hn) (fun i hi e => ?_)
      by_cases hij : i = j
      · subst hij; rw [hx]; exact Nat.le_of_eq hn
      · exact absurd (Int.ofNat.inj e) (hfst i hi hij)
    · clear hbad
      have hfit : m + n ≤ own.length := h.j0.inv.fit _ hmem
      have hown := h.j0.inv.part hmem
      have hne : ∀ c, c < n → own.getD (m + c) 0 ≠ 0 := fun c hc => by rw [hown c hc]; have := h.o0; omega
      have hcut := h.j0.inv.cut j hj
      rw [hx] at hcut
      refine ⟨0, fillO own m y.ow n, ⟨x.P, x.ow, x.v, x.l.take j ++ x.l.drop (j + 1), x.a, x.e⟩, ⟨y.P, y.ow, y.v, y.l ++ [(m, n)], y.a, y.e⟩, ⟨z.D, z.ow, z.u, z.l.take j ++ z.l.drop (j + 1), z.pr, z.f⟩, ⟨t.D, t.ow, t.u, t.l ++ [(m, n)], t.pr, t.f⟩, fun Y hP hT hb => ?_, fun Y hD hb => ?_, ⟨⟨by show x.l.take j ++ _ = z.l.take j ++ _; rw [h.j0.l], h.j0.ow, ?_, hcut.1.keep (fillO_length _ _ _ _) (fun c hc => ?_)⟩, ⟨by show y.l ++ _ = t.l ++ _; rw [h.j1.l], h.j1.ow, ?_, h.j1.inv.push hn1 (fun c c1 c2 hc => ?_) hfit⟩, fillO_length _ _ _ _, rfl, rfl, rfl, rfl, rfl, rfl⟩⟩
      · refine (hand_in hP.s0 hP.s1 hP.st hP.ne hP.far (by omega) (by omega) hb j m n hfi hj hx (fun i hi => hfst i (by omega) (by omega)) (by omega) hne hfit).mono fun e Y' ⟨he, ⟨v', v2', h1, h2, h3⟩, hs, hm⟩ => ?_
        refine ⟨he, ⟨v', v2', ⟨hs, h1, h2, hP.ne, h3⟩⟩, hm.mono fun k _ e => ?_⟩
        rcases e with (e | e | e) | e
        · exact .inl e
        · exact .inr (.inr (.inl e))
        · exact .inr (.inr (.inr (.inr e)))
        · exact .inr (.inl e)
      · refine (dhand_in hD.s0 hD.s1 hD.rf hD.ne (h.j1.ow ▸ h.o1) hzl htl j m n (h.j0.l ▸ hj) (h.j0.l ▸ hx) (by omega) (h.j0.l ▸ hfst) hne hfit hb).mono fun e Y' ⟨he, ⟨v', v2', h1, h2, h3⟩, hs, hm⟩ => ?_
        rw [← h.j1.ow] at hs
        refine ⟨he, ⟨v', v2', ⟨hs, h1, h2, hD.ne, h3⟩⟩, hm.mono fun k _ e => ?_⟩
        rcases e with e | e | e | e
        · exact .inl e
        · exact .inr (.inl e)
        · exact .inr (.inr (.inl e))
        · exact .inr (.inr (.inr (.inr e)))
      · rcases h.j0.pres with g | ⟨c, g1, g2, g3, g4, g5⟩
        · exact .inl g
        · refine .inr ⟨c, g1, g2, g3, g4, mem_ne_cut hj g5 (fun e => ?_)⟩
          rw [hx] at e
          injection e with e1 e2
          exact hn e2.symm
      · rw [fillO_getD _ _ _ _ _ hfit, if_neg (fun g => hcut.2 c (mem_chunkL.2 g) hc)]
        exact (hcut.1.on c hc).2
      · rcases h.j1.pres with g | ⟨c, g1, g2, g3, g4, g5⟩
        · exact .inl g
        · exact .inr ⟨c, g1, g2, g3, g4, List.mem_append.2 (.inl g5)⟩
      · have := hown (c - m) (by omega)
        rw [show m + (c - m) = c by omega, (h.j1.inv.on c hc).2] at this
        exact h.ne this.symm
end
section
open Go Go.RowKit
set_option linter.unusedVariables false
set_option linter.unusedSimpArgs false
variable {base w w' : World} {B Wb Ob p q G Wg Og size bd nc P0 P1 D0 D1 : Nat} {W W' own own' : List Int} {x y : PSp} {z t : DSp} {o0 o1 : Int}
def calm9 (u : TypeId) : Bool := calm u && u != 115 && u != 120
/-- The blocks of calm types stay. -/
def Keeps9 (w w' : World) : Prop := (∀ (k : Nat) (ys : Array Value) (u : TypeId), calm9 u = true → w.heap[k]? = some (.cells ys u (0, 0)) → w'.heap[k]? = some (.cells ys u (0, 0))) ∧ w.heap.size ≤ w'.heap.size
theorem Keeps9.of_below (hb : Below w.heap.size w w') : Keeps9 w w' := ⟨fun k ys u _ hk => (hb.block k (block_lt hk)).trans hk, hb.size⟩
theorem Keeps9.trans {w2 : World} (h1 : Keeps9 w w') (h2 : Keeps9 w' w2) : Keeps9 w w2 := ⟨fun k ys u hc hk => h2.1 k ys u hc (h1.1 k ys u hc hk), Nat.le_trans h1.2 h2.2⟩
theorem PS.keeps (h : PS w bd B Wb Ob p q W size own x y) (hm : Mod (ProgS Wb Ob p q x y) w w') : Keeps9 w w' := ⟨fun k ys u hc hk => by
  simp only [calm9, calm, Bool.and_eq_true, bne_iff_ne, ne_eq] at hc
  obtain ⟨⟨⟨⟨⟨⟨h1, h2⟩, h3⟩, h4⟩, h5⟩, h6⟩, h7⟩ := hc
  obtain ⟨m, hm2⟩ := h.st.map
  refine hm.keeps hk ?_
  have g0 := row_type h.s0 hk h4 h5
  have g1 := row_type h.s1 hk h4 h5
  rintro ((e | e | e | e) | e | e | e | e)
  · exact type_ne hk h.st.body h1 e
  · exact type_ne hk h.st.owners h2 e
  · exact type_ne hk hm2.head h3 e
  · exact type_ne hk hm2.body h1 e
  · exact g0.1 e
  · exact g1.1 e
  · exact g0.2 e
  · exact g1.2 e, hm.size⟩
theorem DS.keeps (h : DS w bd G Wg Og W size own z t) (hm : Mod (DocS Wg Og z t) w w') : Keeps9 w w' := ⟨fun k ys u hc hk => by
  simp only [calm9, calm, Bool.and_eq_true, bne_iff_ne, ne_eq] at hc
  obtain ⟨⟨⟨⟨⟨⟨h1, h2⟩, h3⟩, h4⟩, h5⟩, h6⟩, h7⟩ := hc
  refine hm.keeps hk ?_
  have g0 := drow_type h.s0 hk h6 h7
  have g1 := drow_type h.s1 hk h6 h7
  rintro ((e | e) | e | e | e | e)
  · exact type_ne hk h.rf.body h1 e
  · exact type_ne hk h.rf.owners h2 e
  · exact g0.1 e
  · exact g1.1 e
  · exact g0.2 e
  · exact g1.2 e, hm.size⟩
/-- A store and two spaces on it, the program's and the document's, all of the call's own. -/
structure TwS (base w : World) (B Wb Ob p q G Wg Og size nc P0 P1 D0 D1 : Nat) (o0 o1 : Int) (W own : List Int) (x y : PSp) (z t : DSp) : Prop where
  ps : PS w base.heap.size B Wb Ob p q W size own x y
  ds : DS w base.heap.size G Wg Og W size own z t
  pre : Pre9 size own x y z t
  len : own.length = nc
  ap : Apart9 B Wb Ob p q G Wg Og
  bel : Below base.heap.size base w
  e0 : x.P = P0
  e1 : y.P = P1
  e2 : z.D = D0
  e3 : t.D = D1
  w0 : x.ow = o0
  w1 : y.ow = o1
  hi : ∀ k, Five B Wb Ob p q k ∨ k = G ∨ k = Wg ∨ k = Og ∨ k = P0 ∨ k = P1 ∨ k = D0 ∨ k = D1 → base.heap.size ≤ k
def TwX (base w : World) (B Wb Ob p q G Wg Og size nc P0 P1 D0 D1 : Nat) (o0 o1 : Int) : Prop := ∃ W own x y z t, TwS base w B Wb Ob p q G Wg Og size nc P0 P1 D0 D1 o0 o1 W own x y z t
theorem TwS.swap (h : TwS base w B Wb Ob p q G Wg Og size nc P0 P1 D0 D1 o0 o1 W own x y z t) : TwS base w B Wb Ob p q G Wg Og size nc P1 P0 D1 D0 o1 o0 W own y x t z :=
  ⟨h.ps.swap, h.ds.swap, ⟨h.pre.j1, h.pre.j0, fun e => h.pre.ne e.symm, h.pre.o1, h.pre.o0, h.pre.ol, h.pre.s1, h.pre.s2⟩, h.len, h.ap, h.bel, h.e1, h.e0, h.e3, h.e2, h.w1, h.w0, fun k hk => h.hi k (by
    rcases hk with e | e | e | e | e | e | e | e
    · exact .inl e
    · exact .inr (.inl e)
    · exact .inr (.inr (.inl e))
    · exact .inr (.inr (.inr (.inl e)))
    · exact .inr (.inr (.inr (.inr (.inr (.inl e)))))
    · exact .inr (.inr (.inr (.inr (.inl e))))
    · exact .inr (.inr (.inr (.inr (.inr (.inr (.inr e))))))
    · exact .inr (.inr (.inr (.inr (.inr (.inr (.inl e)))))))⟩
theorem TwX.swap (h : TwX base w B Wb Ob p q G Wg Og size nc P0 P1 D0 D1 o0 o1) : TwX base w B Wb Ob p q G Wg Og size nc P1 P0 D1 D0 o1 o0 := by
  obtain ⟨W, own, x, y, z, t, h⟩ := h
  exact ⟨W, own, y, x, t, z, h.swap⟩
theorem TwS.on (h : TwS base w B Wb Ob p q G Wg Og size nc P0 P1 D0 D1 o0 o1 W own x y z t) (hb : Below w.heap.size w w') : TwS base w' B Wb Ob p q G Wg Og size nc P0 P1 D0 D1 o0 o1 W own x y z t := { h with ps := h.ps.on hb, ds := h.ds.on hb, bel := h.bel.on hb }
theorem TwX.on (h : TwX base w B Wb Ob p q G Wg Og size nc P0 P1 D0 D1 o0 o1) (hb : Below w.heap.size w w') : TwX base w' B Wb Ob p q G Wg Og size nc P0 P1 D0 D1 o0 o1 := by
  obtain ⟨W, own, x, y, z, t, h⟩ := h
  exact ⟨W, own, x, y, z, t, h.on hb⟩
theorem TwS.tab (h : TwS base w B Wb Ob p q G Wg Og size nc P0 P1 D0 D1 o0 o1 W own x y z t) (hT : Tab base) (h0 : 0 < base.heap.size) : Tab w := fun j hj => (h.bel.cell (p := ⟨0, j, none⟩) h0).trans (hT j hj)
theorem TwS.phi (h : TwS base w B Wb Ob p q G Wg Og size nc P0 P1 D0 D1 o0 o1 W own x y z t) : ∀ k, ProgS Wb Ob p q x y k → base.heap.size ≤ k := fun k e => by
  rcases e with e | e | e | e | e
  · exact h.hi k (.inl (.inr e))
  · exact h.hi k (.inr (.inr (.inr (.inr (.inl (e.trans h.e0))))))
  · exact h.hi k (.inr (.inr (.inr (.inr (.inr (.inl (e.trans h.e1)))))))
  · exact (h.ps.s0.row.lt k e).1
  · exact (h.ps.s1.row.lt k e).1
theorem TwS.dhi (h : TwS base w B Wb Ob p q G Wg Og size nc P0 P1 D0 D1 o0 o1 W own x y z t) : ∀ k, DocS Wg Og z t k → base.heap.size ≤ k := fun k e => by
  rcases e with (e | e) | e | e | e | e
  · exact h.hi k (.inr (.inr (.inl e)))
  · exact h.hi k (.inr (.inr (.inr (.inl e))))
  · exact h.hi k (.inr (.inr (.inr (.inr (.inr (.inr (.inl (e.trans h.e2))))))))
  · exact h.hi k (.inr (.inr (.inr (.inr (.inr (.inr (.inr (e.trans h.e3))))))))
  · exact (h.ds.s0.row.lt k e).1
  · exact (h.ds.s1.row.lt k e).1
/-- A call of the program's and one of the document's, in this order. -/
theorem TwS.pd {f g : Nat} {a1 a2 : Array Value} {r1 r2 : Value} {x' y' : PSp} {z' t' : DSp} (h : TwS base w B Wb Ob p q G Wg Og size nc P0 P1 D0 D1 o0 o1 W own x y z t) (hT : Tab base) (h0 : 0 < base.heap.size)
    (hp : PCall f a1 base.heap.size B Wb Ob p q W size own x y r1 W' own' x' y') (hd : DCall g a2 base.heap.size G Wg Og W size own z t r2 W' own' z' t') (hb : Both size own own' x y x' y' z t z' t') :
    Calls Tryd.prog f a1 w fun e w1 => e = .returned r1 ∧ Keeps9 w w1 ∧ Below base.heap.size base w1 ∧ ∀ Y, Below w1.heap.size w1 Y → Calls Tryd.prog g a2 Y fun e w2 => e = .returned r2 ∧ Keeps9 w1 w2 ∧ TwX base w2 B Wb Ob p q G Wg Og size nc P0 P1 D0 D1 o0 o1 := by
  refine (hp w h.ps (h.tab hT h0) h.bel.size).mono ?_
  rintro e w1 ⟨rfl, ⟨v1, v2, hps⟩, hm⟩
  have hbl := Mod.below h.bel hm h.phi h.bel.size
  refine ⟨rfl, h.ps.keeps hm, hbl, fun Y hY => ?_⟩
  have hds1 := (h.ds.other h.ps h.ap hm).on hY
  refine (hd Y hds1 (Nat.le_trans hbl.size hY.size)).mono ?_
  rintro e w2 ⟨rfl, ⟨u1, u2, hds⟩, hm2⟩
  have hps2 := (hps.on hY).other hds1 h.ap hm2
  refine ⟨rfl, (Keeps9.of_below hY).trans (hds1.keeps hm2), W', own', x'.to v1, y'.to v2, z'.to u1, t'.to u2, hps2, hds, ⟨⟨hb.j0.l, hb.j0.ow, hb.j0.pres, hb.j0.inv⟩, ⟨hb.j1.l, hb.j1.ow, hb.j1.pres, hb.j1.inv⟩, fun e => h.pre.ne (by rw [← hb.e5, ← hb.e6]; exact e), by show 1 ≤ x'.ow; rw [hb.e5]; exact h.pre.o0, by show 1 ≤ y'.ow; rw [hb.e6]; exact h.pre.o1, by rw [hb.len]; exact h.pre.ol, h.pre.s1, h.pre.s2⟩, hb.len.trans h.len, h.ap, Mod.below (hbl.on hY) hm2 h.dhi (Nat.le_trans hbl.size hY.size), hb.e1.trans h.e0, hb.e2.trans h.e1, hb.e3.trans h.e2, hb.e4.trans h.e3, hb.e5.trans h.w0, hb.e6.trans h.w1, h.hi⟩
/-- A call of the document's and one of the program's, in this order. -/
theorem TwS.dp {f g : Nat} {a1 a2 : Array Value} {r1 r2 : Value} {x' y' : PSp} {z' t' : DSp} (h : TwS base w B Wb Ob p q G Wg Og size nc P0 P1 D0 D1 o0 o1 W own x y z t) (hT : Tab base) (h0 : 0 < base.heap.size)
    (hp : PCall f a1 base.heap.size B Wb Ob p q W size own x y r1 W' own' x' y') (hd : DCall g a2 base.heap.size G Wg Og W size own z t r2 W' own' z' t') (hb : Both size own own' x y x' y' z t z' t') :
    Calls Tryd.prog g a2 w fun e w1 => e = .returned r2 ∧ Keeps9 w w1 ∧ Below base.heap.size base w1 ∧ ∀ Y, Below w1.heap.size w1 Y → Calls Tryd.prog f a1 Y fun e w2 => e = .returned r1 ∧ Keeps9 w1 w2 ∧ TwX base w2 B Wb Ob p q G Wg Og size nc P0 P1 D0 D1 o0 o1 := by
  refine (hd w h.ds h.bel.size).mono ?_
  rintro e w1 ⟨rfl, ⟨u1, u2, hds⟩, hm⟩
  have hbl := Mod.below h.bel hm h.dhi h.bel.size
  refine ⟨rfl, h.ds.keeps hm, hbl, fun Y hY => ?_⟩
  have hps1 := (h.ps.other h.ds h.ap hm).on hY
  have hb2 := hbl.on hY
  have hTY : Tab Y := fun j hj => (hb2.cell (p := ⟨0, j, none⟩) h0).trans (hT j hj)
  refine (hp Y hps1 hTY hb2.size).mono ?_
  rintro e w2 ⟨rfl, ⟨v1, v2, hps⟩, hm2⟩
  have hds2 := (hds.on hY).other hps1 h.ap hm2
  refine ⟨rfl, (Keeps9.of_below hY).trans (hps1.keeps hm2), W', own', x'.to v1, y'.to v2, z'.to u1, t'.to u2, hps, hds2, ⟨⟨hb.j0.l, hb.j0.ow, hb.j0.pres, hb.j0.inv⟩, ⟨hb.j1.l, hb.j1.ow, hb.j1.pres, hb.j1.inv⟩, fun e => h.pre.ne (by rw [← hb.e5, ← hb.e6]; exact e), by show 1 ≤ x'.ow; rw [hb.e5]; exact h.pre.o0, by show 1 ≤ y'.ow; rw [hb.e6]; exact h.pre.o1, by rw [hb.len]; exact h.pre.ol, h.pre.s1, h.pre.s2⟩, hb.len.trans h.len, h.ap, Mod.below hb2 hm2 h.phi hb2.size, hb.e1.trans h.e0, hb.e2.trans h.e1, hb.e3.trans h.e2, hb.e4.trans h.e3, hb.e5.trans h.w0, hb.e6.trans h.w1, h.hi⟩
end
section
open Go Go.RowKit
set_option linter.unusedVariables false
set_option linter.unusedSimpArgs false
variable {base w w' : World} {B Wb Ob p q G Wg Og size bd nc P0 P1 D0 D1 : Nat} {W W' own own' : List Int} {x y : PSp} {z t : DSp} {o0 o1 : Int}
theorem and_one_any (a : Int) : ∃ b : Nat, b < 2 ∧ Go.bits .and .i64 a 1 = (b : Int) := by
  refine ⟨(BitVec.ofInt 64 a).toNat % 2, Nat.mod_lt _ (by decide), ?_⟩
  have h : (BitVec.ofInt 64 a &&& BitVec.ofInt 64 1).toNat = (BitVec.ofInt 64 a).toNat % 2 := by
    rw [BitVec.toNat_and, show (BitVec.ofInt 64 1).toNat = 1 from rfl, Nat.and_one_is_mod]
  show IntKind.i64.wrap (((BitVec.ofInt 64 a &&& BitVec.ofInt 64 1).toNat : Nat) : Int) = _
  rw [h, IntKind.wrap_i64]
  have := Nat.mod_lt (BitVec.ofInt 64 a).toNat (show 0 < 2 by decide)
  omega
/-- Which one an act is of: all that is known of the two behind the choice. -/
theorem pick9 (h : TwX base w B Wb Ob p q G Wg Og size nc P0 P1 D0 D1 o0 o1) (which : Int) : ∃ (b c PX PO DX DO : Nat) (oX oO : Int), b < 2 ∧ c < 2 ∧ Go.bits .and .i64 which 1 = (b : Int) ∧ IntKind.i64.wrap (1 - (b : Int)) = (c : Int) ∧
    TwX base w B Wb Ob p q G Wg Og size nc PX PO DX DO oX oO ∧ (∀ Y, TwX base Y B Wb Ob p q G Wg Og size nc PX PO DX DO oX oO → TwX base Y B Wb Ob p q G Wg Og size nc P0 P1 D0 D1 o0 o1) ∧
    (#[Value.pointer (some ⟨P0, 0, none⟩), .pointer (some ⟨P1, 0, none⟩)][b]? = some (.pointer (some ⟨PX, 0, none⟩)) ∧ #[Value.pointer (some ⟨P0, 0, none⟩), .pointer (some ⟨P1, 0, none⟩)][c]? = some (.pointer (some ⟨PO, 0, none⟩)) ∧
    #[Value.pointer (some ⟨D0, 0, none⟩), .pointer (some ⟨D1, 0, none⟩)][b]? = some (.pointer (some ⟨DX, 0, none⟩)) ∧ #[Value.pointer (some ⟨D0, 0, none⟩), .pointer (some ⟨D1, 0, none⟩)][c]? = some (.pointer (some ⟨DO, 0, none⟩))) := by
  obtain ⟨b, hb, ha⟩ := and_one_any which
  have h2 : b = 0 ∨ b = 1 := by omega
  rcases h2 with rfl | rfl
  · exact ⟨0, 1, P0, P1, D0, D1, o0, o1, hb, by decide, ha, by decide, h, fun Y hY => hY, rfl, rfl, rfl, rfl⟩
  · exact ⟨1, 0, P1, P0, D1, D0, o1, o0, hb, by decide, ha, by decide, h.swap, fun Y hY => hY.swap, rfl, rfl, rfl, rfl⟩
theorem TwX.alloc (h : TwX base w B Wb Ob p q G Wg Og size nc P0 P1 D0 D1 o0 o1) (hT : Tab base) (h0 : 0 < base.heap.size) (n : Int) (hn : n ≤ 100000) : ∃ r1 r2 : Int, Calls Tryd.prog 18 #[.pointer (some ⟨P0, 0, none⟩), .int .i64 n] w fun e w1 => e = .returned (.tuple #[.int .i64 r1, .int .i64 r2]) ∧ Keeps9 w w1 ∧ ∀ Y, Below w1.heap.size w1 Y → Calls Tryd.prog 72 #[.pointer (some ⟨D0, 0, none⟩), .int .i64 n] Y fun e w2 => e = .returned (.tuple #[.int .i64 r1, .int .i64 r2]) ∧ Keeps9 w1 w2 ∧ TwX base w2 B Wb Ob p q G Wg Og size nc P0 P1 D0 D1 o0 o1 := by
  obtain ⟨W, own, x, y, z, t, h⟩ := h
  obtain ⟨r1, r2, W', own', x', z', hp, hd, hb⟩ := alloc_tw h.pre base.heap.size B Wb Ob p q G Wg Og W n hn
  have h1 := h.pd hT h0 hp hd hb
  rw [h.e0, h.e2] at h1
  exact ⟨r1, r2, h1.mono fun e w1 ⟨a1, a2, _, a3⟩ => ⟨a1, a2, a3⟩⟩
theorem TwX.drop (h : TwX base w B Wb Ob p q G Wg Og size nc P0 P1 D0 D1 o0 o1) (hT : Tab base) (h0 : 0 < base.heap.size) (n : Int) : ∃ r1 : Int, Calls Tryd.prog 34 #[.pointer (some ⟨P0, 0, none⟩), .int .i64 n] w fun e w1 => e = .returned (.int .i64 r1) ∧ Keeps9 w w1 ∧ ∀ Y, Below w1.heap.size w1 Y → Calls Tryd.prog 75 #[.pointer (some ⟨D0, 0, none⟩), .int .i64 n] Y fun e w2 => e = .returned (.int .i64 r1) ∧ Keeps9 w1 w2 ∧ TwX base w2 B Wb Ob p q G Wg Og size nc P0 P1 D0 D1 o0 o1 := by
  obtain ⟨W, own, x, y, z, t, h⟩ := h
  obtain ⟨r1, own', x', z', hp, hd, hb⟩ := drop_tw h.pre base.heap.size B Wb Ob p q G Wg Og W n
  have h1 := h.pd hT h0 hp hd hb
  rw [h.e0, h.e2] at h1
  exact ⟨r1, h1.mono fun e w1 ⟨a1, a2, _, a3⟩ => ⟨a1, a2, a3⟩⟩
theorem TwX.hand (h : TwX base w B Wb Ob p q G Wg Og size nc P0 P1 D0 D1 o0 o1) (hT : Tab base) (h0 : 0 < base.heap.size) (n : Int) : ∃ r1 : Int, Calls Tryd.prog 44 #[.pointer (some ⟨P0, 0, none⟩), .pointer (some ⟨P1, 0, none⟩), .int .i64 n] w fun e w1 => e = .returned (.int .i64 r1) ∧ Keeps9 w w1 ∧ ∀ Y, Below w1.heap.size w1 Y → Calls Tryd.prog 74 #[.pointer (some ⟨D0, 0, none⟩), .pointer (some ⟨D1, 0, none⟩), .int .i64 n] Y fun e w2 => e = .returned (.int .i64 r1) ∧ Keeps9 w1 w2 ∧ TwX base w2 B Wb Ob p q G Wg Og size nc P0 P1 D0 D1 o0 o1 := by
  obtain ⟨W, own, x, y, z, t, h⟩ := h
  obtain ⟨r1, own', x', y', z', t', hp, hd, hb⟩ := hand_tw h.pre base.heap.size B Wb Ob p q G Wg Og W n
  have h1 := h.pd hT h0 hp hd hb
  rw [h.e0, h.e1, h.e2, h.e3] at h1
  exact ⟨r1, h1.mono fun e w1 ⟨a1, a2, _, a3⟩ => ⟨a1, a2, a3⟩⟩
theorem TwX.clear (h : TwX base w B Wb Ob p q G Wg Og size nc P0 P1 D0 D1 o0 o1) (hT : Tab base) (h0 : 0 < base.heap.size) : Calls Tryd.prog 41 #[.pointer (some ⟨P0, 0, none⟩)] w fun e w1 => e = .returned (.tuple #[]) ∧ Keeps9 w w1 ∧ ∀ Y, Below w1.heap.size w1 Y → Calls Tryd.prog 76 #[.pointer (some ⟨D0, 0, none⟩)] Y fun e w2 => e = .returned (.tuple #[]) ∧ Keeps9 w1 w2 ∧ TwX base w2 B Wb Ob p q G Wg Og size nc P0 P1 D0 D1 o0 o1 := by
  obtain ⟨W, own, x, y, z, t, h⟩ := h
  obtain ⟨own', x', z', hp, hd, hb, _⟩ := clear_tw h.pre base.heap.size B Wb Ob p q G Wg Og W
  have h1 := h.pd hT h0 hp hd hb
  rw [h.e0, h.e2] at h1
  exact h1.mono fun e w1 ⟨a1, a2, _, a3⟩ => ⟨a1, a2, a3⟩
theorem TwX.join (h : TwX base w B Wb Ob p q G Wg Og size nc P0 P1 D0 D1 o0 o1) (hT : Tab base) (h0 : 0 < base.heap.size) : Calls Tryd.prog 73 #[.pointer (some ⟨D0, 0, none⟩), .pointer (some ⟨D1, 0, none⟩)] w fun e w1 => e = .returned (.tuple #[]) ∧ Keeps9 w w1 ∧ ∀ Y, Below w1.heap.size w1 Y → Calls Tryd.prog 43 #[.pointer (some ⟨P0, 0, none⟩), .pointer (some ⟨P1, 0, none⟩)] Y fun e w2 => e = .returned (.int .i64 0) ∧ Keeps9 w1 w2 ∧ TwX base w2 B Wb Ob p q G Wg Og size nc P0 P1 D0 D1 o0 o1 := by
  obtain ⟨W, own, x, y, z, t, h⟩ := h
  obtain ⟨own', x', y', z', t', hp, hd, hb, _⟩ := join_tw h.pre base.heap.size B Wb Ob p q G Wg Og W
  have h1 := h.dp hT h0 hp hd hb
  rw [h.e0, h.e1, h.e2, h.e3] at h1
  exact h1.mono fun e w1 ⟨a1, a2, _, a3⟩ => ⟨a1, a2, a3⟩
set_option maxRecDepth 100000 in
set_option maxHeartbeats 4000000 in
theorem do9_any (h : TwX base w B Wb Ob p q G Wg Og size nc P0 P1 D0 D1 o0 o1) (hT : Tab base) (h0 : 0 < base.heap.size) (kind which n : Int) (raw : Bool) (hk : kind = 0 → n ≤ 100000) :
    Calls Tryd.prog 48 #[.agg #[.int .i64 kind, .int .i64 which, .int .i64 n, .bool raw], .agg #[.pointer (some ⟨P0, 0, none⟩), .pointer (some ⟨P1, 0, none⟩)], .agg #[.pointer (some ⟨D0, 0, none⟩), .pointer (some ⟨D1, 0, none⟩)]] w fun e w' => e = .returned (.bool true) ∧ TwX base w' B Wb Ob p q G Wg Og size nc P0 P1 D0 D1 o0 o1 ∧ Keeps9 w w' := by
  obtain ⟨b, c, PX, PO, DX, DO, oX, oO, hb2, hc2, hand, hsub, hX, hback, kx, ko, kdx, kdo⟩ := pick9 h which
  have HBACK := Lib.hid hback
  have hba := below1 w (.cells #[.int .i64 kind, .int .i64 which, .int .i64 n, .bool raw] 83)
  have hbb := below1 (w.alloc (.cells #[.int .i64 kind, .int .i64 which, .int .i64 n, .bool raw] 83)) (.cells #[.pointer (some ⟨P0, 0, none⟩), .pointer (some ⟨P1, 0, none⟩)] 25)
  have hbc := below1 ((w.alloc (.cells #[.int .i64 kind, .int .i64 which, .int .i64 n, .bool raw] 83)).alloc (.cells #[.pointer (some ⟨P0, 0, none⟩), .pointer (some ⟨P1, 0, none⟩)] 25)) (.cells #[.pointer (some ⟨D0, 0, none⟩), .pointer (some ⟨D1, 0, none⟩)] 81)
  have ha := heap_alloc_new w (.cells #[.int .i64 kind, .int .i64 which, .int .i64 n, .bool raw] 83)
  have hb := heap_alloc_new (w.alloc (.cells #[.int .i64 kind, .int .i64 which, .int .i64 n, .bool raw] 83)) (.cells #[.pointer (some ⟨P0, 0, none⟩), .pointer (some ⟨P1, 0, none⟩)] 25)
  have hc := heap_alloc_new ((w.alloc (.cells #[.int .i64 kind, .int .i64 which, .int .i64 n, .bool raw] 83)).alloc (.cells #[.pointer (some ⟨P0, 0, none⟩), .pointer (some ⟨P1, 0, none⟩)] 25)) (.cells #[.pointer (some ⟨D0, 0, none⟩), .pointer (some ⟨D1, 0, none⟩)] 81)
  rw [World.size_alloc] at hb
  rw [World.size_alloc, World.size_alloc] at hc
  have ha1 := (hbc.block _ (Nat.lt_of_lt_of_le (block_lt ha) hbb.size)).trans ((hbb.block _ (block_lt ha)).trans ha)
  have hb1 := (hbc.block _ (block_lt hb)).trans hb
  have HW3 := Lib.hid ((hba.on hbb).on hbc)
  have HX3 := Lib.hid (hX.on ((hba.on hbb).on hbc))
  clear h hX hback ha hb hba hbb hbc
  go_enter Tryd.func48, Tryd.ntmps48
  generalize hWW : (((w.alloc (.cells #[.int .i64 kind, .int .i64 which, .int .i64 n, .bool raw] 83)).alloc (.cells #[.pointer (some ⟨P0, 0, none⟩), .pointer (some ⟨P1, 0, none⟩)] 25)).alloc (.cells #[.pointer (some ⟨D0, 0, none⟩), .pointer (some ⟨D1, 0, none⟩)] 81)) = W3 at *
  have k0 := (blk_cells ha1 0).trans rfl
  have k1 := (blk_cells ha1 1).trans rfl
  have k2 := (blk_cells ha1 2).trans rfl
  have k3 := (blk_cells ha1 3).trans rfl
  have px := (blk_cells hb1 b).trans kx
  have po := (blk_cells hb1 c).trans ko
  have dx := (blk_cells hc b).trans kdx
  have dO := (blk_cells hc c).trans kdo
  have HA1 := Lib.hid ha1
  have HCH : Hid (∀ Y, Below W3.heap.size W3 Y → Calls Tryd.prog 50 #[.pointer (some ⟨DX, 0, none⟩)] Y fun e w' => ∃ A L c, e = .returned (.slice A L c) ∧ L ≤ 1024 ∧ (∀ k, k < L → ∃ b o x, A = some ⟨b, o, none⟩ ∧ w'.cell? ⟨b, o + k, none⟩ = some (.int .i64 x)) ∧ Below W3.heap.size W3 w') := Lib.hid (fun Y hY => by
    obtain ⟨W, own, x, y, z, t, hS⟩ := HX3.out
    have hd := (hS.on hY).ds.s0
    have e2 := hS.e2
    have hzl : z.l.length ≤ 1000000 := by have := hS.pre.len; rw [← hS.pre.j0.l]; omega
    have h1 := dchunks_any hd hzl
    rw [e2] at h1
    refine h1.mono ?_
    rintro e w' ⟨A, c, he, hrow, hb⟩
    refine ⟨A, _, c, he, ?_, fun k hk => ?_, hY.on hb⟩
    · rw [← hS.pre.j0.l]; exact Nat.le_trans hS.pre.j0.inv.clen hS.pre.ol
    · obtain ⟨A2, c2, e3, -, hs⟩ := own_slice encN 0 (fun _ => rfl) hrow
      injection e3 with e3 _ _
      obtain ⟨b, o, h1, h2⟩ := hs k hk
      have h3 := h2 0 _ rfl
      rw [Nat.mul_one, Nat.add_zero] at h3
      exact ⟨b, o, _, by rw [e3, h1], h3⟩)
  clear ha1 hb1 hc kx ko kdx kdo
  go_wp2_with fail
  go_quiet (fail)
  go_wp2_with fail
  go_quiet (fail)
  go_wp2_with fail
  refine (HCH.out _ (below_drewN (Below.refl _ _) _)).mono ?_
  rintro e w4 ⟨A4, L4, c4, rfl, hL4, hA4, hb4⟩
  have HB4 := Lib.hid hb4
  have HA4 := Lib.hid hA4
  have ha4 := (hb4.block _ (block_lt HA1.out)).trans HA1.out
  clear k0 k1 k2 k3 px po dx dO hb4 hA4 HCH
  have k0 := (blk_cells ha4 0).trans rfl
  have k1 := (blk_cells ha4 1).trans rfl
  have k2 := (blk_cells ha4 2).trans rfl
  have k3 := (blk_cells ha4 3).trans rfl
  have HA5 := Lib.hid ha4
  clear ha4
  have hcs : (kind = 0) ∨ (kind = 1) ∨ (kind = 2) ∨ (kind = 3) ∨ (kind = 4) ∨ (kind ≠ 0 ∧ kind ≠ 1 ∧ kind ≠ 2 ∧ kind ≠ 3 ∧ kind ≠ 4) := by omega
  rcases hcs with rfl | rfl | rfl | rfl | rfl | ⟨d0, d1, d2, d3, d4⟩
  · rcases raw with _ | _
    all_goals
      obtain ⟨r1, r2, hc⟩ := (HX3.out.on HB4.out).alloc hT h0 n (hk rfl)
      have HC := Lib.hid hc
      clear hc
      go_wp2_with fail
      refine HC.out.mono ?_
      rintro e w5 ⟨rfl, hK5, hN5⟩
      have HK5 := Lib.hid hK5
      have HN5 := Lib.hid hN5
      have a5 := hK5.1 _ _ _ rfl HA5.out
      clear k0 k1 k2 k3 hK5 hN5 HC
      have k0 := (blk_cells a5 0).trans rfl
      have k2 := (blk_cells a5 2).trans rfl
      clear a5
      go_wp2_with fail
      refine (HN5.out _ (Below.refl _ _)).mono ?_
      rintro e w6 ⟨rfl, hK6, hX6⟩
      have HF := Lib.hid (And.intro (HBACK.out _ hX6) ((Keeps9.of_below (HW3.out.on HB4.out)).trans (HK5.out.trans hK6)))
      clear hK6 hX6 HN5
      go_wp2
      go_ret
      exact ⟨rfl, HF.out⟩
  · rcases raw with _ | _
    all_goals
      have hc := (HX3.out.on HB4.out).join hT h0
      have HC := Lib.hid hc
      clear hc
      go_wp2_with fail
      refine HC.out.mono ?_
      rintro e w5 ⟨rfl, hK5, hN5⟩
      have HK5 := Lib.hid hK5
      have HN5 := Lib.hid hN5
      have a5 := hK5.1 _ _ _ rfl HA5.out
      clear k0 k1 k2 k3 hK5 hN5 HC
      have k0 := (blk_cells a5 0).trans rfl
      have k2 := (blk_cells a5 2).trans rfl
      clear a5
      go_wp2_with fail
      refine (HN5.out _ (Below.refl _ _)).mono ?_
      rintro e w6 ⟨rfl, hK6, hX6⟩
      have HF := Lib.hid (And.intro (HBACK.out _ hX6) ((Keeps9.of_below (HW3.out.on HB4.out)).trans (HK5.out.trans hK6)))
      clear hK6 hX6 HN5
      go_wp2
      go_ret
      exact ⟨rfl, HF.out⟩
  · rcases raw with _ | _
    · by_cases hq : 0 < L4
      · have hq2 : (0 : Int) < (L4 : Int) := by omega
        have hq3 : ¬ (L4 : Int) = 0 := by omega
        have hq4 : ¬ L4 = 0 := by omega
        obtain ⟨un, hun⟩ : ∃ un : Nat, IntKind.u64.wrap n = (un : Int) := ⟨(IntKind.u64.wrap n).toNat, by have h9 : IntKind.u64.wrap n = n % 18446744073709551616 := rfl; rw [h9]; have := Int.emod_nonneg n (show (18446744073709551616 : Int) ≠ 0 by decide); omega⟩
        have hul : IntKind.u64.wrap (L4 : Int) = (L4 : Int) := by have h9 : IntKind.u64.wrap (L4 : Int) = (L4 : Int) % 18446744073709551616 := rfl; rw [h9]; omega
        obtain ⟨r, hr⟩ : ∃ r, r = un % L4 := ⟨_, rfl⟩
        have hrl : r < L4 := by rw [hr]; exact Nat.mod_lt _ hq
        have hr1 : (un : Int).tmod (L4 : Int) = (r : Int) := by rw [Int.tmod_eq_emod_of_nonneg (by omega), hr]; simp
        have hr2 : (un : Int) % (L4 : Int) = (r : Int) := by rw [hr]; simp
        have hw1 : IntKind.u64.wrap (r : Int) = (r : Int) := by have h9 : IntKind.u64.wrap (r : Int) = (r : Int) % 18446744073709551616 := rfl; rw [h9]; omega
        have hw2 : IntKind.i64.wrap (r : Int) = (r : Int) := by rw [IntKind.wrap_i64]; omega
        have hri : (r : Int) < (L4 : Int) := by omega
        obtain ⟨b5, o5, x5, rfl, hcell⟩ := HA4.out r hrl
        clear hr
        obtain ⟨r1, hc⟩ := (HX3.out.on HB4.out).hand hT h0 x5
        have HC := Lib.hid hc
        clear hc
        go_wp2_with fail
        refine HC.out.mono ?_
        rintro e w5 ⟨rfl, hK5, hN5⟩
        have HK5 := Lib.hid hK5
        have HN5 := Lib.hid hN5
        have a5 := hK5.1 _ _ _ rfl HA5.out
        clear k0 k1 k2 k3 hK5 hN5 HC
        have k0 := (blk_cells a5 0).trans rfl
        have k2 := (blk_cells a5 2).trans rfl
        clear a5
        go_wp2_with fail
        refine (HN5.out _ (Below.refl _ _)).mono ?_
        rintro e w6 ⟨rfl, hK6, hX6⟩
        have HF := Lib.hid (And.intro (HBACK.out _ hX6) ((Keeps9.of_below (HW3.out.on HB4.out)).trans (HK5.out.trans hK6)))
        clear hK6 hX6 HN5
        go_wp2
        go_ret
        exact ⟨rfl, HF.out⟩
      · obtain rfl : L4 = 0 := by omega
        obtain ⟨r1, hc⟩ := (HX3.out.on HB4.out).hand hT h0 n
        have HC := Lib.hid hc
        clear hc
        go_wp2_with fail
        refine HC.out.mono ?_
        rintro e w5 ⟨rfl, hK5, hN5⟩
        have HK5 := Lib.hid hK5
        have HN5 := Lib.hid hN5
        have a5 := hK5.1 _ _ _ rfl HA5.out
        clear k0 k1 k2 k3 hK5 hN5 HC
        have k0 := (blk_cells a5 0).trans rfl
        have k2 := (blk_cells a5 2).trans rfl
        clear a5
        go_wp2_with fail
        refine (HN5.out _ (Below.refl _ _)).mono ?_
        rintro e w6 ⟨rfl, hK6, hX6⟩
        have HF := Lib.hid (And.intro (HBACK.out _ hX6) ((Keeps9.of_below (HW3.out.on HB4.out)).trans (HK5.out.trans hK6)))
        clear hK6 hX6 HN5
        go_wp2
        go_ret
        exact ⟨rfl, HF.out⟩
    · obtain ⟨r1, hc⟩ := (HX3.out.on HB4.out).hand hT h0 n
      have HC := Lib.hid hc
      clear hc
      go_wp2_with fail
      refine HC.out.mono ?_
      rintro e w5 ⟨rfl, hK5, hN5⟩
      have HK5 := Lib.hid hK5
      have HN5 := Lib.hid hN5
      have a5 := hK5.1 _ _ _ rfl HA5.out
      clear k0 k1 k2 k3 hK5 hN5 HC
      have k0 := (blk_cells a5 0).trans rfl
      have k2 := (blk_cells a5 2).trans rfl
      clear a5
      go_wp2_with fail
      refine (HN5.out _ (Below.refl _ _)).mono ?_
      rintro e w6 ⟨rfl, hK6, hX6⟩
      have HF := Lib.hid (And.intro (HBACK.out _ hX6) ((Keeps9.of_below (HW3.out.on HB4.out)).trans (HK5.out.trans hK6)))
      clear hK6 hX6 HN5
      go_wp2
      go_ret
      exact ⟨rfl, HF.out⟩
  · rcases raw with _ | _
    · by_cases hq : 0 < L4
      · have hq2 : (0 : Int) < (L4 : Int) := by omega
        have hq3 : ¬ (L4 : Int) = 0 := by omega
        have hq4 : ¬ L4 = 0 := by omega
        obtain ⟨un, hun⟩ : ∃ un : Nat, IntKind.u64.wrap n = (un : Int) := ⟨(IntKind.u64.wrap n).toNat, by have h9 : IntKind.u64.wrap n = n % 18446744073709551616 := rfl; rw [h9]; have := Int.emod_nonneg n (show (18446744073709551616 : Int) ≠ 0 by decide); omega⟩
        have hul : IntKind.u64.wrap (L4 : Int) = (L4 : Int) := by have h9 : IntKind.u64.wrap (L4 : Int) = (L4 : Int) % 18446744073709551616 := rfl; rw [h9]; omega
        obtain ⟨r, hr⟩ : ∃ r, r = un % L4 := ⟨_, rfl⟩
        have hrl : r < L4 := by rw [hr]; exact Nat.mod_lt _ hq
        have hr1 : (un : Int).tmod (L4 : Int) = (r : Int) := by rw [Int.tmod_eq_emod_of_nonneg (by omega), hr]; simp
        have hr2 : (un : Int) % (L4 : Int) = (r : Int) := by rw [hr]; simp
        have hw1 : IntKind.u64.wrap (r : Int) = (r : Int) := by have h9 : IntKind.u64.wrap (r : Int) = (r : Int) % 18446744073709551616 := rfl; rw [h9]; omega
        have hw2 : IntKind.i64.wrap (r : Int) = (r : Int) := by rw [IntKind.wrap_i64]; omega
        have hri : (r : Int) < (L4 : Int) := by omega
        obtain ⟨b5, o5, x5, rfl, hcell⟩ := HA4.out r hrl
        clear hr
        obtain ⟨r1, hc⟩ := (HX3.out.on HB4.out).drop hT h0 x5
        have HC := Lib.hid hc
        clear hc
        go_wp2_with fail
        refine HC.out.mono ?_
        rintro e w5 ⟨rfl, hK5, hN5⟩
        have HK5 := Lib.hid hK5
        have HN5 := Lib.hid hN5
        have a5 := hK5.1 _ _ _ rfl HA5.out
        clear k0 k1 k2 k3 hK5 hN5 HC
        have k0 := (blk_cells a5 0).trans rfl
        have k2 := (blk_cells a5 2).trans rfl
        clear a5
        go_wp2_with fail
        refine (HN5.out _ (Below.refl _ _)).mono ?_
        rintro e w6 ⟨rfl, hK6, hX6⟩
        have HF := Lib.hid (And.intro (HBACK.out _ hX6) ((Keeps9.of_below (HW3.out.on HB4.out)).trans (HK5.out.trans hK6)))
        clear hK6 hX6 HN5
        go_wp2
        go_ret
        exact ⟨rfl, HF.out⟩
      · obtain rfl : L4 = 0 := by omega
        obtain ⟨r1, hc⟩ := (HX3.out.on HB4.out).drop hT h0 n
        have HC := Lib.hid hc
        clear hc
        go_wp2_with fail
        refine HC.out.mono ?_
        rintro e w5 ⟨rfl, hK5, hN5⟩
        have HK5 := Lib.hid hK5
        have HN5 := Lib.hid hN5
        have a5 := hK5.1 _ _ _ rfl HA5.out
        clear k0 k1 k2 k3 hK5 hN5 HC
        have k0 := (blk_cells a5 0).trans rfl
        have k2 := (blk_cells a5 2).trans rfl
        clear a5
        go_wp2_with fail
        refine (HN5.out _ (Below.refl _ _)).mono ?_
        rintro e w6 ⟨rfl, hK6, hX6⟩
        have HF := Lib.hid (And.intro (HBACK.out _ hX6) ((Keeps9.of_below (HW3.out.on HB4.out)).trans (HK5.out.trans hK6)))
        clear hK6 hX6 HN5
        go_wp2
        go_ret
        exact ⟨rfl, HF.out⟩
    · obtain ⟨r1, hc⟩ := (HX3.out.on HB4.out).drop hT h0 n
      have HC := Lib.hid hc
      clear hc
      go_wp2_with fail
      refine HC.out.mono ?_
      rintro e w5 ⟨rfl, hK5, hN5⟩
      have HK5 := Lib.hid hK5
      have HN5 := Lib.hid hN5
      have a5 := hK5.1 _ _ _ rfl HA5.out
      clear k0 k1 k2 k3 hK5 hN5 HC
      have k0 := (blk_cells a5 0).trans rfl
      have k2 := (blk_cells a5 2).trans rfl
      clear a5
      go_wp2_with fail
      refine (HN5.out _ (Below.refl _ _)).mono ?_
      rintro e w6 ⟨rfl, hK6, hX6⟩
      have HF := Lib.hid (And.intro (HBACK.out _ hX6) ((Keeps9.of_below (HW3.out.on HB4.out)).trans (HK5.out.trans hK6)))
      clear hK6 hX6 HN5
      go_wp2
      go_ret
      exact ⟨rfl, HF.out⟩
  · rcases raw with _ | _
    · by_cases hq : 0 < L4
      · have hq2 : (0 : Int) < (L4 : Int) := by omega
        have hq3 : ¬ (L4 : Int) = 0 := by omega
        have hq4 : ¬ L4 = 0 := by omega
        obtain ⟨un, hun⟩ : ∃ un : Nat, IntKind.u64.wrap n = (un : Int) := ⟨(IntKind.u64.wrap n).toNat, by have h9 : IntKind.u64.wrap n = n % 18446744073709551616 := rfl; rw [h9]; have := Int.emod_nonneg n (show (18446744073709551616 : Int) ≠ 0 by decide); omega⟩
        have hul : IntKind.u64.wrap (L4 : Int) = (L4 : Int) := by have h9 : IntKind.u64.wrap (L4 : Int) = (L4 : Int) % 18446744073709551616 := rfl; rw [h9]; omega
        obtain ⟨r, hr⟩ : ∃ r, r = un % L4 := ⟨_, rfl⟩
        have hrl : r < L4 := by rw [hr]; exact Nat.mod_lt _ hq
        have hr1 : (un : Int).tmod (L4 : Int) = (r : Int) := by rw [Int.tmod_eq_emod_of_nonneg (by omega), hr]; simp
        have hr2 : (un : Int) % (L4 : Int) = (r : Int) := by rw [hr]; simp
        have hw1 : IntKind.u64.wrap (r : Int) = (r : Int) := by have h9 : IntKind.u64.wrap (r : Int) = (r : Int) % 18446744073709551616 := rfl; rw [h9]; omega
        have hw2 : IntKind.i64.wrap (r : Int) = (r : Int) := by rw [IntKind.wrap_i64]; omega
        have hri : (r : Int) < (L4 : Int) := by omega
        obtain ⟨b5, o5, x5, rfl, hcell⟩ := HA4.out r hrl
        clear hr
        have hc := (HX3.out.on HB4.out).clear hT h0
        have HC := Lib.hid hc
        clear hc
        go_wp2_with fail
        refine HC.out.mono ?_
        rintro e w5 ⟨rfl, hK5, hN5⟩
        have HK5 := Lib.hid hK5
        have HN5 := Lib.hid hN5
        have a5 := hK5.1 _ _ _ rfl HA5.out
        clear k0 k1 k2 k3 hK5 hN5 HC
        have k0 := (blk_cells a5 0).trans rfl
        have k2 := (blk_cells a5 2).trans rfl
        clear a5
        go_wp2_with fail
        refine (HN5.out _ (Below.refl _ _)).mono ?_
        rintro e w6 ⟨rfl, hK6, hX6⟩
        have HF := Lib.hid (And.intro (HBACK.out _ hX6) ((Keeps9.of_below (HW3.out.on HB4.out)).trans (HK5.out.trans hK6)))
        clear hK6 hX6 HN5
        go_wp2
        go_ret
        exact ⟨rfl, HF.out⟩
      · obtain rfl : L4 = 0 := by omega
        have hc := (HX3.out.on HB4.out).clear hT h0
        have HC := Lib.hid hc
        clear hc
        go_wp2_with fail
        refine HC.out.mono ?_
        rintro e w5 ⟨rfl, hK5, hN5⟩
        have HK5 := Lib.hid hK5
        have HN5 := Lib.hid hN5
        have a5 := hK5.1 _ _ _ rfl HA5.out
        clear k0 k1 k2 k3 hK5 hN5 HC
        have k0 := (blk_cells a5 0).trans rfl
        have k2 := (blk_cells a5 2).trans rfl
        clear a5
        go_wp2_with fail
        refine (HN5.out _ (Below.refl _ _)).mono ?_
        rintro e w6 ⟨rfl, hK6, hX6⟩
        have HF := Lib.hid (And.intro (HBACK.out _ hX6) ((Keeps9.of_below (HW3.out.on HB4.out)).trans (HK5.out.trans hK6)))
        clear hK6 hX6 HN5
        go_wp2
        go_ret
        exact ⟨rfl, HF.out⟩
    · have hc := (HX3.out.on HB4.out).clear hT h0
      have HC := Lib.hid hc
      clear hc
      go_wp2_with fail
      refine HC.out.mono ?_
      rintro e w5 ⟨rfl, hK5, hN5⟩
      have HK5 := Lib.hid hK5
      have HN5 := Lib.hid hN5
      have a5 := hK5.1 _ _ _ rfl HA5.out
      clear k0 k1 k2 k3 hK5 hN5 HC
      have k0 := (blk_cells a5 0).trans rfl
      have k2 := (blk_cells a5 2).trans rfl
      clear a5
      go_wp2_with fail
      refine (HN5.out _ (Below.refl _ _)).mono ?_
      rintro e w6 ⟨rfl, hK6, hX6⟩
      have HF := Lib.hid (And.intro (HBACK.out _ hX6) ((Keeps9.of_below (HW3.out.on HB4.out)).trans (HK5.out.trans hK6)))
      clear hK6 hX6 HN5
      go_wp2
      go_ret
      exact ⟨rfl, HF.out⟩
  · have b0 : (kind == 0) = false := by simp [d0]
    have b1 : (kind == 1) = false := by simp [d1]
    have b2 : (kind == 2) = false := by simp [d2]
    have b3 : (kind == 3) = false := by simp [d3]
    have b4 : (kind == 4) = false := by simp [d4]
    clear d0 d1 d2 d3 d4
    rcases raw with _ | _
    · by_cases hk1 : 1 < kind
      · by_cases hq : 0 < L4
        · have hq2 : (0 : Int) < (L4 : Int) := by omega
          have hq3 : ¬ (L4 : Int) = 0 := by omega
          have hq4 : ¬ L4 = 0 := by omega
          obtain ⟨un, hun⟩ : ∃ un : Nat, IntKind.u64.wrap n = (un : Int) := ⟨(IntKind.u64.wrap n).toNat, by have h9 : IntKind.u64.wrap n = n % 18446744073709551616 := rfl; rw [h9]; have := Int.emod_nonneg n (show (18446744073709551616 : Int) ≠ 0 by decide); omega⟩
          have hul : IntKind.u64.wrap (L4 : Int) = (L4 : Int) := by have h9 : IntKind.u64.wrap (L4 : Int) = (L4 : Int) % 18446744073709551616 := rfl; rw [h9]; omega
          obtain ⟨r, hr⟩ : ∃ r, r = un % L4 := ⟨_, rfl⟩
          have hrl : r < L4 := by rw [hr]; exact Nat.mod_lt _ hq
          have hr1 : (un : Int).tmod (L4 : Int) = (r : Int) := by rw [Int.tmod_eq_emod_of_nonneg (by omega), hr]; simp
          have hr2 : (un : Int) % (L4 : Int) = (r : Int) := by rw [hr]; simp
          have hw1 : IntKind.u64.wrap (r : Int) = (r : Int) := by have h9 : IntKind.u64.wrap (r : Int) = (r : Int) % 18446744073709551616 := rfl; rw [h9]; omega
          have hw2 : IntKind.i64.wrap (r : Int) = (r : Int) := by rw [IntKind.wrap_i64]; omega
          have hri : (r : Int) < (L4 : Int) := by omega
          obtain ⟨b5, o5, x5, rfl, hcell⟩ := HA4.out r hrl
          clear hr
          have HF := Lib.hid (And.intro (HBACK.out _ (HX3.out.on HB4.out)) (Keeps9.of_below (HW3.out.on HB4.out)))
          go_wp2
          go_ret
          exact ⟨rfl, HF.out⟩
        · obtain rfl : L4 = 0 := by omega
          have HF := Lib.hid (And.intro (HBACK.out _ (HX3.out.on HB4.out)) (Keeps9.of_below (HW3.out.on HB4.out)))
          go_wp2
          go_ret
          exact ⟨rfl, HF.out⟩
      · have HF := Lib.hid (And.intro (HBACK.out _ (HX3.out.on HB4.out)) (Keeps9.of_below (HW3.out.on HB4.out)))
        go_wp2
        go_ret
        exact ⟨rfl, HF.out⟩
    · have HF := Lib.hid (And.intro (HBACK.out _ (HX3.out.on HB4.out)) (Keeps9.of_below (HW3.out.on HB4.out)))
      go_wp2
      go_ret
      exact ⟨rfl, HF.out⟩
end
end Go.Proofs.YtkaflgbipjppmaaDoor
