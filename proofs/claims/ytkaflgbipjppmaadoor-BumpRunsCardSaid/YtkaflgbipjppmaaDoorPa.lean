/- A store and the document's, side by side; what a call does to both. -/
import Derived.Test.YtkaflgbipjppmaaDoorRo
namespace Go.Proofs.YtkaflgbipjppmaaDoor
open Go.RowKit
set_option linter.unusedVariables false
set_option linter.unusedSimpArgs false
variable {w w' : World} {B Wb Ob p q G Wg Og size : Nat} {W W' own own' : List Int}
/-- A store and the document's, of the same words and owners. -/
structure Pair (w : World) (B Wb Ob p q G Wg Og size : Nat) (W own : List Int) : Prop where
  st : StoreAt w B Wb Ob p q W size own
  rf : RefSt w G Wg Og W size own
  far : ∀ k, Five B Wb Ob p q k → k ≠ G ∧ k ≠ Wg ∧ k ≠ Og
def Eight (B Wb Ob p q G Wg Og k : Nat) : Prop := Five B Wb Ob p q k ∨ k = G ∨ k = Wg ∨ k = Og
/-- What the calls turn. -/
def Six (Wb Ob p q Wg Og k : Nat) : Prop := Four3 Wb Ob p q k ∨ Two3 Wg Og k
theorem Pair.mod {P : Nat → Prop} (h : Pair w B Wb Ob p q G Wg Og size W own) (hm : Mod P w w') (hn : ∀ k, Eight B Wb Ob p q G Wg Og k → ¬ P k) : Pair w' B Wb Ob p q G Wg Og size W own :=
  ⟨h.st.mod hm (fun k hk => hn k (.inl hk)), h.rf.mod hm (hn _ (.inr (.inl rfl))) (hn _ (.inr (.inr (.inl rfl)))) (hn _ (.inr (.inr (.inr rfl)))), h.far⟩
theorem Pair.on (h : Pair w B Wb Ob p q G Wg Og size W own) (hb : Below w.heap.size w w') : Pair w' B Wb Ob p q G Wg Og size W own := h.mod (P := fun _ => False) (.of_below hb) (fun _ _ x => x)
theorem Pair.lt (h : Pair w B Wb Ob p q G Wg Og size W own) : ∀ k, Eight B Wb Ob p q G Wg Og k → k < w.heap.size := fun k e => by
  obtain ⟨u, hu⟩ := h.st.map
  rcases e with (e | e | e | e | e) | e | e | e
  · rw [e]; exact block_lt h.st.head
  · rw [e]; exact block_lt h.st.body
  · rw [e]; exact block_lt h.st.owners
  · rw [e]; exact block_lt hu.head
  · rw [e]; exact block_lt hu.body
  · rw [e]; exact block_lt h.rf.head
  · rw [e]; exact block_lt h.rf.body
  · rw [e]; exact block_lt h.rf.owners
theorem Six.eight {k : Nat} (h : Six Wb Ob p q Wg Og k) : Eight B Wb Ob p q G Wg Og k := by
  rcases h with h | h | h
  · exact .inl (.inr h)
  · exact .inr (.inr (.inl h))
  · exact .inr (.inr (.inr h))
/-- The store's call behind, the document's ahead. -/
theorem Pair.half (h : Pair w B Wb Ob p q G Wg Og size W own) (hm : Mod (Four3 Wb Ob p q) w w') : RefSt w' G Wg Og W size own :=
  h.rf.mod hm (fun e => (h.far _ (.inr e)).1 rfl) (fun e => (h.far _ (.inr e)).2.1 rfl) (fun e => (h.far _ (.inr e)).2.2 rfl)
theorem Pair.done {w2 : World} (h : Pair w B Wb Ob p q G Wg Og size W own) (hs : StoreAt w' B Wb Ob p q W' size own') (hm : Mod (Four3 Wb Ob p q) w w') (hr : RefSt w2 G Wg Og W' size own') (hm2 : Mod (Two3 Wg Og) w' w2) : Pair w2 B Wb Ob p q G Wg Og size W' own' ∧ Mod (Six Wb Ob p q Wg Og) w w2 :=
  ⟨⟨hs.mod hm2 (fun k hk e => by rcases e with e | e; exact (h.far k hk).2.1 e; exact (h.far k hk).2.2 e), hr, h.far⟩, (hm.mono fun _ _ e => .inl e).trans (hm2.mono fun _ _ e => .inr e)⟩
/-- TakeRun. -/
def TakeTw (W own : List Int) (size : Nat) (o n x y : Int) (W' own' : List Int) : Prop :=
  (∀ (Y : World) (B Wb Ob p q : Nat), StoreAt Y B Wb Ob p q W size own → Tab Y → Calls Tryd.prog 29 #[.pointer (some ⟨B, 0, none⟩), .int .i64 o, .int .i64 n] Y fun e Y' => e = .returned (.tuple #[.int .i64 x, .int .i64 y]) ∧ StoreAt Y' B Wb Ob p q W' size own' ∧ Mod (Four3 Wb Ob p q) Y Y') ∧
  (∀ (Y : World) (G Wg Og : Nat), RefSt Y G Wg Og W size own → Calls Tryd.prog 63 #[.pointer (some ⟨G, 0, none⟩), .int .i64 o, .int .i64 n] Y fun e Y' => e = .returned (.tuple #[.int .i64 x, .int .i64 y]) ∧ RefSt Y' G Wg Og W' size own' ∧ Mod (Two3 Wg Og) Y Y')
/-- Owners behind a call: those that were, or one of these. -/
def Grew (own own' : List Int) (a b : Int) : Prop := ∀ x ∈ own', x ∈ own ∨ x = a ∨ x = b ∨ x = 0
theorem Grew.refl (own : List Int) (a b : Int) : Grew own own a b := fun x hx => .inl hx
theorem grew_fill (own : List Int) (i : Nat) (o b : Int) : ∀ n, Grew own (fillO own i o n) o b
  | 0 => Grew.refl _ _ _
  | n + 1 => fun x hx => by
    rcases List.mem_or_eq_of_mem_set hx with g | g
    · exact grew_fill own i o b n x g
    · exact .inr (.inl g)
theorem grew_set (own : List Int) (i : Nat) (o : Int) {a b : Int} (h : o = a ∨ o = b ∨ o = 0) : Grew own (own.set i o) a b := fun x hx => by
  rcases List.mem_or_eq_of_mem_set hx with g | g
  · exact .inl g
  · rw [g]; exact .inr h
theorem take_tw (W own : List Int) (size : Nat) (o n : Int) (hn : n < 9223372036854775808) : ∃ x y W' own', TakeTw W own size o n x y W' own' ∧ ∀ b, Grew own own' o b := by
  by_cases h1 : o < 1 ∨ n < 1
  · exact ⟨0, 2, W, own, ⟨fun Y B Wb Ob p q hs hT => (take_few B o n Y h1).mono fun e Y' ⟨he, hw⟩ => ⟨he, hw ▸ hs, hw ▸ Mod.refl _ _⟩, fun Y G Wg Og hr => (rtake_few G o n Y h1).mono fun e Y' ⟨he, hw⟩ => ⟨he, hw ▸ hr, hw ▸ Mod.refl _ _⟩⟩, fun b => Grew.refl _ _ _⟩
  · obtain ⟨m, rfl⟩ : ∃ m : Nat, n = m := ⟨n.toNat, by omega⟩
    rcases hr : runAtO own m with ⟨a, b⟩
    rcases run_at hr with ⟨rfl, h2, h3⟩ | ⟨rfl, rfl⟩
    · exact ⟨a, 0, _, _, ⟨fun Y B Wb Ob p q hs hT => (take_in hs hT o m a (by omega) (by omega) hr).mono fun e Y' h => h, fun Y G Wg Og hf => (rtake_in hf o m a (by omega) (by omega) (by omega) hr).mono fun e Y' h => h⟩, fun b => grew_fill _ _ _ _ _⟩
    · exact ⟨0, 11, W, own, ⟨fun Y B Wb Ob p q hs hT => (take_full hs hT o m (by omega) (by omega) hr).mono fun e Y' ⟨he, hw⟩ => ⟨he, hw ▸ hs, hw ▸ Mod.refl _ _⟩, fun Y G Wg Og hf => (rtake_full hf o m (by omega) (by omega) (by omega) hr).mono fun e Y' ⟨he, hw⟩ => ⟨he, hw ▸ hf, hw ▸ Mod.refl _ _⟩⟩, fun b => Grew.refl _ _ _⟩
theorem TakeTw.one {o x y : Int} (h : TakeTw W own size o 1 x y W' own') (hs : StoreAt w B Wb Ob p q W size own) (hT : Tab w) : Calls Tryd.prog 27 #[.pointer (some ⟨B, 0, none⟩), .int .i64 o] w fun e Y' => e = .returned (.tuple #[.int .i64 x, .int .i64 y]) ∧ StoreAt Y' B Wb Ob p q W' size own' ∧ Mod (Four3 Wb Ob p q) w Y' :=
  take_any o _ (h.1 w B Wb Ob p q hs hT) (fun e w' h => ⟨_, _, h.1⟩)
/-- Release. -/
def RelTw (W own : List Int) (size : Nat) (c y : Int) (own' : List Int) : Prop :=
  (∀ (Y : World) (B Wb Ob p q : Nat), StoreAt Y B Wb Ob p q W size own → Calls Tryd.prog 28 #[.pointer (some ⟨B, 0, none⟩), .int .i64 c] Y fun e Y' => e = .returned (.int .i64 y) ∧ StoreAt Y' B Wb Ob p q W size own' ∧ Mod (Four3 Wb Ob p q) Y Y') ∧
  (∀ (Y : World) (G Wg Og : Nat), RefSt Y G Wg Og W size own → Calls Tryd.prog 64 #[.pointer (some ⟨G, 0, none⟩), .int .i64 c] Y fun e Y' => e = .returned (.int .i64 y) ∧ RefSt Y' G Wg Og W size own' ∧ Mod (Two3 Wg Og) Y Y')
theorem rel_tw (W own : List Int) (size : Nat) (c : Int) : ∃ y own', RelTw W own size c y own' ∧ ∀ a b, Grew own own' a b := by
  by_cases h1 : c < 0 ∨ own.length ≤ c
  · exact ⟨3, own, ⟨fun Y B Wb Ob p q hs => (release_out hs c h1).mono fun e Y' ⟨he, hw⟩ => ⟨he, hw ▸ hs, hw ▸ Mod.refl _ _⟩, fun Y G Wg Og hr => (rrelease_out hr c h1).mono fun e Y' ⟨he, hw⟩ => ⟨he, hw ▸ hr, hw ▸ Mod.refl _ _⟩⟩, fun a b => Grew.refl _ _ _⟩
  · obtain ⟨m, rfl⟩ : ∃ m : Nat, c = m := ⟨c.toNat, by omega⟩
    by_cases h0 : own.getD m 0 = 0
    · exact ⟨17, own, ⟨fun Y B Wb Ob p q hs => (release_free hs m (by omega) h0).mono fun e Y' ⟨he, hw⟩ => ⟨he, hw ▸ hs, hw ▸ Mod.refl _ _⟩, fun Y G Wg Og hr => (rrelease_free hr m (by omega) h0).mono fun e Y' ⟨he, hw⟩ => ⟨he, hw ▸ hr, hw ▸ Mod.refl _ _⟩⟩, fun a b => Grew.refl _ _ _⟩
    · exact ⟨0, _, ⟨fun Y B Wb Ob p q hs => release_in hs m (by omega) h0, fun Y G Wg Og hr => rrelease_in hr m (by omega) h0⟩, fun a b => grew_set _ _ _ (.inr (.inr rfl))⟩
/-- Give. -/
def GiveTw (W own : List Int) (size : Nat) (c o y : Int) (own' : List Int) : Prop :=
  (∀ (Y : World) (B Wb Ob p q : Nat), StoreAt Y B Wb Ob p q W size own → Calls Tryd.prog 30 #[.pointer (some ⟨B, 0, none⟩), .int .i64 c, .int .i64 o] Y fun e Y' => e = .returned (.int .i64 y) ∧ StoreAt Y' B Wb Ob p q W size own' ∧ Mod (Four3 Wb Ob p q) Y Y') ∧
  (∀ (Y : World) (G Wg Og : Nat), RefSt Y G Wg Og W size own → Calls Tryd.prog 65 #[.pointer (some ⟨G, 0, none⟩), .int .i64 c, .int .i64 o] Y fun e Y' => e = .returned (.int .i64 y) ∧ RefSt Y' G Wg Og W size own' ∧ Mod (Two3 Wg Og) Y Y')
theorem give_tw (W own : List Int) (size : Nat) (c o : Int) : ∃ y own', GiveTw W own size c o y own' ∧ ∀ a, Grew own own' a o := by
  by_cases ho : o < 1
  · exact ⟨2, own, ⟨fun Y B Wb Ob p q hs => (give_few B c o Y ho).mono fun e Y' ⟨he, hw⟩ => ⟨he, hw ▸ hs, hw ▸ Mod.refl _ _⟩, fun Y G Wg Og hr => (rgive_few G c o Y ho).mono fun e Y' ⟨he, hw⟩ => ⟨he, hw ▸ hr, hw ▸ Mod.refl _ _⟩⟩, fun a => Grew.refl _ _ _⟩
  · by_cases h1 : c < 0 ∨ own.length ≤ c
    · exact ⟨3, own, ⟨fun Y B Wb Ob p q hs => (give_out hs c o (by omega) h1).mono fun e Y' ⟨he, hw⟩ => ⟨he, hw ▸ hs, hw ▸ Mod.refl _ _⟩, fun Y G Wg Og hr => (rgive_out hr c o (by omega) h1).mono fun e Y' ⟨he, hw⟩ => ⟨he, hw ▸ hr, hw ▸ Mod.refl _ _⟩⟩, fun a => Grew.refl _ _ _⟩
    · obtain ⟨m, rfl⟩ : ∃ m : Nat, c = m := ⟨c.toNat, by omega⟩
      by_cases h0 : own.getD m 0 = 0
      · exact ⟨17, own, ⟨fun Y B Wb Ob p q hs => (give_free hs m o (by omega) (by omega) h0).mono fun e Y' ⟨he, hw⟩ => ⟨he, hw ▸ hs, hw ▸ Mod.refl _ _⟩, fun Y G Wg Og hr => (rgive_free hr m o (by omega) (by omega) h0).mono fun e Y' ⟨he, hw⟩ => ⟨he, hw ▸ hr, hw ▸ Mod.refl _ _⟩⟩, fun a => Grew.refl _ _ _⟩
      · exact ⟨0, _, ⟨fun Y B Wb Ob p q hs => give_in hs m o (by omega) (by omega) h0, fun Y G Wg Og hr => rgive_in hr m o (by omega) (by omega) h0⟩, fun a => grew_set _ _ _ (.inr (.inl rfl))⟩
/-- Copy. -/
def CopyTw (W own : List Int) (size : Nat) (t f n y : Int) (W' : List Int) : Prop :=
  (∀ (Y : World) (B Wb Ob p q : Nat), StoreAt Y B Wb Ob p q W size own → Calls Tryd.prog 24 #[.pointer (some ⟨B, 0, none⟩), .int .i64 t, .int .i64 f, .int .i64 n] Y fun e Y' => e = .returned (.int .i64 y) ∧ StoreAt Y' B Wb Ob p q W' size own ∧ Mod (Four3 Wb Ob p q) Y Y') ∧
  (∀ (Y : World) (G Wg Og : Nat), RefSt Y G Wg Og W size own → Calls Tryd.prog 67 #[.pointer (some ⟨G, 0, none⟩), .int .i64 t, .int .i64 f, .int .i64 n] Y fun e Y' => e = .returned (.int .i64 y) ∧ RefSt Y' G Wg Og W' size own ∧ Mod (Two3 Wg Og) Y Y')
theorem copy_tw (W own : List Int) (size : Nat) (t f n : Int) : ∃ y W', CopyTw W own size t f n y W' := by
  by_cases h1 : inW W.length t n ∧ inW W.length f n
  · obtain ⟨⟨g1, g2, g3, g4⟩, g5, g6, g7, g8⟩ := id h1
    obtain ⟨t, rfl⟩ : ∃ m : Nat, t = m := ⟨t.toNat, by omega⟩
    obtain ⟨f, rfl⟩ : ∃ m : Nat, f = m := ⟨f.toNat, by omega⟩
    obtain ⟨n, rfl⟩ : ∃ m : Nat, n = m := ⟨n.toNat, by omega⟩
    by_cases h2 : okW own size t n = true ∧ okW own size f n = true
    · refine ⟨0, copyW W t f n, fun Y B Wb Ob p q hs => copy_in hs t f n (by omega) (by omega) h2.1 h2.2, fun Y G Wg Og hr => (rcopy_in hr t f n (by omega) (by omega)).mono fun e Y' h => ?_⟩
      rcases h with ⟨_, _, h3, h4, h5⟩ | ⟨h3, _⟩
      · exact ⟨h3, h4, h5⟩
      · exact absurd h2 h3
    · refine ⟨17, W, fun Y B Wb Ob p q hs => (copy_bad hs t f n (fun e => h2 ⟨by simpa using e.2.2.1, by simpa using e.2.2.2⟩)).mono fun e Y' ⟨⟨x, he, hc, hx⟩, hw⟩ => ⟨?_, hw ▸ hs, hw ▸ Mod.refl _ _⟩, fun Y G Wg Og hr => (rcopy_in hr t f n (by omega) (by omega)).mono fun e Y' h => ?_⟩
      · rcases hc with ⟨h3, h4⟩ | ⟨h3, _⟩ | ⟨h3, _⟩
        · exact absurd h1 (fun e => h4.elim (fun g => g e.1) (fun g => g e.2))
        · rw [he, h3]
        · exact absurd h3 hx
      · rcases h with ⟨h3, h4, _⟩ | ⟨_, h3, h4⟩
        · exact absurd ⟨h3, h4⟩ h2
        · exact ⟨h3, hr.on h4, .of_below h4⟩
  · refine ⟨3, W, fun Y B Wb Ob p q hs => (copy_bad hs t f n (fun e => h1 ⟨e.1, e.2.1⟩)).mono fun e Y' ⟨⟨x, he, hc, hx⟩, hw⟩ => ⟨?_, hw ▸ hs, hw ▸ Mod.refl _ _⟩, fun Y G Wg Og hr => (rcopy_bad hr t f n h1).mono fun e Y' ⟨he, hw⟩ => ⟨he, hw ▸ hr, hw ▸ Mod.refl _ _⟩⟩
    rcases hc with ⟨h3, h4⟩ | ⟨h3, h4, h5, _⟩ | ⟨h3, _⟩
    · rw [he, h3]
    · exact absurd ⟨h4, h5⟩ h1
    · exact absurd h3 hx
end Go.Proofs.YtkaflgbipjppmaaDoor
