/- Pieces of two spaces: a run that is taken; the state of BumpApart, step by step. -/
import Derived.Test.YtkaflgbipjppmaaDoorBp
import Derived.Test.YtkaflgbipjppmaaDoorTw4
namespace Go.Proofs.YtkaflgbipjppmaaDoor
open Go.RowKit
set_option linter.unusedVariables false
set_option linter.unusedSimpArgs false
variable {base w w' : World} {B Wb Ob p q size P0 P1 bd i : Nat} {ps : List (Nat × Nat)}
theorem and_one64 (a : Int) (h0 : 0 ≤ a) (h1 : a < 9223372036854775808) : Go.bits .and .i64 a 1 = a % 2 :=
  bits_mask .i64 63 (by decide) (fun n g0 g1 => by rw [IntKind.wrap_i64]; omega) 1 (by decide) a h0 h1
theorem Pcs.take0 {own W : List Int} {a0 e0 a1 e1 n a k : Nat} (h : Pcs size own W a0 e0 a1 e1 ps) (hs : 1 ≤ size) (hW : W.length = own.length * size) (hn : 1 ≤ n) (hk : k = need size n) (hx : a + k ≤ own.length) (hz : ∀ j, a ≤ j → j < a + k → own.getD j 0 = 0) :
    Pend size (fillO own a 1 k) (zeroW W (a * size) (k * size)) (if k = 1 then a * size + n else a0) (if k = 1 then (a + 1) * size else e0) a1 e1 ps (a * size) n 0 1 ∧ (n ≤ size → (a * size) / size = (a * size + n - 1) / size) ∧ a * size + n ≤ own.length * size := by
  obtain ⟨g, hno⟩ := h.fill hs hW hx hz (o := 1)
  have hnk : n ≤ k * size := by
    have := Nat.lt_mul_div_succ (n - 1) (show 0 < size by omega)
    rw [hk]; unfold need
    rw [Nat.mul_comm]; omega
  have hxw : a * size + k * size ≤ own.length * size := by rw [← Nat.add_mul]; exact Nat.mul_le_mul_right _ hx
  have hzl : (zeroW W (a * size) (k * size)).length = W.length := zeroW_length _ _ _ (by rw [hW]; exact hxw)
  have hch : ∀ j, j < n → a ≤ (a * size + j) / size ∧ (a * size + j) / size < a + k := fun j hj => ⟨by rw [Nat.le_div_iff_mul_le (by omega)]; omega, by rw [Nat.div_lt_iff_lt_mul (by omega), Nat.add_mul]; omega⟩
  have hk1 : 1 ≤ k := by rw [hk]; exact Nat.le_add_left 1 _
  have hr0 : ∀ j, j < n → ¬ (a0 ≤ a * size + j ∧ a * size + j < e0) := fun j hj e => by
    obtain ⟨c, c1, c2, c3, c4⟩ := h.r0 (by omega)
    have h1 : (a * size + j) / size = c := in_chunk hs (by omega) (by omega)
    obtain ⟨h2, h3⟩ := hch j hj
    rw [h1] at h2 h3
    rw [hz c h2 h3] at c3
    exact absurd c3 (by decide)
  have hr1 : ∀ j, j < n → ¬ (a1 ≤ a * size + j ∧ a * size + j < e1) := fun j hj e => by
    obtain ⟨c, c1, c2, c3, c4⟩ := h.r1 (by omega)
    have h1 : (a * size + j) / size = c := in_chunk hs (by omega) (by omega)
    obtain ⟨h2, h3⟩ := hch j hj
    rw [h1] at h2 h3
    rw [hz c h2 h3] at c3
    exact absurd c3 (by decide)
  have hsz : (a + 1) * size = a * size + size := Nat.succ_mul _ _
  refine ⟨?_, fun hns => ?_, by omega⟩
  · have hnew : ∀ j, j < n → a * size + j < (zeroW W (a * size) (k * size)).length ∧ (fillO own a 1 k).getD ((a * size + j) / size) 0 = 1 ∧ ∀ (j' y n' : Nat), ps[j']? = some (y, n') → ∀ i, i < n' → y + i ≠ a * size + j := fun j hj => by
      refine ⟨by rw [hzl, hW]; omega, ?_, fun j' y n' hj' i hi e => hno j' y n' hj' i hi ⟨by omega, by omega⟩⟩
      rw [fillO_getD own a 1 _ k hx, if_pos (hch j hj)]
    by_cases e1' : k = 1
    · rw [if_pos e1', if_pos e1']
      have hks : k * size = size := by rw [e1', Nat.one_mul]
      refine ⟨⟨fun j y m hj i hi => ?_, fun _ => ⟨a, by omega, rfl, by rw [fillO_getD own a 1 a k hx, if_pos ⟨Nat.le_refl _, by omega⟩], by rw [fillO_length]; omega⟩, g.r1⟩, fun j hj => ?_, fun j hj => by omega⟩
      · obtain ⟨g1, g2, g3, g4, g5⟩ := g.pw j y m hj i hi
        exact ⟨g1, g2, g3, fun e => hno j y m hj i hi ⟨by omega, by omega⟩, g5⟩
      · obtain ⟨g1, g2, g3⟩ := hnew j hj
        exact ⟨g1, g2, by omega, hr1 j hj, g3⟩
    · rw [if_neg e1', if_neg e1']
      refine ⟨g, fun j hj => ?_, fun j hj => by omega⟩
      obtain ⟨g1, g2, g3⟩ := hnew j hj
      exact ⟨g1, g2, hr0 j hj, hr1 j hj, g3⟩
  · have h1 : (a * size) / size = a := Nat.mul_div_cancel _ (by omega)
    have h2 : (a * size + n - 1) / size = a := in_chunk hs (by omega) (by omega)
    rw [h1, h2]
theorem Pcs.take1 {own W : List Int} {a0 e0 a1 e1 n a k : Nat} (h : Pcs size own W a0 e0 a1 e1 ps) (hs : 1 ≤ size) (hW : W.length = own.length * size) (hn : 1 ≤ n) (hk : k = need size n) (hx : a + k ≤ own.length) (hz : ∀ j, a ≤ j → j < a + k → own.getD j 0 = 0) :
    Pend size (fillO own a 2 k) (zeroW W (a * size) (k * size)) a0 e0 (if k = 1 then a * size + n else a1) (if k = 1 then (a + 1) * size else e1) ps (a * size) n 0 2 ∧ (n ≤ size → (a * size) / size = (a * size + n - 1) / size) ∧ a * size + n ≤ own.length * size := by
  obtain ⟨g, hno⟩ := h.fill hs hW hx hz (o := 2)
  have hnk : n ≤ k * size := by
    have := Nat.lt_mul_div_succ (n - 1) (show 0 < size by omega)
    rw [hk]; unfold need
    rw [Nat.mul_comm]; omega
  have hxw : a * size + k * size ≤ own.length * size := by rw [← Nat.add_mul]; exact Nat.mul_le_mul_right _ hx
  have hzl : (zeroW W (a * size) (k * size)).length = W.length := zeroW_length _ _ _ (by rw [hW]; exact hxw)
  have hch : ∀ j, j < n → a ≤ (a * size + j) / size ∧ (a * size + j) / size < a + k := fun j hj => ⟨by rw [Nat.le_div_iff_mul_le (by omega)]; omega, by rw [Nat.div_lt_iff_lt_mul (by omega), Nat.add_mul]; omega⟩
  have hk1 : 1 ≤ k := by rw [hk]; exact Nat.le_add_left 1 _
  have hr0 : ∀ j, j < n → ¬ (a0 ≤ a * size + j ∧ a * size + j < e0) := fun j hj e => by
    obtain ⟨c, c1, c2, c3, c4⟩ := h.r0 (by omega)
    have h1 : (a * size + j) / size = c := in_chunk hs (by omega) (by omega)
    obtain ⟨h2, h3⟩ := hch j hj
    rw [h1] at h2 h3
    rw [hz c h2 h3] at c3
    exact absurd c3 (by decide)
  have hr1 : ∀ j, j < n → ¬ (a1 ≤ a * size + j ∧ a * size + j < e1) := fun j hj e => by
    obtain ⟨c, c1, c2, c3, c4⟩ := h.r1 (by omega)
    have h1 : (a * size + j) / size = c := in_chunk hs (by omega) (by omega)
    obtain ⟨h2, h3⟩ := hch j hj
    rw [h1] at h2 h3
    rw [hz c h2 h3] at c3
    exact absurd c3 (by decide)
  have hsz : (a + 1) * size = a * size + size := Nat.succ_mul _ _
  refine ⟨?_, fun hns => ?_, by omega⟩
  · have hnew : ∀ j, j < n → a * size + j < (zeroW W (a * size) (k * size)).length ∧ (fillO own a 2 k).getD ((a * size + j) / size) 0 = 2 ∧ ∀ (j' y n' : Nat), ps[j']? = some (y, n') → ∀ i, i < n' → y + i ≠ a * size + j := fun j hj => by
      refine ⟨by rw [hzl, hW]; omega, ?_, fun j' y n' hj' i hi e => hno j' y n' hj' i hi ⟨by omega, by omega⟩⟩
      rw [fillO_getD own a 2 _ k hx, if_pos (hch j hj)]
    by_cases e1' : k = 1
    · rw [if_pos e1', if_pos e1']
      have hks : k * size = size := by rw [e1', Nat.one_mul]
      refine ⟨⟨fun j y m hj i hi => ?_, g.r0, fun _ => ⟨a, by omega, rfl, by rw [fillO_getD own a 2 a k hx, if_pos ⟨Nat.le_refl _, by omega⟩], by rw [fillO_length]; omega⟩⟩, fun j hj => ?_, fun j hj => by omega⟩
      · obtain ⟨g1, g2, g3, g4, g5⟩ := g.pw j y m hj i hi
        exact ⟨g1, g2, g3, g4, fun e => hno j y m hj i hi ⟨by omega, by omega⟩⟩
      · obtain ⟨g1, g2, g3⟩ := hnew j hj
        exact ⟨g1, g2, hr0 j hj, by omega, g3⟩
    · rw [if_neg e1', if_neg e1']
      refine ⟨g, fun j hj => ?_, fun j hj => by omega⟩
      obtain ⟨g1, g2, g3⟩ := hnew j hj
      exact ⟨g1, g2, hr0 j hj, hr1 j hj, g3⟩
  · have h1 : (a * size) / size = a := Nat.mul_div_cancel _ (by omega)
    have h2 : (a * size + n - 1) / size = a := in_chunk hs (by omega) (by omega)
    rw [h1, h2]
/-- What lies in the heap in BumpApart. -/
structure ApOk (base w : World) (B Wb Ob p q size P0 P1 bd i : Nat) (W own : List Int) (v0 v1 : Value) (l0 l1 : List (Nat × Nat)) (a0 e0 a1 e1 : Nat) : Prop where
  tw : TW base w B Wb Ob p q W size own P0 P1 v0 v1 l0 l1 a0 e0 a1 e1
  ol : own.length = 24
  n0 : l0.length ≤ i
  n1 : l1.length ≤ i
  lt : ∀ k, Four3 Wb Ob p q k → k < bd
def ApSt (base : World) (B Wb Ob p q size P0 P1 bd i : Nat) (ps : List (Nat × Nat)) (w : World) : Prop := ∃ W own v0 v1 l0 l1 a0 e0 a1 e1, ApOk base w B Wb Ob p q size P0 P1 bd i W own v0 v1 l0 l1 a0 e0 a1 e1 ∧ Pcs size own W a0 e0 a1 e1 ps
def ApPend (base : World) (B Wb Ob p q size P0 P1 bd i : Nat) (ps : List (Nat × Nat)) (x n m : Nat) (ow : Int) (w : World) : Prop := ∃ W own v0 v1 l0 l1 a0 e0 a1 e1, ApOk base w B Wb Ob p q size P0 P1 bd i W own v0 v1 l0 l1 a0 e0 a1 e1 ∧ Pend size own W a0 e0 a1 e1 ps x n m ow
/-- The rows of ints of the call's own stay. -/
def KeepR (bd : Nat) (w w' : World) : Prop := ∀ v n xs, w.ownsRow bd 3 1 v n xs → w'.ownsRow bd 3 1 v n xs
section
variable {W own : List Int} {v0 v1 : Value} {l0 l1 : List (Nat × Nat)} {a0 e0 a1 e1 : Nat}
theorem ApOk.on (h : ApOk base w B Wb Ob p q size P0 P1 bd i W own v0 v1 l0 l1 a0 e0 a1 e1) (hb : Below w.heap.size w w') : ApOk base w' B Wb Ob p q size P0 P1 bd i W own v0 v1 l0 l1 a0 e0 a1 e1 := { h with tw := h.tw.on hb }
theorem ApSt.on (h : ApSt base B Wb Ob p q size P0 P1 bd i ps w) (hb : Below w.heap.size w w') : ApSt base B Wb Ob p q size P0 P1 bd i ps w' := by
  obtain ⟨W, own, v0, v1, l0, l1, a0, e0, a1, e1, h1, h2⟩ := h
  exact ⟨W, own, v0, v1, l0, l1, a0, e0, a1, e1, h1.on hb, h2⟩
theorem ApSt.below (h : ApSt base B Wb Ob p q size P0 P1 bd i ps w) : Below base.heap.size base w := by
  obtain ⟨W, own, v0, v1, l0, l1, a0, e0, a1, e1, h1, h2⟩ := h
  exact h1.tw.below
theorem ApPend.below {x n m : Nat} {ow : Int} (h : ApPend base B Wb Ob p q size P0 P1 bd i ps x n m ow w) : Below base.heap.size base w := by
  obtain ⟨W, own, v0, v1, l0, l1, a0, e0, a1, e1, h1, h2⟩ := h
  exact h1.tw.below
theorem ApPend.on {x n m : Nat} {ow : Int} (h : ApPend base B Wb Ob p q size P0 P1 bd i ps x n m ow w) (hb : Below w.heap.size w w') : ApPend base B Wb Ob p q size P0 P1 bd i ps x n m ow w' := by
  obtain ⟨W, own, v0, v1, l0, l1, a0, e0, a1, e1, h1, h2⟩ := h
  exact ⟨W, own, v0, v1, l0, l1, a0, e0, a1, e1, h1.on hb, h2⟩
theorem KeepR.of_below (hb : Below w.heap.size w w') : KeepR bd w w' := fun v n xs h => own_mod h (P := fun _ => False) (.of_below hb) (fun _ _ e => e)
theorem row_rows {w : World} {b1 b2 : Nat} {t1 t2 : TypeId} {s1 s2 n1 n2 : Nat} {v1 v2 : Value} {xs1 xs2 : List Value} (h1 : w.ownsRow b1 t1 s1 v1 n1 xs1) (h2 : w.ownsRow b2 t2 s2 v2 n2 xs2) (hne : t2 ≠ t1) : ∀ k, v2.ownBlock = some k → v1.ownBlock ≠ some k := fun k hk e => by
  rcases h1.2 with ⟨g1, _⟩ | ⟨g, cap, cur, hv, hgb, hh, r⟩
  · rw [g1] at e; cases e
  · rw [hv] at e
    have e' : some g = some k := e
    injection e' with e'
    subst e'
    exact own_type h2 hh hne hk
theorem ApOk.keep0 (h : ApOk base w B Wb Ob p q size P0 P1 bd i W own v0 v1 l0 l1 a0 e0 a1 e1) (hm : Mod (AllocS Wb Ob p q P0 v0) w w') : KeepR bd w w' := fun v n xs hr => own_mod hr hm (fun k hk e => by
  rcases e with e | e | e
  · have h1 := h.lt k e
    have h2 := (hr.lt k hk).1
    omega
  · exact own_type hr h.tw.two.s0.head (by decide) (hk.trans (by rw [e]))
  · exact row_rows h.tw.two.s0.row hr (by decide) k hk e)
theorem ApOk.keep1 (h : ApOk base w B Wb Ob p q size P0 P1 bd i W own v0 v1 l0 l1 a0 e0 a1 e1) (hm : Mod (AllocS Wb Ob p q P1 v1) w w') : KeepR bd w w' := fun v n xs hr => own_mod hr hm (fun k hk e => by
  rcases e with e | e | e
  · have h1 := h.lt k e
    have h2 := (hr.lt k hk).1
    omega
  · exact own_type hr h.tw.two.s1.head (by decide) (hk.trans (by rw [e]))
  · exact row_rows h.tw.two.s1.row hr (by decide) k hk e)
set_option maxHeartbeats 1000000 in
theorem ApSt.step0 (h : ApSt base B Wb Ob p q size P0 P1 bd i ps w) (hT : Tab base) (h0 : 0 < base.heap.size) (n : Nat) (hn1 : 1 ≤ n) (hn2 : n ≤ 30) (hi : i ≤ 60) :
    Calls Tryd.prog 18 #[.pointer (some ⟨P0, 0, none⟩), .int .i64 n] w fun e w' => Keeps w w' ∧ KeepR bd w w' ∧ ((e = .returned (.tuple #[.int .i64 0, .int .i64 11]) ∧ ApSt base B Wb Ob p q size P0 P1 bd (i + 1) ps w') ∨ ∃ x : Nat, e = .returned (.tuple #[.int .i64 x, .int .i64 0]) ∧ x + n ≤ 24 * size ∧ (n ≤ size → x / size = (x + n - 1) / size) ∧ ApPend base B Wb Ob p q size P0 P1 bd (i + 1) ps x n 0 1 w') := by
  obtain ⟨W, own, v0, v1, l0, l1, a0, e0, a1, e1, h1, h2⟩ := h
  have hs := h1.tw.two.st.s1
  have hW := h1.tw.two.st.hW
  have hol := h1.ol
  have hn0 := h1.n0
  have hn1' := h1.n1
  by_cases hr : n ≤ e0 - a0
  · refine (h1.tw.room0 n hn1 hr).mono ?_
    rintro e w' ⟨rfl, g1, g2⟩
    obtain ⟨k1, k2⟩ := h2.room0 hs hW hn1 hr
    have hlast := (k1.new (n - 1) (by omega)).1
    refine ⟨AllocS_calm h1.tw.two.s0 h1.tw.two.st g2, h1.keep0 g2, .inr ⟨a0, rfl, ?_, fun _ => k2, W, own, v0, v1, l0, l1, _, _, _, _, ⟨g1, hol, by omega, by omega, h1.lt⟩, k1⟩⟩
    rw [hW, hol] at hlast; omega
  · generalize hrun : runAtO own (need size n) = r
    obtain ⟨a, ok⟩ := r
    rcases run_at hrun with ⟨rfl, r1, r2⟩ | ⟨rfl, rfl⟩
    · refine (h1.tw.run0 hT h0 n a hn1 (by omega) hr hrun (by omega)).mono ?_
      rintro e w' ⟨rfl, ⟨v', g1⟩, g2⟩
      obtain ⟨k1, k2, k3⟩ := h2.take0 hs hW hn1 rfl r1 r2
      refine ⟨AllocS_calm h1.tw.two.s0 h1.tw.two.st g2, h1.keep0 g2, .inr ⟨a * size, rfl, by rw [hol] at k3; exact k3, k2, _, _, _, _, _, _, _, _, _, _, ⟨g1, by rw [fillO_length]; exact hol, ?_, ?_, h1.lt⟩, k1⟩⟩
      · first | (rw [List.length_append]; simp; omega) | omega
      · first | (rw [List.length_append]; simp; omega) | omega
    · refine (h1.tw.full0 hT h0 n hn1 (by omega) hr hrun).mono ?_
      rintro e w' ⟨rfl, g1⟩
      exact ⟨.of_below g1, .of_below g1, .inl ⟨rfl, W, own, v0, v1, l0, l1, a0, e0, a1, e1, ⟨h1.tw.on g1, hol, by omega, by omega, h1.lt⟩, h2⟩⟩
set_option maxHeartbeats 1000000 in
theorem ApSt.step1 (h : ApSt base B Wb Ob p q size P0 P1 bd i ps w) (hT : Tab base) (h0 : 0 < base.heap.size) (n : Nat) (hn1 : 1 ≤ n) (hn2 : n ≤ 30) (hi : i ≤ 60) :
    Calls Tryd.prog 18 #[.pointer (some ⟨P1, 0, none⟩), .int .i64 n] w fun e w' => Keeps w w' ∧ KeepR bd w w' ∧ ((e = .returned (.tuple #[.int .i64 0, .int .i64 11]) ∧ ApSt base B Wb Ob p q size P0 P1 bd (i + 1) ps w') ∨ ∃ x : Nat, e = .returned (.tuple #[.int .i64 x, .int .i64 0]) ∧ x + n ≤ 24 * size ∧ (n ≤ size → x / size = (x + n - 1) / size) ∧ ApPend base B Wb Ob p q size P0 P1 bd (i + 1) ps x n 0 2 w') := by
  obtain ⟨W, own, v0, v1, l0, l1, a0, e0, a1, e1, h1, h2⟩ := h
  have hs := h1.tw.two.st.s1
  have hW := h1.tw.two.st.hW
  have hol := h1.ol
  have hn0 := h1.n0
  have hn1' := h1.n1
  by_cases hr : n ≤ e1 - a1
  · refine (h1.tw.room1 n hn1 hr).mono ?_
    rintro e w' ⟨rfl, g1, g2⟩
    obtain ⟨k1, k2⟩ := h2.room1 hs hW hn1 hr
    have hlast := (k1.new (n - 1) (by omega)).1
    refine ⟨AllocS_calm h1.tw.two.s1 h1.tw.two.st g2, h1.keep1 g2, .inr ⟨a1, rfl, ?_, fun _ => k2, W, own, v0, v1, l0, l1, _, _, _, _, ⟨g1, hol, by omega, by omega, h1.lt⟩, k1⟩⟩
    rw [hW, hol] at hlast; omega
  · generalize hrun : runAtO own (need size n) = r
    obtain ⟨a, ok⟩ := r
    rcases run_at hrun with ⟨rfl, r1, r2⟩ | ⟨rfl, rfl⟩
    · refine (h1.tw.run1 hT h0 n a hn1 (by omega) hr hrun (by omega)).mono ?_
      rintro e w' ⟨rfl, ⟨v', g1⟩, g2⟩
      obtain ⟨k1, k2, k3⟩ := h2.take1 hs hW hn1 rfl r1 r2
      refine ⟨AllocS_calm h1.tw.two.s1 h1.tw.two.st g2, h1.keep1 g2, .inr ⟨a * size, rfl, by rw [hol] at k3; exact k3, k2, _, _, _, _, _, _, _, _, _, _, ⟨g1, by rw [fillO_length]; exact hol, ?_, ?_, h1.lt⟩, k1⟩⟩
      · first | (rw [List.length_append]; simp; omega) | omega
      · first | (rw [List.length_append]; simp; omega) | omega
    · refine (h1.tw.full1 hT h0 n hn1 (by omega) hr hrun).mono ?_
      rintro e w' ⟨rfl, g1⟩
      exact ⟨.of_below g1, .of_below g1, .inl ⟨rfl, W, own, v0, v1, l0, l1, a0, e0, a1, e1, ⟨h1.tw.on g1, hol, by omega, by omega, h1.lt⟩, h2⟩⟩
/-- The owner of a word of a piece. -/
theorem ApPend.owner {x n m : Nat} {ow : Int} (h : ApPend base B Wb Ob p q size P0 P1 bd i ps x n m ow w) (hm : m < n) : Calls Tryd.prog 25 #[.pointer (some ⟨B, 0, none⟩), .int .i64 ((x + m) / size : Nat)] w fun e w' => e = .returned (.int .i64 ow) ∧ w = w' := by
  obtain ⟨W, own, v0, v1, l0, l1, a0, e0, a1, e1, h1, h2⟩ := h
  obtain ⟨g1, g2, _⟩ := h2.new m hm
  have hs := h1.tw.two.st.s1
  rw [h1.tw.two.st.hW] at g1
  have := owner_in h1.tw.two.st ((x + m) / size) (by rw [Nat.div_lt_iff_lt_mul (by omega)]; exact g1)
  rwa [g2] at this
theorem ApPend.write {x n m : Nat} {ow : Int} (h : ApPend base B Wb Ob p q size P0 P1 bd i ps x n m ow w) (hm : m < n) (ho : ow ≠ 0) : Calls Tryd.prog 26 #[.pointer (some ⟨B, 0, none⟩), .int .i64 (x + m : Nat), .int .u64 ((ps.length : Int) + 1)] w fun e w' => e = .returned (.int .i64 0) ∧ ApPend base B Wb Ob p q size P0 P1 bd i ps x n (m + 1) ow w' ∧ Keeps w w' ∧ KeepR bd w w' := by
  obtain ⟨W, own, v0, v1, l0, l1, a0, e0, a1, e1, h1, h2⟩ := h
  obtain ⟨g1, g2, _⟩ := h2.new m hm
  refine (h1.tw.write (x + m) ((ps.length : Int) + 1) g1 (by rw [g2]; exact ho)).mono ?_
  rintro e w' ⟨rfl, k1, k2⟩
  have k3 : Mod (AllocS Wb Ob p q P0 v0) w w' := k2.mono fun k _ e => .inl e
  exact ⟨rfl, ⟨_, own, v0, v1, l0, l1, a0, e0, a1, e1, ⟨k1, h1.ol, h1.n0, h1.n1, h1.lt⟩, h2.write hm⟩, AllocS_calm h1.tw.two.s0 h1.tw.two.st k3, h1.keep0 k3⟩
theorem ApPend.close {x n : Nat} {ow : Int} (h : ApPend base B Wb Ob p q size P0 P1 bd i ps x n n ow w) (ho : ow ≠ 0) : ApSt base B Wb Ob p q size P0 P1 bd i (ps ++ [(x, n)]) w := by
  obtain ⟨W, own, v0, v1, l0, l1, a0, e0, a1, e1, h1, h2⟩ := h
  exact ⟨W, own, v0, v1, l0, l1, a0, e0, a1, e1, h1, h2.close ho⟩
theorem ApSt.read {j x n k : Nat} (h : ApSt base B Wb Ob p q size P0 P1 bd i ps w) (hj : ps[j]? = some (x, n)) (hk : k < n) : Calls Tryd.prog 23 #[.pointer (some ⟨B, 0, none⟩), .int .i64 (x + k : Nat)] w fun e w' => e = .returned (.tuple #[.int .u64 ((j : Int) + 1), .int .i64 0]) ∧ w = w' := by
  obtain ⟨W, own, v0, v1, l0, l1, a0, e0, a1, e1, h1, h2⟩ := h
  obtain ⟨g1, g2, g3, _⟩ := h2.pw j x n hj k hk
  have := read_in h1.tw.two.st (x + k) g1
  have e1 : chE own ((x + k) / size) = 0 := if_neg g2
  have e2 : readV W own size (x + k) = W.getD (x + k) 0 := if_neg g2
  rw [e1, e2, g3] at this
  exact this
theorem ApSt.small {j x n : Nat} (h : ApSt base B Wb Ob p q size P0 P1 bd i ps w) (hj : ps[j]? = some (x, n)) (hn : 1 ≤ n) : x + n ≤ 1048576 := by
  obtain ⟨W, own, v0, v1, l0, l1, a0, e0, a1, e1, h1, h2⟩ := h
  have h3 := (h2.pw j x n hj (n - 1) (by omega)).1
  have h4 := h1.tw.two.st.wlen
  omega
end
end Go.Proofs.YtkaflgbipjppmaaDoor
