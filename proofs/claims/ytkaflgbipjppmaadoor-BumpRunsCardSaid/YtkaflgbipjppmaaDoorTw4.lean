/- Alloc of the second of two spaces; Alloc where there is no room: what is left. -/
import Derived.Test.YtkaflgbipjppmaaDoorTw3
import Derived.Test.YtkaflgbipjppmaaDoorPl
namespace Go.Proofs.YtkaflgbipjppmaaDoor
open Go.RowKit
set_option linter.unusedVariables false
set_option linter.unusedSimpArgs false
variable {base w w' : World} {B Wb Ob p q size Pb bd at_ end_ P0 P1 a0 e0 a1 e1 : Nat} {W W' own own' : List Int} {v v0 v1 : Value} {parts l0 l1 : List (Nat × Nat)} {ow : Int}
theorem TW.room1 (h : TW base w B Wb Ob p q W size own P0 P1 v0 v1 l0 l1 a0 e0 a1 e1) (n : Nat) (hn : 1 ≤ n) (hr : n ≤ e1 - a1) :
    Calls Tryd.prog 18 #[.pointer (some ⟨P1, 0, none⟩), .int .i64 n] w fun e w' => e = .returned (.tuple #[.int .i64 a1, .int .i64 0]) ∧ TW base w' B Wb Ob p q W size own P0 P1 v0 v1 l0 l1 a0 e0 (a1 + n) e1 ∧ Mod (AllocS Wb Ob p q P1 v1) w w' := by
  refine (alloc_room h.two.s1 n hn hr).mono ?_
  rintro e w' ⟨rfl, h1, h2⟩
  have hf := h.two.s1.far h.two.st
  have h1np : v0.ownBlock ≠ some P1 := wrow_type h.two.s0.row h.two.s1.head (by decide)
  exact ⟨rfl, ⟨⟨h.two.st.mod h2 (fun k hk e => (hf k hk).1 e), h.two.s0.mod h2 (fun e => h.two.ne e) (fun k hk e => h1np (hk.trans (by rw [e]))), h1, h.two.ne, h.two.far⟩, Mod.below h.below h2 (fun k e => h.hi k (.inr (.inr e))) h.below.size, h.hi⟩, h2.mono fun k _ e => .inr (.inl e)⟩
theorem TW.run1 (h : TW base w B Wb Ob p q W size own P0 P1 v0 v1 l0 l1 a0 e0 a1 e1) (hT : Tab base) (h0 : 0 < base.heap.size) (n a : Nat) (hn : 1 ≤ n) (hn2 : n < 9223372036854775808) (hr : ¬ n ≤ e1 - a1) (hrun : runAtO own (need size n) = (a, true)) (hpl : l1.length ≤ 1000000) :
    Calls Tryd.prog 18 #[.pointer (some ⟨P1, 0, none⟩), .int .i64 n] w fun e w' => e = .returned (.tuple #[.int .i64 (a * size : Nat), .int .i64 0]) ∧ (∃ v', TW base w' B Wb Ob p q (zeroW W (a * size) (need size n * size)) size (fillO own a 2 (need size n)) P0 P1 v0 v' l0 (l1 ++ [(a, need size n)]) a0 e0 (if need size n = 1 then a * size + n else a1) (if need size n = 1 then (a + 1) * size else e1)) ∧ Mod (AllocS Wb Ob p q P1 v1) w w' := by
  refine (alloc_in h.two.s1 h.two.st (h.tab hT h0) n a hn hn2 hr hrun hpl h.below.size).mono ?_
  rintro e w' ⟨rfl, v', h1, h2, h3, h4⟩
  have hf1 := h.two.s0.far h.two.st
  have hP1 : ¬ AllocS Wb Ob p q P1 v1 P0 := by
    rintro (e | e | e)
    · exact (hf1 _ (.inr e)).1 rfl
    · exact h.two.ne e
    · exact wrow_type h.two.s1.row h.two.s0.head (by decide) e
  have hv1 : ∀ k, v0.ownBlock = some k → ¬ AllocS Wb Ob p q P1 v1 k := by
    rintro k hk (e | e | e)
    · exact (hf1 _ (.inr e)).2 hk
    · exact wrow_type h.two.s0.row h.two.s1.head (by decide) (hk.trans (by rw [e]))
    · exact h.two.far k hk e
  refine ⟨rfl, ⟨v', ⟨⟨h2, h.two.s0.mod h3 hP1 hv1, h1, h.two.ne, fun k hk hk1 => ?_⟩, Mod.below h.below h3 h.s_hi1 h.below.size, h.hi⟩⟩, h3⟩
  rcases h4 k hk1 with g | g
  · exact h.two.far k hk g
  · have := (h.two.s0.row.lt k hk).2
    omega
theorem TW.full0 (h : TW base w B Wb Ob p q W size own P0 P1 v0 v1 l0 l1 a0 e0 a1 e1) (hT : Tab base) (h0 : 0 < base.heap.size) (n : Nat) (hn : 1 ≤ n) (hn2 : n < 9223372036854775808) (hr : ¬ n ≤ e0 - a0) (hrun : runAtO own (need size n) = (0, false)) :
    Calls Tryd.prog 18 #[.pointer (some ⟨P0, 0, none⟩), .int .i64 n] w fun e w' => e = .returned (.tuple #[.int .i64 0, .int .i64 11]) ∧ Below w.heap.size w w' := alloc_full h.two.s0 h.two.st (h.tab hT h0) n hn hn2 hr hrun
theorem TW.full1 (h : TW base w B Wb Ob p q W size own P0 P1 v0 v1 l0 l1 a0 e0 a1 e1) (hT : Tab base) (h0 : 0 < base.heap.size) (n : Nat) (hn : 1 ≤ n) (hn2 : n < 9223372036854775808) (hr : ¬ n ≤ e1 - a1) (hrun : runAtO own (need size n) = (0, false)) :
    Calls Tryd.prog 18 #[.pointer (some ⟨P1, 0, none⟩), .int .i64 n] w fun e w' => e = .returned (.tuple #[.int .i64 0, .int .i64 11]) ∧ Below w.heap.size w w' := alloc_full h.two.s1 h.two.st (h.tab hT h0) n hn hn2 hr hrun
/-- Write of a word of the store of two spaces. -/
theorem TW.write (h : TW base w B Wb Ob p q W size own P0 P1 v0 v1 l0 l1 a0 e0 a1 e1) (a : Nat) (x : Int) (ha : a < W.length) (h0 : own.getD (a / size) 0 ≠ 0) :
    Calls Tryd.prog 26 #[.pointer (some ⟨B, 0, none⟩), .int .i64 a, .int .u64 x] w fun e w' => e = .returned (.int .i64 0) ∧ TW base w' B Wb Ob p q (W.set a x) size own P0 P1 v0 v1 l0 l1 a0 e0 a1 e1 ∧ Mod (Four3 Wb Ob p q) w w' := by
  refine (write_in h.two.st a x ha).mono ?_
  rintro e w' ⟨rfl, h1, h2⟩
  have e1 : chE own (a / size) = 0 := if_neg h0
  have e2 : writeW W own size a x = W.set a x := if_neg h0
  rw [e2] at h1
  have hf0 := h.two.s0.far h.two.st
  have hf1 := h.two.s1.far h.two.st
  refine ⟨by rw [e1], ⟨⟨h1, h.two.s0.mod h2 (fun e => (hf0 _ (.inr e)).1 rfl) (fun k hk e => (hf0 k (.inr e)).2 hk), h.two.s1.mod h2 (fun e => (hf1 _ (.inr e)).1 rfl) (fun k hk e => (hf1 k (.inr e)).2 hk), h.two.ne, h.two.far⟩, Mod.below h.below h2 (fun k e => h.hi k (.inl (.inr e))) h.below.size, h.hi⟩, h2⟩
end Go.Proofs.YtkaflgbipjppmaaDoor
