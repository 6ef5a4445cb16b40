/- TakeRun: a walk. -/
import Derived.Test.YtkaflgbipjppmaaDoorSw
namespace Go.Proofs.YtkaflgbipjppmaaDoor
open Go.RowKit
set_option linter.unusedVariables false
variable {w w' : World} {B Wb Ob p q size : Nat} {W W' own own' : List Int}
theorem take_none (v o n : Int) (w : World) : Calls Tryd.prog 29 #[.pointer none, .int .i64 o, .int .i64 n] w fun e w' => e = .returned (.tuple #[.int .i64 0, .int .i64 1]) ∧ w = w' := by
  go_enter Tryd.func29, Tryd.ntmps29
  go_wp2
  go_ret2
  exact ⟨rfl, rfl⟩
theorem take_few (B : Nat) (o n : Int) (w : World) (h : o < 1 ∨ n < 1) : Calls Tryd.prog 29 #[.pointer (some ⟨B, 0, none⟩), .int .i64 o, .int .i64 n] w fun e w' => e = .returned (.tuple #[.int .i64 0, .int .i64 2]) ∧ w = w' := by
  by_cases h1 : o < 1
  · clear h
    go_enter Tryd.func29, Tryd.ntmps29
    go_wp2
    go_ret2
    exact ⟨rfl, rfl⟩
  · have h2 : n < 1 := by omega
    clear h
    go_enter Tryd.func29, Tryd.ntmps29
    go_wp2
    go_ret2
    exact ⟨rfl, rfl⟩
theorem run_at {n a : Nat} {b : Bool} (h : runAtO own n = (a, b)) : (b = true ∧ a + n ≤ own.length ∧ (∀ j, a ≤ j → j < a + n → own.getD j 0 = 0)) ∨ (b = false ∧ a = 0) := by
  unfold runAtO at h
  rcases run_spec n (own.map busy) _ 0 rfl with ⟨a', g1, g2, g3, g4⟩ | ⟨g1, g2⟩
  · rw [g1] at h
    cases h
    refine .inl ⟨rfl, by simpa using g3.1, fun j h1 h2 => ?_⟩
    have h3 := g3.2 j h1 h2
    have h4 := g3.1
    rw [List.length_map] at h4
    have : (own.map busy).getD j false = busy (own.getD j 0) := by simp [List.getD, show j < own.length by omega]
    rw [this] at h3
    simpa [busy] using h3
  · rw [g1] at h
    cases h
    exact .inr ⟨rfl, rfl⟩
theorem take_full (h : StoreAt w B Wb Ob p q W size own) (hT : Tab w) (o : Int) (n : Nat) (ho : 1 ≤ o) (hn : 1 ≤ n) (hr : runAtO own n = (0, false)) :
    Calls Tryd.prog 29 #[.pointer (some ⟨B, 0, none⟩), .int .i64 o, .int .i64 n] w fun e w' => e = .returned (.tuple #[.int .i64 0, .int .i64 11]) ∧ w = w' := by
  obtain ⟨u, hu⟩ := h.map
  have HC := run_any hu hT n hn
  unfold RunPost at HC
  rw [show runL n (own.map busy) 0 = (0, false) from hr] at HC
  have HR := Lib.hid HC
  have h3 := h.c3
  have c1 : ¬ o < 1 := by omega
  have c2 : ¬ (n : Int) < 1 := by omega
  clear hu HC h hr
  go_enter Tryd.func29, Tryd.ntmps29
  go_wp2_with (go_at_call 58; refine HR.out.mono ?_; rintro e w1 ⟨rfl, rfl⟩)
  go_ret2
  exact ⟨rfl, rfl⟩
/-- The store in the midst of TakeRun's loop. -/
structure MidT (w : World) (B Wb Ob p q : Nat) (W : List Int) (size : Nat) (own own2 : List Int) (bits : List Bool) (X : World) : Prop where
  head : X.heap[B]? = some (.cells #[.slice (some ⟨Wb, 0, none⟩) W.length W.length, .int .i64 size, .slice (some ⟨Ob, 0, none⟩) own.length own.length, .pointer (some ⟨p, 0, none⟩)] 96 (0, 0))
  body : X.heap[Wb]? = some (.cells (W.map wordV).toArray 46 (0, 0))
  owners : X.heap[Ob]? = some (.cells (own2.map ownV).toArray 3 (0, 0))
  map : ∃ u, MapAt X p q bits u 122 46
  mod : Mod (Four3 Wb Ob p q) w X
def TakePost (w : World) (B Wb Ob p q : Nat) (W : List Int) (size : Nat) (own : List Int) (o : Int) (n a : Nat) (e : Ending) (w' : World) : Prop :=
  e = .returned (.tuple #[.int .i64 a, .int .i64 0]) ∧ StoreAt w' B Wb Ob p q (zeroW W (a * size) (n * size)) size (fillO own a o n) ∧ Mod (Four3 Wb Ob p q) w w'
set_option maxRecDepth 100000 in
set_option maxHeartbeats 1000000 in
theorem take_in (h : StoreAt w B Wb Ob p q W size own) (hT : Tab w) (o : Int) (n a : Nat) (ho : 1 ≤ o) (hn : 1 ≤ n) (hr : runAtO own n = (a, true)) :
    Calls Tryd.prog 29 #[.pointer (some ⟨B, 0, none⟩), .int .i64 o, .int .i64 n] w (TakePost w B Wb Ob p q W size own o n a) := by
  obtain ⟨u, hu⟩ := h.map
  have HC := run_any hu hT n hn
  unfold RunPost at HC
  rw [show runL n (own.map busy) 0 = (a, true) from hr] at HC
  have HR := Lib.hid HC
  have han : a + n ≤ own.length := by
    rcases run_at hr with ⟨_, h1, _⟩ | ⟨h1, _⟩
    · exact h1
    · cases h1
  have HF := Lib.hid (fill_in hu a n true (by simpa using han))
  have h3 := h.c3
  have hol := h.o2
  have hw := h.wlen
  have hs1 := h.s1
  have hs2 := h.s2
  have HS := Lib.hid h
  have HFO : Hid (∀ X, Turned w p q (fillL (own.map busy) a true n) 122 46 X → MidT w B Wb Ob p q W size own own (fillL (own.map busy) a true n) X) := Lib.hid (fun X ⟨u2, hu2, hm⟩ => by
    have hn : ∀ k, k ≠ p → k ≠ q → ¬ Two p q k := fun k h1 h2 e => e.elim h1 h2
    exact ⟨hm.keeps h.head (hn _ h.n3 h.n4), hm.keeps h.body (hn _ h.n6 h.n7), hm.keeps h.owners (hn _ h.n8 h.n9), ⟨u2, hu2⟩, hm.mono fun k _ e => by rcases e with e | e; exact .inr (.inr (.inl e)); exact .inr (.inr (.inr e))⟩)
  have hx1 : a * size + n * size = (a + n) * size := (Nat.add_mul _ _ _).symm
  have hx2 : (a + n) * size ≤ W.length := by rw [h.hW]; exact Nat.mul_le_mul_right _ han
  have hx3 : 1 ≤ n * size := Nat.mul_le_mul hn hs1
  have HX1 := Lib.hid hx1
  obtain ⟨x, hx⟩ : ∃ x, x = a * size := ⟨_, rfl⟩
  obtain ⟨y, hy⟩ : ∃ y, y = n * size := ⟨_, rfl⟩
  have HX := Lib.hid hx
  have HY := Lib.hid hy
  have e1 : IntKind.i64.wrap ((a : Int) * (size : Int)) = (x : Int) := by
    rw [show ((a : Int) * (size : Int)) = (x : Int) by rw [hx]; simp, IntKind.wrap_i64]; omega
  have e2 : IntKind.i64.wrap (((a : Int) + (n : Int)) * (size : Int)) = ((x + y : Nat) : Int) := by
    rw [show (((a : Int) + (n : Int)) * (size : Int)) = ((x + y : Nat) : Int) by rw [hx, hy, hx1]; simp, IntKind.wrap_i64]; omega
  have e3 : IntKind.i64.wrap (IntKind.i64.wrap ((a : Int) + (n : Int)) * (size : Int)) = ((x + y : Nat) : Int) := by
    rw [show IntKind.i64.wrap ((a : Int) + (n : Int)) = (a : Int) + (n : Int) by rw [IntKind.wrap_i64]; omega, e2]
  rw [← hy] at hx3
  rw [← hx1, ← hx, ← hy] at hx2
  have hne : ¬ W.length = x := by omega
  obtain ⟨z, hz⟩ : ∃ z, z = x + y := ⟨_, rfl⟩
  have HXY := Lib.hid hx2
  rw [← hz] at e3 hx2
  have hz1 : x ≤ z := by omega
  have hz2 : x < z := by omega
  have HZ := Lib.hid (show z - x = y by omega)
  clear e2 hz
  have c1 : ¬ o < 1 := by omega
  have c2 : ¬ (n : Int) < 1 := by omega
  clear hu HC h hr hx1 hx hy
  go_enter Tryd.func29, Tryd.ntmps29
  go_wp2_with (first | (go_at_call 58; refine HR.out.mono ?_; rintro e w1 ⟨rfl, rfl⟩) | (go_at_call 59; refine HF.out.mono ?_; rintro e w2 ⟨rfl, ht⟩; have HM := Lib.hid (HFO.out _ ht); clear ht))
  go_loopw [10] (fun v10 wr => ∃ k : Nat, k ≤ n ∧ v10 = .int .i64 (a + k : Nat) ∧ Hid (MidT w B Wb Ob p q W size own (fillO own a o k) (fillL (own.map busy) a true n) wr)) (fun v10 _ => a + n - (intOf v10).toNat)
  case atStart => exact ⟨0, by omega, rfl, HM⟩
  case round =>
    obtain ⟨k, hk, rfl, HK⟩ := hrel
    clear h3
    have k2 := (blk_cells HK.out.head 2).trans rfl
    by_cases hlt : k < n
    · have c5 : ((a + k : Nat) : Int) < (a : Int) + n := by omega
      have hcell : wr.cell? ⟨Ob, a + k, none⟩ = some (ownV ((fillO own a o k).getD (a + k) 0)) := by
        rw [row_cell HK.out.owners (a + k)]
        have := fillO_length own a o k
        simp [List.getD, show a + k < (fillO own a o k).length by omega]
      have hth := blk_thaw HK.out.owners (a + k)
      unfold ownV at hcell
      go_wp2
      go_roundw
      case rel =>
        refine ⟨k + 1, by omega, by go_num, Lib.hid ?_⟩
        have hs := HS.out
        obtain ⟨u2, hu2⟩ := HK.out.map
        have hmd : Mod (fun z => z = Ob) wr (wr.setCell ⟨Ob, a + k, none⟩ (.int .i64 o)) := Mod.setCell _ _ _ _ rfl
        refine ⟨hmd.keeps HK.out.head hs.n2, hmd.keeps HK.out.body hs.n5, ?_, ⟨u2, hu2.mod hmd (fun e => hs.n8 e.symm) (fun e => hs.n9 e.symm)⟩, HK.out.mod.trans (hmd.mono fun z _ e => .inr (.inl e))⟩
        have := blk_set HK.out.owners (a + k) (.int .i64 o)
        rw [this]
        simp [fillO, ownV]
      case measure => simp [intOf]; omega
    · obtain rfl : k = n := by omega
      have c5 : ¬ ((a + k : Nat) : Int) < (a : Int) + k := by omega
      have k0 := (blk_cells HK.out.head 0).trans rfl
      have k1 := (blk_cells HK.out.head 1).trans rfl
      have hbody := HK.out.body
      have hmod := HK.out.mod
      obtain ⟨u2, hu2⟩ := HK.out.map
      have hown := HK.out.owners
      have hhead := HK.out.head
      clear k2
      go_wp2_with fail
      obtain ⟨w3, hw3⟩ : ∃ w3, w3 = wr.drew := ⟨_, rfl⟩
      refine still_tail_at 19 (by kernel_rfl) (by kernel_rfl) hw3 ?_
      replace hmod : Mod (Four3 Wb Ob p q) w w3 := by rw [hw3]; exact hmod.drew
      replace hu2 : MapAt w3 p q (fillL (own.map busy) a true k) u2 122 46 := by rw [hw3]; exact hu2.on (Below.drew (Below.refl _ _))
      replace hown : w3.heap[Ob]? = some (.cells ((fillO own a o k).map ownV).toArray 3 (0, 0)) := by rw [hw3]; exact hown
      replace hhead : w3.heap[B]? = some (.cells #[.slice (some ⟨Wb, 0, none⟩) W.length W.length, .int .i64 size, .slice (some ⟨Ob, 0, none⟩) own.length own.length, .pointer (some ⟨p, 0, none⟩)] 96 (0, 0)) := by rw [hw3]; exact hhead
      replace hbody : w3.heap[Wb]? = some (.cells (W.map wordV).toArray 46 (0, 0)) := by rw [hw3]; exact hbody
      replace k0 : w3.cell? ⟨B, 0, none⟩ = some (.slice (some ⟨Wb, 0, none⟩) W.length W.length) := by rw [hw3]; exact k0
      replace k1 : w3.cell? ⟨B, 1, none⟩ = some (.int .i64 size) := by rw [hw3]; exact k1
      have HMOD := Lib.hid hmod
      have HU2 := Lib.hid hu2
      have HOWN := Lib.hid hown
      have HHEAD := Lib.hid hhead
      have HBODY := Lib.hid hbody
      clear hw3 hmod hu2 hown hhead hbody HK
      simp only [List.take_succ_cons, List.take_zero, List.drop_succ_cons, List.drop_zero]
      iterate 19
        with_reducible refine wpStill_step ?_
        intro K hK
        go_simp
        with_reducible refine hK _ ?_
        clear hK K
      refine wpStill_nil ?_
      refine wpList_clear rfl _ _ rfl 46 Tryd.underlying42 (.int .u64 0) (by kernel_rfl) rfl rfl Wb x (z - x) (W.length - x) rfl (by omega) (W.map wordV) 46 HBODY.out (by rw [List.length_map]; omega) ?_
      intro w4 H4
      go_wp2
      go_ret2
      obtain ⟨hrow, hm4⟩ := H4.out
      rw [HZ.out, ← zeroW_map] at hrow
      have hs := HS.out
      have hzl : (zeroW W x y).length = W.length := zeroW_length W x y HXY.out
      have hfl := fillO_length own a o k
      refine ⟨rfl, ?_, HMOD.out.trans (hm4.mono fun i _ e => .inl e)⟩
      rw [← HX.out, ← HY.out]
      refine ⟨?_, hrow, hm4.keeps HOWN.out (fun e => hs.n5 e.symm), ⟨u2, ?_⟩, by rw [hzl, hfl]; exact hs.hW, hs.s1, hs.s2, by rw [hfl]; exact hs.o1, by rw [hfl]; exact hs.o2, fillO_pos own a o (by omega) hs.pos k, hs.n1, hs.n2, hs.n3, hs.n4, hs.n5, hs.n6, hs.n7, hs.n8, hs.n9⟩
      · rw [hzl, hfl]; exact hm4.keeps HHEAD.out hs.n1
      · rw [fillO_busy own a o (by omega) k]
        exact HU2.out.mod hm4 (fun e => hs.n6 e.symm) (fun e => hs.n7 e.symm)
end Go.Proofs.YtkaflgbipjppmaaDoor
