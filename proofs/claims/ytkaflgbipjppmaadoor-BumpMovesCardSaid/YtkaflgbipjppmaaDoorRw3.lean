/- The document's TakeRun: a walk. -/
import Derived.Test.YtkaflgbipjppmaaDoorRu
namespace Go.Proofs.YtkaflgbipjppmaaDoor
open Go.RowKit
set_option linter.unusedVariables false
set_option linter.unusedSimpArgs false
variable {w w' : World} {G Wg Og size : Nat} {W W' own own' : List Int}
theorem ext_getD {l1 l2 : List Int} (h : l1.length = l2.length) (he : ∀ i, i < l1.length → l1.getD i 0 = l2.getD i 0) : l1 = l2 :=
  List.ext_getElem h fun i g1 g2 => by have := he i g1; simpa [List.getD, g1, g2] using this
theorem set_getD {l : List Int} (i j : Nat) (x : Int) (hi : i < l.length) : (l.set i x).getD j 0 = if j = i then x else l.getD j 0 := by
  by_cases h : j = i
  · subst h; rw [if_pos rfl]; simp [List.getD, hi]
  · rw [if_neg h]; simp [List.getD, show ¬ i = j by omega]
theorem zeroW_step {W : List Int} {x m : Nat} (h : x + m < W.length) : (zeroW W x m).set (x + m) 0 = zeroW W x (m + 1) := by
  have h1 := zeroW_length W x m (by omega)
  have h2 := zeroW_length W x (m + 1) (by omega)
  refine ext_getD (by rw [List.length_set, h1, h2]) (fun i hi => ?_)
  rw [List.length_set, h1] at hi
  rw [set_getD _ _ _ (by omega), zeroW_getD (by omega), zeroW_getD (by omega)]
  by_cases e : i = x + m
  · rw [if_pos e, if_pos (by omega)]
  · rw [if_neg e]
    by_cases g : x ≤ i ∧ i < x + m
    · rw [if_pos g, if_pos (by omega)]
    · rw [if_neg g, if_neg (by omega)]
theorem zeroW_zero (W : List Int) (x : Nat) : zeroW W x 0 = W := by unfold zeroW splice; simp
theorem rtake_few (G : Nat) (o n : Int) (w : World) (h : o < 1 ∨ n < 1) : Calls Tryd.prog 63 #[.pointer (some ⟨G, 0, none⟩), .int .i64 o, .int .i64 n] w fun e w' => e = .returned (.tuple #[.int .i64 0, .int .i64 2]) ∧ w = w' := by
  by_cases h1 : o < 1
  · clear h
    go_enter Tryd.func63, Tryd.ntmps63
    go_wp2
    go_ret2
    exact ⟨rfl, rfl⟩
  · have h2 : n < 1 := by omega
    clear h
    go_enter Tryd.func63, Tryd.ntmps63
    go_wp2
    go_ret2
    exact ⟨rfl, rfl⟩
theorem rtake_full (h : RefSt w G Wg Og W size own) (o : Int) (n : Nat) (ho : 1 ≤ o) (hn : 1 ≤ n) (hn2 : n < 9223372036854775808) (hr : runAtO own n = (0, false)) :
    Calls Tryd.prog 63 #[.pointer (some ⟨G, 0, none⟩), .int .i64 o, .int .i64 n] w fun e w' => e = .returned (.tuple #[.int .i64 0, .int .i64 11]) ∧ w = w' := by
  have HC : Hid (Calls Tryd.prog 81 #[.pointer (some ⟨G, 0, none⟩), .int .i64 n] w fun e w' => e = .returned (.int .i64 (-1)) ∧ w = w') := Lib.hid ((rrun_any h n hn hn2).mono fun e w' ⟨⟨x, h1, h2⟩, h3⟩ => ⟨by
    rcases h2 with ⟨a, g1, g2⟩ | ⟨g1, g2⟩
    · rw [hr] at g1; exact Bool.noConfusion (show false = true from congrArg Prod.snd g1)
    · rw [h1, g2], h3⟩)
  have c1 : ¬ o < 1 := by omega
  have c2 : ¬ (n : Int) < 1 := by omega
  clear h hr
  go_enter Tryd.func63, Tryd.ntmps63
  go_wp2_with (go_at_call 81; refine HC.out.mono ?_; rintro e w1 ⟨rfl, rfl⟩)
  go_ret2
  exact ⟨rfl, rfl⟩
set_option maxRecDepth 100000 in
set_option maxHeartbeats 4000000 in
theorem rtake_in (h : RefSt w G Wg Og W size own) (o : Int) (n a : Nat) (ho : 1 ≤ o) (hn : 1 ≤ n) (hn2 : n < 9223372036854775808) (hr : runAtO own n = (a, true)) :
    Calls Tryd.prog 63 #[.pointer (some ⟨G, 0, none⟩), .int .i64 o, .int .i64 n] w fun e w' => e = .returned (.tuple #[.int .i64 a, .int .i64 0]) ∧ RefSt w' G Wg Og (zeroW W (a * size) (n * size)) size (fillO own a o n) ∧ Mod (Two3 Wg Og) w w' := by
  have HC : Hid (Calls Tryd.prog 81 #[.pointer (some ⟨G, 0, none⟩), .int .i64 n] w fun e w' => e = .returned (.int .i64 a) ∧ w = w') := Lib.hid ((rrun_any h n hn hn2).mono fun e w' ⟨⟨x, h1, h2⟩, h3⟩ => ⟨by
    rcases h2 with ⟨a', g1, g2⟩ | ⟨g1, g2⟩
    · rw [hr] at g1; cases g1; rw [h1, g2]
    · rw [hr] at g1; exact Bool.noConfusion (show true = false from congrArg Prod.snd g1), h3⟩)
  have han : a + n ≤ own.length := by
    rcases run_at hr with ⟨_, h1, _⟩ | ⟨h1, _⟩
    · exact h1
    · cases h1
  have hol := h.o2
  have hwl := h.wlen
  have hs1 := h.s1
  have hs2 := h.s2
  have hW := h.hW
  have H := Lib.hid h
  have HWL := Lib.hid hW
  have c1 : ¬ o < 1 := by omega
  have c2 : ¬ (n : Int) < 1 := by omega
  clear h hr hW
  go_enter Tryd.func63, Tryd.ntmps63
  go_wp2_with (go_at_call 81; refine HC.out.mono ?_; rintro e w1 ⟨rfl, rfl⟩)
  go_loopw [9] (fun v9 wr => ∃ k : Nat, k ≤ n ∧ v9 = .int .i64 ((a : Int) + (k : Int)) ∧ Hid (RefSt wr G Wg Og (zeroW W (a * size) (k * size)) size (fillO own a o k)) ∧ Hid (Mod (Two3 Wg Og) w wr)) (fun v9 _ => a + n - (intOf v9).toNat)
  case atStart => exact ⟨0, by omega, rfl, Lib.hid (by rw [Nat.zero_mul, zeroW_zero]; exact H.out), Lib.hid (Mod.refl _ _)⟩
  case round =>
    obtain ⟨k, hk, rfl, HR, HM⟩ := hrel
    by_cases hlt : k < n
    · have c5 : ((a + k : Nat) : Int) < (a : Int) + n := by omega
      have hfl := fillO_length own a o k
      have k2 := HR.out.c2
      have hcell := HR.out.own_cell (a + k) (by omega)
      have hth := blk_thaw HR.out.owners (a + k)
      rw [hfl] at k2
      generalize (fillO own a o k).getD (a + k) 0 = y0 at hcell
      have hmul : (a + k) * size + size ≤ W.length := by
        rw [HWL.out, ← Nat.succ_mul]
        exact Nat.mul_le_mul_right _ (by omega)
      have hsum : (a + k) * size = a * size + k * size := Nat.add_mul _ _ _
      obtain ⟨y, hy⟩ : ∃ y, y = (a + k) * size := ⟨_, rfl⟩
      have HY := Lib.hid hy
      have HSUM := Lib.hid hsum
      rw [← hy] at hmul
      have e1 : IntKind.i64.wrap (((a : Int) + (k : Int)) * (size : Int)) = (y : Int) := by
        rw [show (((a : Int) + (k : Int)) * (size : Int)) = (y : Int) by rw [hy]; simp, IntKind.wrap_i64]; omega
      have e2 : IntKind.i64.wrap (((a + k : Nat) : Int) * (size : Int)) = (y : Int) := by
        rw [show (((a + k : Nat) : Int) * (size : Int)) = (y : Int) by rw [hy]; simp, IntKind.wrap_i64]; omega
      have HR1 := Lib.hid (HR.out.setO (a + k) o)
      have HK2 : Hid (RefSt (wr.setCell ⟨Og, a + k, none⟩ (.int .i64 o)) G Wg Og (zeroW W (a * size) (k * size + 0)) size (fillO own a o (k + 1)) ∧ Mod (Two3 Wg Og) w (wr.setCell ⟨Og, a + k, none⟩ (.int .i64 o))) := Lib.hid ⟨HR1.out.1, HM.out.trans (HR1.out.2.mono fun z _ e => .inr e)⟩
      clear hy hsum HR1
      go_wp2
      go_loopw [10] (fun v10 wx => ∃ j : Nat, j ≤ size ∧ v10 = .int .i64 j ∧ Hid (RefSt wx G Wg Og (zeroW W (a * size) (k * size + j)) size (fillO own a o (k + 1)) ∧ Mod (Two3 Wg Og) w wx)) (fun v10 _ => size - (intOf v10).toNat)
      case atStart => exact ⟨0, by omega, rfl, HK2⟩
      case round =>
        obtain ⟨j, hj, rfl, HX⟩ := hrel
        clear hcell hth k2 HK2
        have k1 := HX.out.1.c1
        by_cases hlt2 : j < size
        · have hzl : (zeroW W (a * size) (k * size + j)).length = W.length := zeroW_length _ _ _ (by have := HSUM.out; have := HY.out; omega)
          have k0 := HX.out.1.c0
          rw [hzl] at k0
          obtain ⟨z, hz⟩ : ∃ z, z = y + j := ⟨_, rfl⟩
          have hzL : z < W.length := by omega
          have e3 : IntKind.i64.wrap ((y : Int) + (j : Int)) = (z : Int) := by rw [IntKind.wrap_i64]; omega
          have hcell := HX.out.1.word_cell z (by omega)
          have hth := blk_thaw HX.out.1.body z
          generalize (zeroW W (a * size) (k * size + j)).getD z 0 = u0 at hcell
          have HZ := Lib.hid hz
          clear hz
          go_wp2_with fail
          obtain ⟨w3, hw3⟩ : ∃ w3, w3 = wr.drew := ⟨_, rfl⟩
          refine still_tail_at 13 (by kernel_rfl) (by kernel_rfl) hw3 ?_
          have H3 : Hid (RefSt w3 G Wg Og (zeroW W (a * size) (k * size + j)) size (fillO own a o (k + 1)) ∧ Mod (Two3 Wg Og) w w3) := Lib.hid (by rw [hw3]; exact ⟨HX.out.1.on (Below.drew (Below.refl _ _)), HX.out.2.drew⟩)
          replace k0 : w3.cell? ⟨G, 0, none⟩ = some (.slice (some ⟨Wg, 0, none⟩) W.length W.length) := by rw [hw3]; exact k0
          replace k1 : w3.cell? ⟨G, 1, none⟩ = some (.int .i64 size) := by rw [hw3]; exact k1
          replace hcell : w3.cell? ⟨Wg, z, none⟩ = some (.int .u64 u0) := by rw [hw3]; exact hcell
          replace hth : w3.frozen? ⟨Wg, z, none⟩ = false := by rw [hw3]; exact hth
          clear hw3 HX
          simp only [List.take_succ_cons, List.take_zero, List.drop_succ_cons, List.drop_zero]
          iterate 13
            with_reducible refine wpStill_step ?_
            intro K hK
            go_simp
            with_reducible refine hK _ ?_
            clear hK K
          refine wpStill_nil ?_
          go_wp2
          go_roundw
          case rel =>
            have hst := H3.out.1.setW z 0
            have hze : z = a * size + (k * size + j) := by have := HZ.out; have := HY.out; have := HSUM.out; omega
            refine ⟨j + 1, by omega, by go_num, Lib.hid ⟨?_, H3.out.2.trans (hst.2.mono fun i _ e => .inl e)⟩⟩
            have h9 := hst.1
            rw [show (zeroW W (a * size) (k * size + j)).set z 0 = zeroW W (a * size) (k * size + (j + 1)) by rw [hze]; exact zeroW_step (by omega)] at h9
            exact h9
          case measure => simp [intOf]; omega
        · obtain rfl : j = size := by omega
          go_wp2
          go_roundw
          case rel => exact ⟨k + 1, by omega, by go_num, by rw [Nat.succ_mul]; exact Lib.hid HX.out.1, Lib.hid HX.out.2⟩
          case measure => simp [intOf]; omega
    · obtain rfl : k = n := by omega
      have c5 : ¬ (a : Int) + (k : Int) < (a : Int) + (k : Int) := by omega
      go_wp2
      go_ret2
      exact ⟨rfl, HR.out, HM.out⟩
end Go.Proofs.YtkaflgbipjppmaaDoor
