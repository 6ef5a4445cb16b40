/- BitmapTurns: a walk. -/
import Derived.Test.YtbdpbkblihaeiaaDoorF2
namespace Go.Proofs.YtbdpbkblihaeiaaDoor
open Go.RowKit
set_option linter.unusedVariables false
set_option linter.unusedSimpArgs false
variable {w w' : World} {p q g : Nat} {bits : List Bool} {ws : List Nat} {T T' : TypeId}
/-- A map of the call's own. -/
structure Lone (base w : World) (p q : Nat) (b : List Bool) : Prop where
  map : ∃ ws, MapAt w p q b ws 88 85
  below : Below base.heap.size base w
  hp : base.heap.size ≤ p
  hq : base.heap.size ≤ q
theorem Grown.lone {base : World} (h : Grown base w p q g bits) : Lone base w p q bits := ⟨h.map, h.below, h.hp, h.hq⟩
theorem Lone.has {base : World} {b : List Bool} (h : Lone base w p q b) (i : Nat) (hi : i < b.length) : Calls Tryd.prog 19 #[.pointer (some ⟨p, 0, none⟩), .int .i64 i] w fun e w' => e = .returned (.bool (b.getD i false)) ∧ w = w' := by
  obtain ⟨ws, hm⟩ := h.map
  exact has_in hm i hi
theorem Lone.count {base : World} {b : List Bool} (h : Lone base w p q b) : Calls Tryd.prog 22 #[.pointer (some ⟨p, 0, none⟩)] w fun e w' => e = .returned (.int .i64 (many b)) ∧ w = w' := by
  obtain ⟨ws, hm⟩ := h.map
  exact count_any hm
theorem Lone.fill {base : World} {b : List Bool} (h : Lone base w p q b) (R Q : Nat) (on : Bool) (hl : R + Q ≤ b.length) : Calls Tryd.prog 21 #[.pointer (some ⟨p, 0, none⟩), .int .i64 R, .int .i64 Q, .bool on] w fun e w' => e = .returned (.int .i64 0) ∧ Lone base w' p q (fillL b R on Q) ∧ Mod (Two p q) w w' := by
  obtain ⟨ws, hm⟩ := h.map
  refine (fill_in hm R Q on hl).mono fun e w' ⟨he, ht⟩ => ⟨he, ⟨?_, ht.below h.below h.hp h.hq h.below.size, h.hp, h.hq⟩, ?_⟩
  · obtain ⟨ws', hm', _⟩ := ht; exact ⟨ws', hm'⟩
  · obtain ⟨_, _, hmod⟩ := ht; exact hmod
theorem Lone.firstL {base : World} {b : List Bool} (h : Lone base w p q b) (hT : Tab base) (h0 : 0 < base.heap.size) (a : Nat) (s : Nat) (t : Bool) (hs : FirstL b a = (s, t)) : Calls Tryd.prog 15 #[.pointer (some ⟨p, 0, none⟩), .int .i64 a] w fun e w' => e = .returned (.tuple #[.int .i64 s, .bool t]) ∧ w = w' := by
  obtain ⟨ws, hm⟩ := h.map
  exact first_of hm (hT.below h.below h0) a s t hs
/-- A slice of numbers, in blocks from n₀ on. -/
def IntsFar (n₀ : Nat) (w : World) (v : Value) (l : List Nat) : Prop := ∃ A c, v = .slice A l.length c ∧ l.length ≤ c ∧ (∀ b o, A = some ⟨b, o, none⟩ → n₀ ≤ b) ∧ SliceOf w A 1 (fun x : Nat => [intV x]) 0 l
theorem farInts {v : Value} {l : List Nat} {base : Nat} (h : w.ownsRow base 3 1 v l.length (l.map intV)) : IntsFar base w v l := by
  have e : l.map intV = l.flatMap (fun x => [intV x]) := by clear h; induction l <;> simp_all
  rw [e] at h
  have hb : ∀ A c n, v = .slice A n c → ∀ b o, A = some ⟨b, o, none⟩ → base ≤ b := by
    intro A c n hv b o hA
    rcases h.2 with ⟨h1, _⟩ | ⟨g, cap, cur, h1, hg, _⟩
    · rw [h1] at hv; cases hv; cases hA
    · rw [h1] at hv; cases hv; cases hA; exact hg
  obtain ⟨A, c, hv, hc, hs⟩ := own_slice (fun x : Nat => [intV x]) 0 (fun _ => rfl) h
  exact ⟨A, c, hv, hc, hb _ _ _ hv, hs⟩
theorem sliceOf_mod {A : Option Addr} {l : List Nat} {S : Nat → Prop} {n₀ : Nat} (h : SliceOf w A 1 (fun x : Nat => [intV x]) 0 l) (hA : ∀ b o, A = some ⟨b, o, none⟩ → n₀ ≤ b) (hm : Mod S w w') (hS : ∀ k, S k → k < n₀) : SliceOf w' A 1 (fun x : Nat => [intV x]) 0 l := fun i hi => by
  obtain ⟨b, o, e, h1⟩ := h i hi
  refine ⟨b, o, e, fun j v hv => hm.cell (h1 j v hv) (fun g => ?_)⟩
  have := hA b o e
  have := hS b g
  omega
theorem Grown.all3 {base : World} (h : Grown base w p q g bits) (hT : Tab base) (h0 : 0 < base.heap.size) : Calls Tryd.prog 23 #[.pointer (some ⟨p, 0, none⟩)] w fun e w' => ∃ v, e = .returned v ∧ IntsFar w.heap.size w' v (ones bits) ∧ Grown base w' p q g bits := by
  obtain ⟨ws, hm⟩ := h.map
  exact (all_any hm (hT.below h.below h0)).mono fun e w' ⟨v, he, hr, _, hb⟩ => ⟨v, he, farInts hr, h.on hb⟩
/-- Off again: so many fewer. -/
theorem many_off {b : List Bool} {R : Nat} : ∀ n, R + n ≤ b.length → (∀ i, R ≤ i → i < R + n → b.getD i false = true) → (many (fillL b R false n) : Int) + n = many b
  | 0, _, _ => by simp [fillL]
  | n + 1, hl, h => by
    have ih := many_off n (by omega) (fun i h1 h2 => h i h1 (by omega))
    have hg : (fillL b R false n).getD (R + n) false ≠ false := by
      rw [fillL_get _ _ _ _ _ (by omega), if_neg (by omega), h (R + n) (by omega) (by omega)]; decide
    have := many_set (fillL b R false n) (R + n) (by rw [fillL_length]; omega) false hg
    show (many ((fillL b R false n).set (R + n) false) : Int) + ((n + 1 : Nat) : Int) = many b
    rw [this]
    simp; omega
/-- Behind some R .. R + Q. -/
def out (R Q x : Nat) : Bool := decide (x < R) || decide (R + Q ≤ x)
theorem both_get {R Q : Nat} (h : R + Q ≤ bits.length) (i : Nat) : (fillL (fillL bits R true Q) R false Q).getD i false = (bits.getD i false && out R Q i) := by
  rw [fillL_get _ _ _ _ _ (by rw [fillL_length]; exact h), fillL_get _ _ _ _ _ h]
  unfold out
  by_cases g : R ≤ i ∧ i < R + Q
  · rw [if_pos g]
    have h1 : ¬ i < R := by omega
    have h2 : ¬ R + Q ≤ i := by omega
    simp [h1, h2]
  · rw [if_neg g, if_neg g]
    have : i < R ∨ R + Q ≤ i := by omega
    rcases this with h1 | h1 <;> simp [h1]
theorem both_ones {R Q : Nat} (h : R + Q ≤ bits.length) : ones (fillL (fillL bits R true Q) R false Q) = (ones bits).filter (out R Q) := by
  unfold ones onesTo
  rw [fillL_length, fillL_length, List.filter_filter]
  refine List.filter_congr fun i _ => ?_
  rw [both_get h]
  exact Bool.and_comm _ _
theorem both_many {R Q : Nat} (h : R + Q ≤ bits.length) : many (fillL (fillL bits R true Q) R false Q) = ((ones bits).filter (out R Q)).length ∧ (many (fillL bits R true Q) : Int) = ((ones bits).filter (out R Q)).length + Q := by
  have h1 : many (fillL (fillL bits R true Q) R false Q) = ((ones bits).filter (out R Q)).length := by rw [← ones_len, both_ones h]
  refine ⟨h1, ?_⟩
  have := many_off (b := fillL bits R true Q) (R := R) Q (by rw [fillL_length]; exact h) (fun i g1 g2 => by rw [fillL_get _ _ _ _ _ h, if_pos ⟨g1, g2⟩])
  rw [h1] at this
  omega
theorem rem_nat (a : Int) (d : Nat) (hd : 1 ≤ d) : ∃ R : Nat, (IntKind.u64.wrap a).tmod (d : Int) = (R : Int) ∧ R < d := by
  have h1 : 0 ≤ IntKind.u64.wrap a := by rw [IntKind.wrap_u64]; omega
  obtain ⟨x, hx⟩ : ∃ x : Nat, IntKind.u64.wrap a = x := ⟨(IntKind.u64.wrap a).toNat, by omega⟩
  refine ⟨x % d, ?_, Nat.mod_lt _ hd⟩
  rw [hx]
  rfl
set_option maxRecDepth 100000 in
set_option maxHeartbeats 1000000 in
theorem turns_walk (n : Int) (A : Option Addr) (l : List Act) (c : Nat) (a0 a1 : Int) (hc : l.length ≤ c) (hm : l.length ≤ maxLen) (hS : SliceOf w A 4 actEnc act0 l) (hT : Tab w) (hx1 : -9223372036854775808 ≤ a0) (hx2 : a0 ≤ 9223372036854775807) (hx3 : -9223372036854775808 ≤ a1) (hx4 : a1 ≤ 9223372036854775807) :
    Calls Tryd.prog 6 #[.int .i64 n, .slice A l.length c, .agg #[.int .i64 a0, .int .i64 a1]] w fun e w' => e = .returned (.bool true) ∧ Below w.heap.size w w' := by
  obtain ⟨N, hN⟩ := grown_n n
  have hN2 : N ≤ 300 := by omega
  have hN1 : 1 ≤ N := by omega
  have hb0 := below1 w (.cells #[.int .i64 a0, .int .i64 a1] 45)
  have hbox := heap_alloc_new w (.cells #[.int .i64 a0, .int .i64 a1] 45)
  have hsz : (w.alloc (.cells #[.int .i64 a0, .int .i64 a1] 45)).heap.size = w.heap.size + 1 := World.size_alloc _ _
  go_enter Tryd.func6, Tryd.ntmps6
  go_wp2_with fail
  generalize w.alloc (.cells #[.int .i64 a0, .int .i64 a1] 45) = w0 at *
  have HGR := Lib.hid (grown_any (w := w0) n A l c hc hm (hS.on hb0) N hN)
  have HT := Lib.hid (hT.on hb0)
  have h0 : 0 < w0.heap.size := by have := lt_of_cell (hT 0 (by decide)); omega
  have HB0 := Lib.hid hb0
  have HBX := Lib.hid hbox
  clear hS hT hN hc hm hb0 hbox
  refine HGR.out.mono ?_
  rintro e w1 ⟨p, q, g, bits, rfl, hG, hL⟩
  have HG := Lib.hid hG
  have HBX1 := Lib.hid ((hG.below.block w.heap.size (by omega)).trans HBX.out)
  subst hL
  clear hG
  unfold refV
  go_wp2_with fail
  refine (HG.out.alive2 HT.out h0).mono ?_
  rintro e w2 ⟨rfl, hb⟩
  have HG2 := Lib.hid (HG.out.on hb)
  have HBX2 := Lib.hid ((hb.block w.heap.size (block_lt HBX1.out)).trans HBX1.out)
  clear hb HG
  have e0 : w2.cell? ⟨w.heap.size, 0, none⟩ = some (.int .i64 a0) := (blk_cells HBX2.out 0).trans rfl
  have e1 : w2.cell? ⟨w.heap.size, 1, none⟩ = some (.int .i64 a1) := (blk_cells HBX2.out 1).trans rfl
  have hnz : ¬ (bits.length : Int) = 0 := by omega
  obtain ⟨R, hR, hRN⟩ := rem_nat a0 bits.length hN1
  obtain ⟨Q, hQ, hQN⟩ := rem_nat a1 (bits.length - R + 1) (by omega)
  have hd : ((bits.length - R + 1 : Nat) : Int) = (bits.length : Int) - R + 1 := by omega
  rw [hd] at hQ
  have hnz2 : ¬ ((bits.length : Int) - R + 1) = 0 := by omega
  have hw3 : IntKind.u64.wrap ((bits.length : Int) - R + 1) = (bits.length : Int) - R + 1 := by rw [IntKind.wrap_u64]; omega
  clear hd
  go_wp2_with fail
  refine (HG2.out.all3 HT.out h0).mono ?_
  rintro e w3 ⟨v, rfl, hI, hG⟩
  have HL3 := Lib.hid hG.lone
  have hlb : (ones bits).length ≤ 300 := by have := onesTo_le (bits := bits) bits.length; unfold ones; omega
  obtain ⟨A1, c1, rfl, hc1, hfar, hs1⟩ := hI
  have HF := Lib.hid hfar
  have HS3 := Lib.hid hs1
  have HPQ : Hid (∀ k, Two p q k → k < w2.heap.size) := Lib.hid (by
    obtain ⟨ws, hm⟩ := HG2.out.map
    intro k hk
    rcases hk with rfl | rfl
    · exact hm.plt
    · exact hm.qlt)
  have hRQ : R + Q ≤ bits.length := by omega
  have HC1 := Lib.hid (both_many hRQ).1
  have HC2 := Lib.hid (both_many hRQ).2
  have HGT := Lib.hid (both_get hRQ)
  clear hG hs1 hfar hR hQ hnz hnz2 hw3 e0 e1
  go_wp2_with fail
  refine (HL3.out.fill R Q true hRQ).mono ?_
  rintro e w4 ⟨rfl, hL4, hm4⟩
  have HL4 := Lib.hid hL4
  have HS4 := Lib.hid (sliceOf_mod HS3.out HF.out hm4 HPQ.out)
  clear hL4 hm4 HG2
  generalize hM : (ones bits).length = M at *
  have HM := Lib.hid hM
  clear hM
  go_wp2
  go_loopw [13, 61] (fun v13 v61 wr => ∃ k : Nat, k ≤ M ∧ v13 = .int .i64 ((((ones bits).take k).filter (out R Q)).length : Nat) ∧ v61 = .int .i64 k ∧ wr = w4) (fun _ v61 _ => 400 - (intOf v61).toNat)
  case atStart => exact ⟨0, by omega, by simp, rfl, rfl⟩
  case round =>
    obtain ⟨k, hk, rfl, rfl, rfl⟩ := hrel
    have htl : (((ones bits).take k).filter (out R Q)).length ≤ k := Nat.le_trans (List.length_filter_le _ _) (by rw [List.length_take]; omega)
    by_cases hlt : k < M
    · obtain ⟨b1, o1, rfl, hx⟩ := ints_at HS4.out k (by rw [HM.out]; exact hlt)
      have hst : (ones bits).take (k + 1) = (ones bits).take k ++ [(ones bits).getD k 0] := by
        rw [List.take_succ_eq_append_getElem (by rw [HM.out]; exact hlt)]
        simp [List.getD, show k < (ones bits).length by rw [HM.out]; exact hlt]
      have hstep : (((ones bits).take (k + 1)).filter (out R Q)).length = (((ones bits).take k).filter (out R Q)).length + if out R Q ((ones bits).getD k 0) = true then 1 else 0 := by
        rw [hst, List.filter_append, List.length_append]
        cases h : out R Q ((ones bits).getD k 0) <;> simp [h, - List.getD_eq_getElem?_getD]
      have HST := Lib.hid hstep
      have hy := (ones_at (bits := bits) (i := k) (by rw [HM.out]; exact hlt)).1
      clear hst hstep
      generalize (ones bits).getD k 0 = x at *
      generalize (((ones bits).take k).filter (out R Q)).length = t at *
      by_cases h1 : x < R
      · have ho : out R Q x = true := by simp [out, h1]
        have HO := Lib.hid (HST.out.trans (by rw [ho]; rfl : _ = t + 1))
        clear ho
        go_wp2
        go_roundw
        case rel => exact ⟨k + 1, by omega, by rw [HO.out]; go_num, by go_num, trivial⟩
        case measure => simp [intOf]; omega
      · by_cases h2 : R + Q ≤ x
        · have ho : out R Q x = true := by simp [out, h2]
          have HO := Lib.hid (HST.out.trans (by rw [ho]; rfl : _ = t + 1))
          clear ho
          go_wp2
          go_roundw
          case rel => exact ⟨k + 1, by omega, by rw [HO.out]; go_num, by go_num, trivial⟩
          case measure => simp [intOf]; omega
        · have ho : out R Q x = false := by simp [out]; omega
          have HO := Lib.hid (HST.out.trans (by rw [ho]; rfl : _ = t))
          clear ho
          go_wp2
          go_roundw
          case rel => exact ⟨k + 1, by omega, by rw [HO.out], by go_num, trivial⟩
          case measure => simp [intOf]; omega
    · obtain rfl : k = M := by omega
      have htk : (ones bits).take k = ones bits := List.take_of_length_le (by rw [HM.out]; omega)
      rw [htk] at htl ⊢
      generalize ((ones bits).filter (out R Q)).length = t at *
      clear htk
      go_wp2_with fail
      refine (HL4.out.count).mono ?_
      rintro e w5 ⟨rfl, rfl⟩
      rw [HC2.out]
      go_wp2_with fail
      refine (HL4.out.fill R Q false (by rw [fillL_length]; exact hRQ)).mono ?_
      rintro e w5 ⟨rfl, hL5, hm5⟩
      have HL5 := Lib.hid hL5
      have HS5 := Lib.hid (sliceOf_mod HS4.out HF.out hm5 HPQ.out)
      clear hL5 hm5
      go_wp2_with fail
      refine (HL5.out.count).mono ?_
      rintro e w6 ⟨rfl, rfl⟩
      rw [HC1.out]
      clear hlt hk
      go_wp2
      go_loopw [99] (fun v99 wr => ∃ j : Nat, j ≤ k ∧ v99 = .int .i64 j ∧ wr = w5) (fun v99 _ => 400 - (intOf v99).toNat)
      case atStart => exact ⟨0, by omega, rfl, rfl⟩
      case round =>
        obtain ⟨j, hj, rfl, rfl⟩ := hrel
        by_cases hlt : j < k
        · obtain ⟨b1, o1, rfl, hx⟩ := ints_at HS5.out j (by rw [HM.out]; exact hlt)
          obtain ⟨hy1, hy2⟩ := ones_at (bits := bits) (i := j) (by rw [HM.out]; exact hlt)
          generalize (ones bits).getD j 0 = x at *
          have HH : Hid (Calls Tryd.prog 19 #[.pointer (some ⟨p, 0, none⟩), .int .i64 x] wr fun e w' => e = .returned (.bool (out R Q x)) ∧ wr = w') := Lib.hid (by
            have := HL5.out.has x (by rw [fillL_length, fillL_length]; exact hy1)
            rw [HGT.out, hy2, Bool.true_and] at this
            exact this)
          clear hy2
          by_cases h1 : x < R
          · have ho : out R Q x = true := by simp [out, h1]
            rw [ho] at HH
            clear ho
            go_wp2_with (go_at_call 19; refine HH.out.mono ?_; rintro e w' ⟨rfl, rfl⟩)
            go_roundw
            case rel => exact ⟨j + 1, by omega, by go_num, trivial⟩
            case measure => simp [intOf]; omega
          · by_cases h2 : R + Q ≤ x
            · have ho : out R Q x = true := by simp [out, h2]
              rw [ho] at HH
              have d1 : decide (R + Q ≤ x) = true := decide_eq_true h2
              have d2 : decide ((R : Int) + (Q : Int) ≤ (x : Int)) = true := decide_eq_true (by omega)
              have d3 : ¬ ((x : Int) < (R : Int)) := by omega
              clear ho
              go_wp2_with (go_at_call 19; refine HH.out.mono ?_; rintro e w' ⟨rfl, rfl⟩)
              go_roundw
              case rel => exact ⟨j + 1, by omega, by go_num, trivial⟩
              case measure => simp [intOf]; omega
            · have ho : out R Q x = false := by simp [out]; omega
              rw [ho] at HH
              have d1 : decide (R + Q ≤ x) = false := decide_eq_false h2
              have d2 : decide ((R : Int) + (Q : Int) ≤ (x : Int)) = false := decide_eq_false (by omega)
              have d3 : ¬ ((x : Int) < (R : Int)) := by omega
              clear ho
              go_wp2_with (go_at_call 19; refine HH.out.mono ?_; rintro e w' ⟨rfl, rfl⟩)
              go_roundw
              case rel => exact ⟨j + 1, by omega, by go_num, trivial⟩
              case measure => simp [intOf]; omega
        · obtain rfl : j = k := by omega
          cases hf : FirstL (fillL (fillL bits R true Q) R false Q) R with
          | mk s t2 =>
          have HFI := Lib.hid (HL5.out.firstL HT.out h0 R s t2 hf)
          by_cases hQ0 : Q = 0
          · subst hQ0
            clear hf
            go_wp2_with fail
            refine HFI.out.mono ?_
            rintro e w6 ⟨rfl, rfl⟩
            go_wp2
            go_ret
            exact ⟨rfl, HB0.out.on HL5.out.below⟩
          · have hoff : (fillL (fillL bits R true Q) R false Q).getD R false = false := by
              rw [HGT.out]
              have h1 : ¬ R < R := by omega
              have h2 : ¬ R + Q ≤ R := by omega
              simp [out, h2]
            have hsk := seek_hit (b := false) (bits := fillL (fillL bits R true Q) R false Q) (i := R) (by rw [fillL_length, fillL_length]; exact hRN) hoff
            unfold FirstL at hf
            rw [hsk, if_pos (by rw [fillL_length, fillL_length]; exact hRN)] at hf
            cases hf
            clear hsk hoff
            go_wp2_with fail
            refine HFI.out.mono ?_
            rintro e w6 ⟨rfl, rfl⟩
            have hq : ((Q : Int) == 0) = false := by simp; omega
            go_wp2
            go_ret
            exact ⟨rfl, HB0.out.on HL5.out.below⟩
end Go.Proofs.YtbdpbkblihaeiaaDoor
