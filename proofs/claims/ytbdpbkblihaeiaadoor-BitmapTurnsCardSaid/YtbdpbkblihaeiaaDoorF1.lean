/- BitmapFirst: a walk. -/
import Derived.Test.YtbdpbkblihaeiaaDoorGw
namespace Go.Proofs.YtbdpbkblihaeiaaDoor
open Go.RowKit
set_option linter.unusedVariables false
set_option linter.unusedSimpArgs false
variable {w w' : World} {p q g : Nat} {bits : List Bool} {ws : List Nat} {T T' : TypeId}
theorem Grown.has {base : World} (h : Grown base w p q g bits) (i : Nat) (hi : i < bits.length) : Calls Tryd.prog 19 #[.pointer (some ⟨p, 0, none⟩), .int .i64 i] w fun e w' => e = .returned (.bool (bits.getD i false)) ∧ w = w' := by
  obtain ⟨ws, hm⟩ := h.map
  exact has_in hm i hi
theorem Grown.first {base : World} (h : Grown base w p q g bits) (hT : Tab base) (h0 : 0 < base.heap.size) (a : Int) : Calls Tryd.prog 15 #[.pointer (some ⟨p, 0, none⟩), .int .i64 a] w fun e w' =>
    (∃ s : Nat, e = .returned (.tuple #[.int .i64 s, .bool true]) ∧ seek false bits a.toNat = s ∧ s < bits.length ∧ bits.getD s false = false ∧ a.toNat ≤ s ∧ w = w') ∨ (e = .returned (.tuple #[.int .i64 0, .bool false]) ∧ seek false bits a.toNat = bits.length ∧ w = w') := by
  obtain ⟨ws, hm⟩ := h.map
  refine (first_any hm (hT.below h.below h0) a).mono fun e w' ⟨he, hw⟩ => ?_
  rcases first_cases bits a.toNat with ⟨s, h1, h2, h3, h4⟩ | ⟨h1, h2⟩
  · refine .inl ⟨s, by rw [he, h1], h2, h3, h4, ?_, hw⟩
    rcases Nat.le_total a.toNat bits.length with g | g
    · have := seek_ge (b := false) g; omega
    · rw [seek_end g] at h2; omega
  · exact .inr ⟨by rw [he, h1]; rfl, h2, hw⟩
theorem Grown.alive {base : World} (h : Grown base w p q g bits) (hT : Tab base) (h0 : 0 < base.heap.size) : Calls Tryd.prog 17 #[] w fun e w' => e = .returned (.bool true) ∧ Grown base w' p q g bits :=
  (alive_any (hT.below h.below h0)).mono fun e w' ⟨he, hb⟩ => ⟨he, h.on hb⟩
theorem on_between {a : Int} {N : Nat} (h : Hid (seek false bits a.toNat = bits.length)) (hL : bits.length = N) : Hid (∀ j, a.toNat ≤ j → j < N → bits.getD j false = true) := Lib.hid fun j g1 g2 => by
  have := seek_between (b := false) (bits := bits) g1 (by rw [h.out, hL]; exact g2)
  simpa using this
theorem grown_n (n : Int) : ∃ N : Nat, (N : Int) = 1 + (max 0 n) % 300 := ⟨(1 + (max 0 n) % 300).toNat, by omega⟩
set_option maxRecDepth 100000 in
set_option maxHeartbeats 1000000 in
theorem first_walk (n : Int) (A : Option Addr) (l : List Act) (c : Nat) (a : Int) (hc : l.length ≤ c) (hm : l.length ≤ maxLen) (hS : SliceOf w A 4 actEnc act0 l) (hT : Tab w) (ha1 : -9223372036854775808 ≤ a) (ha2 : a ≤ 9223372036854775807) :
    Calls Tryd.prog 7 #[.int .i64 n, .slice A l.length c, .int .i64 a] w fun e w' => e = .returned (.bool true) ∧ Below w.heap.size w w' := by
  obtain ⟨N, hN⟩ := grown_n n
  have hN2 : N ≤ 300 := by omega
  have HGR := Lib.hid (grown_any (w := w) n A l c hc hm hS N hN)
  have HT := Lib.hid hT
  have h0 : 0 < w.heap.size := lt_of_cell (hT 0 (by decide))
  clear hS hT hN hc hm
  go_enter Tryd.func7, Tryd.ntmps7
  go_wp2_with fail
  refine HGR.out.mono ?_
  rintro e w1 ⟨p, q, g, bits, rfl, hG, hL⟩
  have HG := Lib.hid hG
  have HL := Lib.hid hL
  clear hG hL
  unfold refV
  go_wp2_with fail
  refine (HG.out.alive HT.out h0).mono ?_
  rintro e w2 ⟨rfl, hG⟩
  have HG2 := Lib.hid hG
  clear hG HG
  go_wp2_with fail
  all_goals
    refine (HG2.out.first HT.out h0 _).mono ?_
    rintro e w3 (⟨s, rfl, hs1, hs2, hs3, hs4, rfl⟩ | ⟨rfl, hs1, rfl⟩)
    · have HS1 := Lib.hid hs1
      have HS3 := Lib.hid hs3
      have hsN : s < N := by rw [← HL.out]; exact hs2
      clear hs1 hs3
      go_wp2_with fail
      all_goals
        go_loopw [13] (fun v13 wr => ∃ k : Nat, v13 = .int .i64 k ∧ k ≤ s ∧ wr = w2 ∧ Hid (∀ j, k ≤ j → j < s → bits.getD j false = true)) (fun v13 _ => 400 - (intOf v13).toNat)
        case atStart =>
          refine ⟨_, ?_, hs4, rfl, Lib.hid (fun j g1 g2 => ?_)⟩
          · first | rfl | (congr 1; omega)
          · have := seek_between (b := false) (bits := bits) g1 (by rw [HS1.out]; exact g2)
            simpa using this
        case round =>
          obtain ⟨k, rfl, hk, rfl, HA⟩ := hrel
          by_cases hlt : k < s
          · have hon := HA.out k (Nat.le_refl _) hlt
            have HH := Lib.hid (show Calls Tryd.prog 19 #[.pointer (some ⟨p, 0, none⟩), .int .i64 k] wr fun e w' => e = .returned (.bool true) ∧ wr = w' by rw [← hon]; exact HG2.out.has k (by omega))
            clear hon
            go_wp2_with (go_at_call 19; refine HH.out.mono ?_; rintro e w' ⟨rfl, rfl⟩)
            go_roundw
            case rel => exact ⟨k + 1, by go_num, by omega, trivial, Lib.hid (fun j g1 g2 => HA.out j (by omega) g2)⟩
            case measure => simp [intOf]; omega
          · obtain rfl : k = s := by omega
            have HH := Lib.hid (show Calls Tryd.prog 19 #[.pointer (some ⟨p, 0, none⟩), .int .i64 k] wr fun e w' => e = .returned (.bool false) ∧ wr = w' by rw [← HS3.out]; exact HG2.out.has k hs2)
            go_wp2_with (go_at_call 19; refine HH.out.mono ?_; rintro e w' ⟨rfl, rfl⟩)
            all_goals
              go_ret
              exact ⟨rfl, HG2.out.below⟩
    · have HS1 := Lib.hid hs1
      clear hs1
      go_wp2_with fail
      all_goals
        go_loopw [13] (fun v13 wr => ∃ k : Nat, v13 = .int .i64 k ∧ wr = w2 ∧ Hid (∀ j, k ≤ j → j < N → bits.getD j false = true)) (fun v13 _ => 400 - (intOf v13).toNat)
        case atStart =>
          refine ⟨_, ?_, rfl, on_between HS1 HL.out⟩
          first | rfl | (congr 1; omega)
        case round =>
          obtain ⟨k, rfl, rfl, HA⟩ := hrel
          by_cases hlt : k < N
          · have hon := HA.out k (Nat.le_refl _) hlt
            have hkb : k < bits.length := by rw [HL.out]; exact hlt
            have HH := Lib.hid (show Calls Tryd.prog 19 #[.pointer (some ⟨p, 0, none⟩), .int .i64 k] wr fun e w' => e = .returned (.bool true) ∧ wr = w' by rw [← hon]; exact HG2.out.has k hkb)
            clear hon hkb
            go_wp2_with (go_at_call 19; refine HH.out.mono ?_; rintro e w' ⟨rfl, rfl⟩)
            go_roundw
            case rel => exact ⟨k + 1, by go_num, trivial, Lib.hid (fun j g1 g2 => HA.out j (by omega) g2)⟩
            case measure => simp [intOf]; omega
          · go_wp2
            all_goals
              go_ret
              exact ⟨rfl, HG2.out.below⟩
end Go.Proofs.YtbdpbkblihaeiaaDoor
