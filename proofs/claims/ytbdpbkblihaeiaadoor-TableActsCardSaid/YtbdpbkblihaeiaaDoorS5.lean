/- TableActs: a walk. -/
import Derived.Test.YtbdpbkblihaeiaaDoorRz
import Derived.Test.YtbdpbkblihaeiaaDoorRx
import Derived.Test.YtbdpbkblihaeiaaDoorS3
namespace Go.Proofs.YtbdpbkblihaeiaaDoor
open Go.RowKit
set_option linter.unusedVariables false
set_option linter.unusedSimpArgs false
variable {w w' base : World} {B S p q bd : Nat} {l : List Slot} {v : Value} {told : List (Int × Int)}
theorem refOf_new (K : Nat) : (List.replicate K slot0).map refOf = List.replicate K slot1 := by rw [List.map_replicate]; rfl
theorem TS.raise (h : TS base w B S p q bd l (.slice none 0 0) []) : TS base w B S p q w.heap.size l (.slice none 0 0) [] := by
  have h1 := h.lB
  have h2 := h.lS
  have h3 := h.lp
  have h4 := h.lq
  have h5 := h.le
  exact { h with lB := by omega, lS := by omega, lp := by omega, lq := by omega, le := Nat.le_refl _, row := World.ownsRow_nil _ _ _ _ }
theorem TR.start {K : Nat} (h : TS base w B S p q bd (List.replicate K slot0) (.slice none 0 0) []) (hr : RefT w' w.heap.size (List.replicate K slot1)) (hb : Below w.heap.size w w') : TR base w' B S p q w'.heap.size (List.replicate K slot0) (.slice none 0 0) [] w.heap.size ((List.replicate K slot0).map refOf) := by
  have h1 := h.lB
  have h2 := h.lS
  have h3 := h.lp
  have h4 := h.lq
  have h5 := h.le
  exact ⟨(h.on hb).raise, by rw [refOf_new]; exact hr, block_lt hr.body, h.below.size, by omega, by omega, by omega, by omega⟩
set_option maxRecDepth 100000 in
set_option maxHeartbeats 4000000 in
theorem tacts_walk (n : Int) (A : Option Addr) (al : List Act7) (c : Nat) (hc : al.length ≤ c) (hm : al.length ≤ maxLen) (hS : SliceOf w A 9 act7Enc act70 al) (hT : Tab w) :
    Calls Tryd.prog 13 #[.int .i64 n, .slice A al.length c] w fun e w' => e = .returned (.bool true) ∧ Below w.heap.size w w' := by
  unfold maxLen at hm
  obtain ⟨K, hK⟩ := grown7_n n 8 (by decide)
  have hK1 : 1 ≤ K := by omega
  have hK2 : K ≤ 8 := by omega
  have HK := Lib.hid hK
  have HS := Lib.hid hS
  have HT := Lib.hid hT
  have h0 : 0 < w.heap.size := lt_of_cell (hT 0 (by decide))
  clear hS hK hT
  have hmax : (if (0 : Int) < n then n else 0) = max 0 n := by omega
  go_enter Tryd.func13, Tryd.ntmps13
  go_wp2_with fail
  rw [← HK.out]
  refine (tnew_ts K w hK1 (by omega)).mono ?_
  rintro e w1 ⟨B, S, p, q, rfl, hS⟩
  have HS1 := Lib.hid hS
  generalize w1.heap.size = bd at *
  clear hS hmax
  go_wp2_with fail
  refine (HS1.out.alive HT.out h0).mono ?_
  rintro e w2 ⟨rfl, hb, hS⟩
  have HS2 := Lib.hid hS
  clear hb hS HS1
  by_cases hlong : 100 < al.length
  · go_wp2_with fail
    refine (HS2.out.alive HT.out h0).mono ?_
    rintro e w3 ⟨rfl, hb, hS⟩
    have HS3 := Lib.hid hS
    clear hb hS
    go_wp2
    go_ret
    exact ⟨rfl, HS3.out.below⟩
  · go_wp2_with fail
    refine (rnew_any K w2 hK2).mono ?_
    rintro e w3 ⟨rfl, hr, hb⟩
    have HR0 : Hid (TR w w3 B S p q w3.heap.size (List.replicate K slot0) (.slice none 0 0) [] w2.heap.size ((List.replicate K slot0).map refOf)) := Lib.hid (TR.start HS2.out hr hb)
    clear hr hb HS2
    unfold refVal
    rw [List.length_replicate]
    generalize w2.heap.size = G at *
    generalize w3.heap.size = bd at *
    go_wp2_with fail
    go_loopw [9, 54] (fun v9 v54 wr => ∃ (k : Nat) (l : List Slot) (told : List (Int × Int)), k ≤ al.length ∧ v54 = .int .i64 k ∧ Hid (TR w wr B S p q bd l v9 told G (l.map refOf)) ∧ Hid (l.length = K) ∧ told.length ≤ k) (fun _ v54 _ => al.length - (intOf v54).toNat)
    case atStart => exact ⟨0, _, [], by omega, rfl, HR0, Lib.hid List.length_replicate, by simp⟩
    case round =>
      obtain ⟨k, l, told, hk, rfl, HRk, HLk, htold⟩ := hrel
      clear HR0
      by_cases hlt : k < al.length
      · obtain ⟨b, o, rfl, e1⟩ := act7_cells (HS.out.on HRk.out.ts.below) k hlt
        obtain ⟨A2, c2, rfl, hc2, _⟩ := own_any HRk.out.ts.row
        generalize al.getD k act70 = x at e1
        obtain ⟨xk, xw, xr, xi, xg, ⟨xa, xre, xh, xp⟩⟩ := x
        have d0 := e1 0 _ rfl
        have d1 := e1 1 _ rfl
        have d2 := e1 2 _ rfl
        have d3 := e1 3 _ rfl
        have d4 := e1 4 _ rfl
        have d5 := e1 5 _ rfl
        have d6 := e1 6 _ rfl
        have d7 := e1 7 _ rfl
        have d8 := e1 8 _ rfl
        rw [Nat.add_zero] at d0
        have HC : Hid (∀ X, TR w X B S p q bd l (.slice A2 told.length c2) told G (l.map refOf) → Calls Tryd.prog 44 #[act7V ⟨xk, xw, xr, xi, xg, ⟨xa, xre, xh, xp⟩⟩, .pointer (some ⟨B, 0, none⟩), .slice (some ⟨G, 0, none⟩) K K, .slice A2 told.length c2] X (DoPost w B S p q bd G K told.length)) := Lib.hid (fun X hX => by
          have := do_any K A2 c2 hX HT.out h0 ⟨xk, xw, xr, xi, xg, ⟨xa, xre, xh, xp⟩⟩ (by omega) HLk.out
          unfold refT at this
          rw [HLk.out] at this
          exact this)
        have HR1 := Lib.hid (HRk.out.put (.cells #[.int .i64 xk, .int .i64 xw, .bool xr, .int .i64 xi, .int .i64 xg, .int .i64 xa, .int .i64 xre, .bool xh, .bool xp] 70))
        clear e1
        go_wp2_with fail
        refine (HC.out _ HR1.out).mono ?_
        rintro e w4 ⟨l', v', told', rfl, h', hl', ht'⟩
        have H' := Lib.hid h'
        have HL' := Lib.hid hl'
        clear h' hl' HR1 HC HRk HLk d0 d1 d2 d3 d4 d5 d6 d7 d8
        go_wp2
        go_roundw
        case rel => exact ⟨k + 1, l', told', by omega, by go_num, H', HL', by omega⟩
        case measure => simp [intOf]; omega
      · obtain rfl : k = al.length := by omega
        have HAN := Lib.hid (at_no HRk.out.ts.tab (-1) (.inl (by decide)))
        go_wp2_with fail
        refine HAN.out.mono ?_
        rintro e w4 ⟨rfl, hb⟩
        have HR4 := Lib.hid ((HRk.out.on hb).put (.cells #[.int .i64 0, .int .i64 0] 57))
        have HAK := Lib.hid (at_no HR4.out.ts.tab (K : Int) (.inr (.inl (by rw [HLk.out]; exact Int.le_refl _))))
        clear hb HAN HRk
        unfold tokV
        go_wp2_with fail
        refine HAK.out.mono ?_
        rintro e w5 ⟨rfl, hb⟩
        have HR5 := Lib.hid ((HR4.out.on hb).put (.cells #[.int .i64 0, .int .i64 0] 57))
        have HSM := Lib.hid (by
          have := tsame_any HR5.out.ts.tab HR5.out.ref (HR5.out.ts.baseTab HT.out h0) HR5.out.ts.tab.gen
          unfold refT at this
          rw [HLk.out] at this
          exact this)
        clear hb HAK HR4
        unfold tokV
        go_wp2_with fail
        refine HSM.out.mono ?_
        rintro e w6 ⟨rfl, hb⟩
        have HR6 := Lib.hid (HR5.out.on hb)
        clear hb HSM HR5
        go_wp2
        go_ret
        exact ⟨rfl, HR6.out.ts.below⟩
end Go.Proofs.YtbdpbkblihaeiaaDoor
