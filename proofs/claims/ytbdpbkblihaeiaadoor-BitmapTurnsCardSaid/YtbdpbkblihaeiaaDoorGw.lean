/- grown: the walk. -/
import Derived.Test.YtbdpbkblihaeiaaDoorGr
namespace Go.Proofs.YtbdpbkblihaeiaaDoor
open Go.RowKit
set_option linter.unusedVariables false
set_option linter.unusedSimpArgs false
variable {w w' : World} {p q : Nat} {bits : List Bool} {ws : List Nat} {T T' : TypeId}
def GrownPost (N : Nat) (w : World) (e : Ending) (w' : World) : Prop := ∃ p q g bits, e = .returned (.tuple #[.pointer (some ⟨p, 0, none⟩), refV g N, .bool true]) ∧ Grown w w' p q g bits ∧ bits.length = N
theorem mid_S {base wk : World} {p q g B : Nat} {k a n : Int} {on : Bool} {b : List Bool} (h : MidAt base wk p q g B k a n on bits b) : (wk.cell? ⟨B, 1, none⟩ = some (.int .i64 a) ∧ wk.cell? ⟨B, 2, none⟩ = some (.int .i64 n) ∧ wk.cell? ⟨B, 3, none⟩ = some (.bool on)) ∧ MidS base p q g B k a n on bits b wk := ⟨⟨h.c1, h.c2, h.c3⟩, b, .inr rfl, h⟩
theorem mid_S0 {base wk : World} {p q g B : Nat} {k a n : Int} {on : Bool} (b : List Bool) (h : MidAt base wk p q g B k a n on bits bits) : (wk.cell? ⟨B, 1, none⟩ = some (.int .i64 a) ∧ wk.cell? ⟨B, 2, none⟩ = some (.int .i64 n) ∧ wk.cell? ⟨B, 3, none⟩ = some (.bool on)) ∧ MidS base p q g B k a n on bits b wk := ⟨⟨h.c1, h.c2, h.c3⟩, bits, .inl rfl, h⟩
theorem act_cells {A : Option Addr} {l : List Act} (h : SliceOf w A 4 actEnc act0 l) (k : Nat) (hk : k < l.length) : ∃ b o, A = some ⟨b, o, none⟩ ∧ w.cell? ⟨b, o + k * 4, none⟩ = some (.int .i64 (l.getD k act0).kind) ∧ w.cell? ⟨b, o + k * 4 + 1, none⟩ = some (.int .i64 (l.getD k act0).a) ∧ w.cell? ⟨b, o + k * 4 + 2, none⟩ = some (.int .i64 (l.getD k act0).n) ∧ w.cell? ⟨b, o + k * 4 + 3, none⟩ = some (.bool (l.getD k act0).on) := by
  obtain ⟨b, o, e, h1⟩ := h k hk
  exact ⟨b, o, e, h1 0 _ rfl, h1 1 _ rfl, h1 2 _ rfl, h1 3 _ rfl⟩
theorem mid_done {base : World} {p q g B N : Nat} {k a n m : Int} {on : Bool} {b : List Bool} {c : Int} (h : MidAt base w p q g B k a m on bits b) (hd : Does bits a n on b c true) (hN : bits.length = N) :
    Calls Tryd.prog 52 #[.slice (some ⟨g, 0, none⟩) N N, .int .i64 a, .int .i64 n, .bool on] w fun e w' => e = .returned (.tuple #[]) ∧ Grown base w' p q g b := by
  rcases hd with ⟨_, ha, hn, hl, rfl, rfl⟩ | ⟨h1, _⟩
  · obtain ⟨a, rfl⟩ : ∃ x : Nat, a = x := ⟨a.toNat, by omega⟩
    obtain ⟨n, rfl⟩ : ∃ x : Nat, n = x := ⟨n.toNat, by omega⟩
    simp only [Int.toNat_natCast] at *
    rw [← hN]
    exact (ref_fill h.ref a n on (by omega)).mono fun e w' ⟨he, ht⟩ => ⟨he, h.done ht⟩
  · cases h1
theorem mid_in {g N : Nat} {a n : Int} {ok : Bool} (hN : N ≤ 300) (h : decide (0 ≤ n ∧ 0 ≤ a ∧ a ≤ N ∧ n ≤ N - a) = ok) (w : World) :
    Calls Tryd.prog 51 #[.slice (some ⟨g, 0, none⟩) N N, .int .i64 a, .int .i64 n] w fun e w' => e = .returned (.bool ok) ∧ w = w' := by
  rw [← h]
  exact ref_in g N a n w (by omega)
theorem does_off {a n : Int} {on : Bool} {b : List Bool} {c : Int} (hd : Does bits a n on b c false) : b = bits := by
  rcases hd with ⟨h1, _⟩ | ⟨_, _, h, _⟩
  · cases h1
  · exact h
set_option maxRecDepth 100000 in
set_option maxHeartbeats 1000000 in
theorem grown_any (n : Int) (A : Option Addr) (l : List Act) (c : Nat) (hc : l.length ≤ c) (hm : l.length ≤ maxLen) (hS : SliceOf w A 4 actEnc act0 l) (N : Nat) (hN : (N : Int) = 1 + (max 0 n) % 300) :
    Calls Tryd.prog 25 #[.int .i64 n, .slice A l.length c] w (GrownPost N w) := by
  unfold maxLen at hm
  have hN1 : 1 ≤ N := by omega
  have hN2 : N ≤ 300 := by omega
  have HNe := Lib.hid hN
  have HS := Lib.hid hS
  clear hS hN
  have hmax : (if (0 : Int) < n then n else 0) = max 0 n := by omega
  go_enter Tryd.func25, Tryd.ntmps25
  go_wp2_with fail
  rw [← HNe.out]
  refine (new_in N w hN1 (by omega)).mono ?_
  rintro e w1 ⟨rfl, hM1, hb1⟩
  have HM1 := Lib.hid hM1
  have HB1 := Lib.hid hb1
  have hs1 := hb1.size
  clear hM1 hb1
  have hle1 := HM1.out.plt
  go_wp2_with fail
  refine (ref_new N w1 (by omega)).mono ?_
  rintro e w2 ⟨rfl, hR2, hb2⟩
  have HG : Hid (Grown w w2 (w.heap.size + 1) w.heap.size w1.heap.size (List.replicate N false)) := Lib.hid ⟨⟨_, HM1.out.on hb2⟩, hR2, HB1.out.on hb2, by omega, by omega, by omega, by omega, by omega, by simpa using hN2⟩
  have HLN : Hid ((List.replicate N false).length = N) := Lib.hid List.length_replicate
  clear hR2 hb2
  unfold refV
  generalize hp : w.heap.size + 1 = p at *
  generalize hg : w1.heap.size = g at *
  go_wp2_with fail
  all_goals
    go_loopw [37] (fun v37 wr => ∃ (k : Nat) (bits : List Bool), k ≤ min l.length 60 ∧ v37 = .int .i64 k ∧ Hid (Grown w wr p w.heap.size g bits) ∧ Hid (bits.length = N)) (fun v37 _ => 61 - (intOf v37).toNat)
    case atStart => exact ⟨0, _, by omega, rfl, HG, HLN⟩
    case round =>
      obtain ⟨k, bits, hk, rfl, HG1, HL1⟩ := hrel
      by_cases hlt : k < min l.length 60
      · have hx1 : (k : Int) < 60 := by omega
        have hx2 : (k : Int) < (l.length : Int) := by omega
        have hx3 : (k : Int) < max 60 0 := by omega
        have hx4 : (k : Int) < max (l.length : Int) 0 := by omega
        obtain ⟨b, o, rfl, e0, e1, e2, e3⟩ := act_cells (HS.out.on HG1.out.below) k (by omega)
        generalize l.getD k act0 = x at *
        obtain ⟨xk, xa, xn, xo⟩ := x
        have HM0 := Lib.hid (HG1.out.mid xk xa xn xo)
        dsimp only at e0 e1 e2 e3
        by_cases hk0 : xk = 0
        · subst hk0
          obtain ⟨b', c', ok, hd, hdec⟩ := does_some bits xa 1 xo
          rw [HL1.out] at hdec
          have HD := Lib.hid hd
          obtain ⟨rfl, rfl⟩ | ⟨rfl, rfl⟩ : (ok = true ∧ c' = 0) ∨ (ok = false ∧ c' = 3) := by
            rcases hd with ⟨h1, _, _, _, _, h2⟩ | ⟨h1, _, _, h2⟩
            · exact .inl ⟨h1, h2⟩
            · exact .inr ⟨h1, h2⟩
          all_goals
            have HIN := Lib.hid (mid_in (g := g) (N := N) hN2 hdec)
            clear hd hdec
            go_wp2_with fail
            go_region_held3 (fun wk => (wk.cell? ⟨wr.heap.size, 1, none⟩ = some (.int .i64 xa) ∧ wk.cell? ⟨wr.heap.size, 2, none⟩ = some (.int .i64 xn) ∧ wk.cell? ⟨wr.heap.size, 3, none⟩ = some (.bool xo)) ∧ MidS w p w.heap.size g wr.heap.size 0 xa xn xo bits b' wk) (first | assumption | exact mid_S (by assumption) | exact mid_S0 _ HM0.out | exact mid_S0 _ (HM0.out.on (Below.drew (Below.refl _ _)))) (first | (go_at_call 51; refine (HIN.out _).mono ?_; rintro e w9 ⟨rfl, rfl⟩) | (go_at_call 20; refine (mid_set (And.right (by assumption)) HD.out).mono ?_; rintro e w9 ⟨rfl, hM9⟩))
            have h91 := hM9.c1
            have h92 := hM9.c2
            have h93 := hM9.c3
            have h94 := blk_thaw hM9.act 2
            have h101 := (hM9.setN 1).c1
            have h102 := (hM9.setN 1).c2
            have h103 := (hM9.setN 1).c3
            have HM10 := Lib.hid (hM9.setN 1)
            clear hM9
          · have HF := Lib.hid (mid_done HM10.out HD.out HL1.out)
            go_wp2_with fail
            refine HF.out.mono ?_
            rintro e w11 ⟨rfl, hG11⟩
            have HG11 := Lib.hid hG11
            clear hG11
            go_wp2
            go_roundw
            case rel => exact ⟨k + 1, b', by omega, by go_num, HG11, Lib.hid (HM10.out.same.trans HL1.out)⟩
            case measure => simp [intOf]; omega
          · have HG11 := Lib.hid (HM10.out.grown (does_off HD.out))
            go_wp2
            go_roundw
            case rel => exact ⟨k + 1, bits, by omega, by go_num, HG11, HL1⟩
            case measure => simp [intOf]; omega
        · by_cases hk1 : xk = 1
          · subst hk1
            obtain ⟨b', c', ok, hd, hdec⟩ := does_some bits xa xn xo
            rw [HL1.out] at hdec
            have HD := Lib.hid hd
            obtain ⟨rfl, rfl⟩ | ⟨rfl, rfl⟩ : (ok = true ∧ c' = 0) ∨ (ok = false ∧ c' = 3) := by
              rcases hd with ⟨h1, _, _, _, _, h2⟩ | ⟨h1, _, _, h2⟩
              · exact .inl ⟨h1, h2⟩
              · exact .inr ⟨h1, h2⟩
            all_goals
              have HIN := Lib.hid (mid_in (g := g) (N := N) hN2 hdec)
              clear hd hdec
              go_wp2_with fail
              go_region_held3 (fun wk => (wk.cell? ⟨wr.heap.size, 1, none⟩ = some (.int .i64 xa) ∧ wk.cell? ⟨wr.heap.size, 2, none⟩ = some (.int .i64 xn) ∧ wk.cell? ⟨wr.heap.size, 3, none⟩ = some (.bool xo)) ∧ MidS w p w.heap.size g wr.heap.size 1 xa xn xo bits b' wk) (first | assumption | exact mid_S (by assumption) | exact mid_S0 _ HM0.out | exact mid_S0 _ (HM0.out.on (Below.drew (Below.refl _ _)))) (first | (go_at_call 51; refine (HIN.out _).mono ?_; rintro e w9 ⟨rfl, rfl⟩) | (go_at_call 21; refine (mid_fill (And.right (by assumption)) HD.out).mono ?_; rintro e w9 ⟨rfl, hM9⟩))
              have h91 := hM9.c1
              have h92 := hM9.c2
              have h93 := hM9.c3
              have HM10 := Lib.hid hM9
              clear hM9
            · have HF := Lib.hid (mid_done HM10.out HD.out HL1.out)
              go_wp2_with fail
              refine HF.out.mono ?_
              rintro e w11 ⟨rfl, hG11⟩
              have HG11 := Lib.hid hG11
              clear hG11
              go_wp2
              go_roundw
              case rel => exact ⟨k + 1, b', by omega, by go_num, HG11, Lib.hid (HM10.out.same.trans HL1.out)⟩
              case measure => simp [intOf]; omega
            · have HG11 := Lib.hid (HM10.out.grown (does_off HD.out))
              go_wp2
              go_roundw
              case rel => exact ⟨k + 1, bits, by omega, by go_num, HG11, HL1⟩
              case measure => simp [intOf]; omega
          · have d0 : (xk == 0) = false := by simp; omega
            have d1 : (xk == 1) = false := by simp; omega
            have HG11 := Lib.hid (HG1.out.on (below1 wr (.cells #[.int .i64 xk, .int .i64 xa, .int .i64 xn, .bool xo] 97)))
            go_wp2
            go_roundw
            case rel => exact ⟨k + 1, bits, by omega, by go_num, HG11, HL1⟩
            case measure => simp [intOf]; omega
      · first
          | (have hx : ¬ (k : Int) < max (l.length : Int) 0 := by omega
             go_wp2
             go_ret3
             exact ⟨_, _, _, _, rfl, HG1.out, HL1.out⟩)
          | (have hx : ¬ (k : Int) < max 60 0 := by omega
             go_wp2
             go_ret3
             exact ⟨_, _, _, _, rfl, HG1.out, HL1.out⟩)
end Go.Proofs.YtbdpbkblihaeiaaDoor
