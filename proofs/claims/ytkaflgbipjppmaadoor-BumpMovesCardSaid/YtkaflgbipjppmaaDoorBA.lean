/- Acts on spaces as a slice; great: walks. BumpActs: a walk. -/
import Derived.Test.YtkaflgbipjppmaaDoorTA
import Derived.Test.YtkaflgbipjppmaaDoorAl9
namespace Go.Proofs.YtkaflgbipjppmaaDoor
section
open Go Go.RowKit
set_option linter.unusedVariables false
set_option linter.unusedSimpArgs false
variable {base w w' : World}
structure Act9 where
  kind : Int
  which : Int
  n : Int
  raw : Bool
def act9Enc (x : Act9) : List Value := [.int .i64 x.kind, .int .i64 x.which, .int .i64 x.n, .bool x.raw]
def act90 : Act9 := ⟨0, 0, 0, false⟩
theorem act9_cells {A : Option Addr} {l : List Act9} (h : SliceOf w A 4 act9Enc act90 l) (k : Nat) (hk : k < l.length) : ∃ b o, A = some ⟨b, o, none⟩ ∧ w.cell? ⟨b, o + k * 4, none⟩ = some (.int .i64 (l.getD k act90).kind) ∧ w.cell? ⟨b, o + k * 4 + 1, none⟩ = some (.int .i64 (l.getD k act90).which) ∧ w.cell? ⟨b, o + k * 4 + 2, none⟩ = some (.int .i64 (l.getD k act90).n) ∧ w.cell? ⟨b, o + k * 4 + 3, none⟩ = some (.bool (l.getD k act90).raw) := by
  obtain ⟨b, o, e, h1⟩ := h k hk
  exact ⟨b, o, e, h1 0 _ rfl, h1 1 _ rfl, h1 2 _ rfl, h1 3 _ rfl⟩
def big9 (x : Act9) : Bool := decide (x.kind = 0) && decide (100000 < x.n)
def great9 (l : List Act9) : Bool := decide (60 < l.length) || l.any big9
set_option maxRecDepth 100000 in
set_option maxHeartbeats 1000000 in
theorem great_any (A : Option Addr) (l : List Act9) (cp : Nat) (hl : l.length ≤ cp) (hm : l.length ≤ maxLen) (hS : SliceOf w A 4 act9Enc act90 l) :
    Calls Tryd.prog 45 #[.slice A l.length cp] w fun e w' => e = .returned (.bool (great9 l)) ∧ Below w.heap.size w w' := by
  unfold maxLen at hm
  have HS := Lib.hid hS
  clear hS
  go_enter Tryd.func45, Tryd.ntmps45
  by_cases hlong : 60 < l.length
  · have hl' : (60 : Int) < (l.length : Int) := by omega
    have HG : Hid (great9 l = true) := Lib.hid (by unfold great9; rw [decide_eq_true hlong]; rfl)
    clear hlong
    go_wp2
    go_ret
    rw [HG.out]
    exact ⟨rfl, Below.refl _ _⟩
  · have hl' : ¬ (60 : Int) < (l.length : Int) := by omega
    have HNL := Lib.hid hlong
    clear hlong
    go_wp2
    go_loopw [10] (fun v10 wr => ∃ k : Nat, k ≤ l.length ∧ v10 = .int .i64 k ∧ Hid ((l.take k).any big9 = false ∧ Below w.heap.size w wr)) (fun v10 _ => l.length - (intOf v10).toNat)
    case atStart => exact ⟨0, by omega, rfl, Lib.hid ⟨by simp, Below.refl _ _⟩⟩
    case round =>
      obtain ⟨k, hk, rfl, HR⟩ := hrel
      by_cases hlt : k < l.length
      · obtain ⟨b, o, rfl, e0, e1, e2, e3⟩ := act9_cells (HS.out.on HR.out.2) k hlt
        have hmem : l.getD k act90 ∈ l := by
          have : l.getD k act90 = l[k] := by simp [List.getD, hlt]
          rw [this]; exact List.getElem_mem hlt
        have htk : l.take (k + 1) = l.take k ++ [l.getD k act90] := by rw [List.take_add_one]; simp [List.getD, hlt]
        generalize l.getD k act90 = x at *
        obtain ⟨xk, xw, xn, xr⟩ := x
        dsimp only at e0 e1 e2 e3
        have tk := heap_alloc_new wr (.cells #[.int .i64 xk, .int .i64 xw, .int .i64 xn, .bool xr] 83)
        have k0 := (blk_cells tk 0).trans rfl
        have k2 := (blk_cells tk 2).trans rfl
        have HB := Lib.hid (HR.out.2.on (below1 wr (.cells #[.int .i64 xk, .int .i64 xw, .int .i64 xn, .bool xr] 83)))
        have HTK := Lib.hid htk
        have HME := Lib.hid hmem
        clear tk htk hmem
        by_cases h0 : xk = 0
        · by_cases h1 : 100000 < xn
          · have HG : Hid (great9 l = true) := Lib.hid (by unfold great9; rw [List.any_eq_true.2 ⟨_, HME.out, by simp [big9, h0, h1]⟩, Bool.or_true])
            subst h0
            go_wp2
            go_ret
            rw [HG.out]
            exact ⟨rfl, HB.out⟩
          · have HN : Hid ((l.take (k + 1)).any big9 = false) := Lib.hid (by rw [HTK.out, List.any_append, HR.out.1]; simp [big9, h1])
            subst h0
            go_wp2
            go_roundw
            case rel => exact ⟨k + 1, by omega, by go_num, Lib.hid ⟨HN.out, HB.out⟩⟩
            case measure => simp [intOf]; omega
        · have HN : Hid ((l.take (k + 1)).any big9 = false) := Lib.hid (by rw [HTK.out, List.any_append, HR.out.1]; simp [big9, h0])
          have hb : (xk == 0) = false := by simp [h0]
          clear h0
          go_wp2
          go_roundw
          case rel => exact ⟨k + 1, by omega, by go_num, Lib.hid ⟨HN.out, HB.out⟩⟩
          case measure => simp [intOf]; omega
      · obtain rfl : k = l.length := by omega
        have HG : Hid (great9 l = false) := Lib.hid (by
          have h1 := HR.out.1
          rw [List.take_length] at h1
          unfold great9; rw [decide_eq_false HNL.out, h1]; rfl)
        go_wp2
        go_ret
        rw [HG.out]
        exact ⟨rfl, HR.out.2⟩
end
section
open Go Go.RowKit
set_option linter.unusedVariables false
set_option linter.unusedSimpArgs false
variable {base w w' : World} {B Wb Ob p q G Wg Og size bd nc P0 P1 D0 D1 : Nat} {W W' own own' : List Int} {x y : PSp} {z t : DSp} {o0 o1 : Int}
/-- The twin state at the start. -/
theorem twx_new {w5 : World} {n : Nat} (h2 : TwoAt w5 B Wb Ob p q (List.replicate (nc * n) 0) n (List.replicate nc 0) base.heap.size P0 P1 (.slice none 0 0) (.slice none 0 0) [] [] 0 0 0 0) (hr : RefSt w5 G Wg Og (List.replicate (nc * n) 0) n (List.replicate nc 0)) (hd0 : DocAt w5 D0 G base.heap.size 1 (.slice none 0 0) [] (-1) 0) (hd1 : DocAt w5 D1 G base.heap.size 2 (.slice none 0 0) [] (-1) 0) (hne : D0 ≠ D1)
    (hap : Apart9 B Wb Ob p q G Wg Og) (hb : Below base.heap.size base w5) (hhi : ∀ k, Five B Wb Ob p q k ∨ k = G ∨ k = Wg ∨ k = Og ∨ k = P0 ∨ k = P1 ∨ k = D0 ∨ k = D1 → base.heap.size ≤ k) : TwX base w5 B Wb Ob p q G Wg Og n nc P0 P1 D0 D1 1 2 := by
  have hs1 := hr.s1
  have hs2 := hr.s2
  have ho2 := hr.o2
  refine ⟨_, _, ⟨P0, 1, .slice none 0 0, [], 0, 0⟩, ⟨P1, 2, .slice none 0 0, [], 0, 0⟩, ⟨D0, 1, .slice none 0 0, [], -1, 0⟩, ⟨D1, 2, .slice none 0 0, [], -1, 0⟩, ⟨⟨h2.st, h2.s0, h2.s1, h2.ne, fun k e => by cases e⟩, ⟨hr, hd0, hd1, hne, fun k e => by cases e⟩, ⟨⟨rfl, rfl, .inl ⟨rfl, rfl, rfl, rfl⟩, SpInv.nil _ _⟩, ⟨rfl, rfl, .inl ⟨rfl, rfl, rfl, rfl⟩, SpInv.nil _ _⟩, show (1 : Int) ≠ 2 by decide, show (1 : Int) ≤ 1 by decide, show (1 : Int) ≤ 2 by decide, ho2, hs1, hs2⟩, by simp, hap, hb, rfl, rfl, rfl, rfl, rfl, rfl, hhi⟩⟩
/-- What of the first space is compared. -/
theorem TwX.look (h : TwX base w B Wb Ob p q G Wg Og size nc P0 P1 D0 D1 o0 o1) : ∃ (L : List Nat) (r : Nat), (∀ Y, Below w.heap.size w Y → Calls Tryd.prog 19 #[.pointer (some ⟨P0, 0, none⟩)] Y fun e w' => ∃ v, e = .returned v ∧ Ints w' v L ∧ Below Y.heap.size Y w' ∧ Below w.heap.size w w') ∧
    (∀ Y, Below w.heap.size w Y → Calls Tryd.prog 50 #[.pointer (some ⟨D0, 0, none⟩)] Y fun e w' => ∃ v, e = .returned v ∧ Ints w' v L ∧ Below Y.heap.size Y w' ∧ Below w.heap.size w w') ∧
    (∀ Y, Below w.heap.size w Y → Calls Tryd.prog 32 #[.pointer (some ⟨P0, 0, none⟩)] Y fun e w' => e = .returned (.int .i64 r) ∧ Below w.heap.size w w') ∧
    (∀ Y, Below w.heap.size w Y → Calls Tryd.prog 51 #[.pointer (some ⟨D0, 0, none⟩)] Y fun e w' => e = .returned (.int .i64 r) ∧ Below w.heap.size w w') := by
  obtain ⟨W, own, x, y, z, t, h⟩ := h
  have hpl := h.pre.len
  have hint : ∀ {Y w' : World} {A : Option Addr} {c : Nat}, w'.ownsRow Y.heap.size 3 1 (.slice A (chunksL x.l).length c) (chunksL x.l).length ((chunksL x.l).flatMap encN) → Ints w' (.slice A (chunksL x.l).length c) (chunksL x.l) := fun hr => by
    have e : (chunksL x.l).flatMap encN = (chunksL x.l).map intV := by
      generalize chunksL x.l = l
      induction l with
      | nil => rfl
      | cons a l ih => simp only [List.flatMap_cons, ih, List.map_cons]; rfl
    rw [e] at hr
    exact ints_of_own hr (Nat.le_trans (Nat.le_trans h.pre.j0.inv.clen h.pre.ol) (by decide))
  refine ⟨chunksL x.l, x.e - x.a, fun Y hY => ?_, fun Y hY => ?_, fun Y hY => ?_, fun Y hY => ?_⟩
  · have h1 := chunks_sp (h.on hY).ps.s0 (by omega)
    rw [h.e0] at h1
    exact h1.mono fun e w' ⟨A, c, he, hr, hb⟩ => ⟨_, he, hint hr, hb, hY.on hb⟩
  · have h1 := dchunks_any (h.on hY).ds.s0 (by rw [← h.pre.j0.l]; omega)
    rw [h.e2, ← h.pre.j0.l] at h1
    exact h1.mono fun e w' ⟨A, c, he, hr, hb⟩ => ⟨_, he, hint hr, hb, hY.on hb⟩
  · have h1 := room_any (h.on hY).ps.s0
    rw [h.e0] at h1
    exact h1.mono fun e w' ⟨he, hb⟩ => ⟨he, hY.on hb⟩
  · have h1 := h.pre.j0.room (h.on hY).ds.s0 (h.on hY).ds.rf
    rw [h.e2] at h1
    exact h1.mono fun e w' ⟨he, hb⟩ => ⟨he, hY.on hb⟩
theorem twx_pick (h : TwX base w B Wb Ob p q G Wg Og size nc P0 P1 D0 D1 o0 o1) (i : Nat) (hi : i < 2) : ∃ (PX PO DX DO : Nat) (oX oO : Int), TwX base w B Wb Ob p q G Wg Og size nc PX PO DX DO oX oO ∧
    #[Value.pointer (some ⟨P0, 0, none⟩), .pointer (some ⟨P1, 0, none⟩)][i]? = some (.pointer (some ⟨PX, 0, none⟩)) ∧ #[Value.pointer (some ⟨D0, 0, none⟩), .pointer (some ⟨D1, 0, none⟩)][i]? = some (.pointer (some ⟨DX, 0, none⟩)) := by
  have h2 : i = 0 ∨ i = 1 := by omega
  rcases h2 with rfl | rfl
  · exact ⟨P0, P1, D0, D1, o0, o1, h, rfl, rfl⟩
  · exact ⟨P1, P0, D1, D0, o1, o0, h.swap, rfl, rfl⟩
set_option maxRecDepth 100000 in
set_option maxHeartbeats 4000000 in
theorem acts9_walk (wd : Int) (A : Option Addr) (l : List Act9) (cp : Nat) (hl : l.length ≤ cp) (hm : l.length ≤ maxLen) (hS : SliceOf w A 4 act9Enc act90 l) (hT : Tab w) :
    Calls Tryd.prog 14 #[.int .i64 wd, .slice A l.length cp] w fun e w' => e = .returned (.bool true) ∧ Below w.heap.size w w' := by
  obtain ⟨size, hk⟩ : ∃ k : Nat, (k : Int) = 1 + max 0 wd % 10 := ⟨(1 + max 0 wd % 10).toNat, by have := Int.emod_nonneg (max 0 wd) (show (10 : Int) ≠ 0 by decide); omega⟩
  have hs1 : 1 ≤ size := by have := Int.emod_nonneg (max 0 wd) (show (10 : Int) ≠ 0 by decide); omega
  have hs10 : size ≤ 10 := by have := Int.emod_lt_of_pos (max 0 wd) (show (0 : Int) < 10 by decide); omega
  have HK := Lib.hid hk
  have HT := Lib.hid hT
  have HS := Lib.hid hS
  have h0 : 0 < w.heap.size := lt_of_cell (hT 0 (by decide))
  have HAL : Hid (∀ Y, Below w.heap.size w Y → Calls Tryd.prog 17 #[] Y fun e w' => e = .returned (.bool true) ∧ Below Y.heap.size Y w') := Lib.hid (fun Y hY => alive9_any (fun j hj => (hY.cell (p := ⟨0, j, none⟩) h0).trans (hT j hj)))
  have HGR : Hid (∀ Y, Below w.heap.size w Y → Calls Tryd.prog 45 #[.slice A l.length cp] Y fun e w' => e = .returned (.bool (great9 l)) ∧ Below Y.heap.size Y w') := Lib.hid (fun Y hY => great_any A l cp hl hm (hS.on hY))
  have hmax : (if (0 : Int) < wd then wd else 0) = max 0 wd := by omega
  unfold maxLen at hm
  clear hT hS hk
  go_enter Tryd.func14, Tryd.ntmps14
  go_wp2_with fail
  refine (HAL.out _ (Below.refl _ _)).mono ?_
  rintro e w1 ⟨rfl, hb1⟩
  have HB1 := Lib.hid hb1
  clear hb1
  go_wp2_with fail
  refine (HGR.out _ HB1.out).mono ?_
  rintro e w2 ⟨rfl, hb2⟩
  have HB2 := Lib.hid (HB1.out.on hb2)
  clear hb2 HGR
  by_cases hgr : great9 l = true
  · rw [hgr]
    go_wp2_with fail
    refine (HAL.out _ HB2.out).mono ?_
    rintro e w3 ⟨rfl, hb3⟩
    have HB3 := Lib.hid (HB2.out.on hb3)
    clear hb3
    go_wp2
    go_ret
    exact ⟨rfl, HB3.out⟩
  · rw [Bool.not_eq_true] at hgr
    have HG9 := Lib.hid hgr
    rw [hgr]
    clear hgr HAL
    go_wp2_with fail
    rw [← HK.out]
    refine (made9 16 size w.heap.size w2 (by decide) (by decide) hs1 (by omega)).mono ?_
    rintro e w3 ⟨B, Wb, Ob, p, q, P0, P1, rfl, h2, hb3, hF, hp0, hp1⟩
    have H2 := Lib.hid h2
    have HB3 := Lib.hid (HB2.out.on hb3)
    have HF := Lib.hid hF
    have hz2 := HB2.out.size
    have hz3 := hb3.size
    have hba := below1 w3 (.cells #[.pointer (some ⟨P0, 0, none⟩), .pointer (some ⟨P1, 0, none⟩)] 25)
    have HAP := Lib.hid (heap_alloc_new w3 (.cells #[.pointer (some ⟨P0, 0, none⟩), .pointer (some ⟨P1, 0, none⟩)] 25))
    have HBA := Lib.hid hba
    clear h2 hb3 hF hba hmax
    go_wp2_with fail
    refine (rnew_any 16 size _ (by decide) (by decide) hs1 (by omega)).mono ?_
    rintro e w4 ⟨G, Wg, Og, rfl, hR, hb4, hG, hWg, hOg⟩
    rw [World.size_alloc] at hG hWg hOg
    have HR := Lib.hid hR
    have HB4 := Lib.hid hb4
    clear hR hb4
    go_wp2_with fail
    refine (dnew_any 1 w4).mono ?_
    rintro e w5 ⟨rfl, hD0, hb5⟩
    have HD0 := Lib.hid (hD0 w.heap.size)
    have HB5 := Lib.hid hb5
    have hz5 := block_lt (hD0 0).head
    clear hD0 hb5
    go_wp2_with fail
    refine (dnew_any 2 w5).mono ?_
    rintro e w6 ⟨rfl, hD1, hb6⟩
    have HD1 := Lib.hid (hD1 w.heap.size)
    have HB6 := Lib.hid hb6
    have hz6 := hb6.size
    have HAM := Lib.hid (heap_alloc_new w6 (.cells #[.pointer (some ⟨w4.heap.size, 0, none⟩), .pointer (some ⟨w5.heap.size, 0, none⟩)] 81))
    have HBM := Lib.hid (below1 w6 (.cells #[.pointer (some ⟨w4.heap.size, 0, none⟩), .pointer (some ⟨w5.heap.size, 0, none⟩)] 81))
    have hz4 := HB4.out.size
    rw [World.size_alloc] at hz4
    have hb36 := (HB4.out.on HB5.out).on HB6.out
    have HAP6 := Lib.hid ((HBM.out.block _ (Nat.lt_of_lt_of_le (block_lt HAP.out) hb36.size)).trans ((hb36.block _ (block_lt HAP.out)).trans HAP.out))
    have HX0 : Hid (TwX w (w6.alloc (.cells #[.pointer (some ⟨w4.heap.size, 0, none⟩), .pointer (some ⟨w5.heap.size, 0, none⟩)] 81)) B Wb Ob p q G Wg Og size 16 P0 P1 w4.heap.size w5.heap.size 1 2) := Lib.hid (by
      have hb37 := (HBA.out.on hb36).on HBM.out
      refine twx_new ?_ ((HR.out.on (HB5.out.on HB6.out)).on HBM.out) ((HD0.out.on HB6.out).on HBM.out) (HD1.out.on HBM.out) (by omega) (fun k hk => ?_) (HB3.out.on hb37) (fun k hk => ?_)
      · have h2 := H2.out
        exact { h2 with st := h2.st.on hb37, s0 := h2.s0.on hb37, s1 := h2.s1.on hb37 }
      · have hlt : k < w3.heap.size := by
          have h2 := H2.out.st
          obtain ⟨u, hu⟩ := h2.map
          rcases hk with e | e | e | e | e
          · rw [e]; exact block_lt h2.head
          · rw [e]; exact block_lt h2.body
          · rw [e]; exact block_lt h2.owners
          · rw [e]; exact hu.plt
          · rw [e]; exact hu.qlt
        omega
      · rcases hk with e | e | e | e | e | e | e | e
        · exact Nat.le_trans hz2 (HF.out k e)
        all_goals omega)
    clear hD1 hb6 hb36
    have hz36 : w3.heap.size ≤ w6.heap.size := by omega
    go_wp2_with fail
    go_loopw [41] (fun v41 wr => ∃ k : Nat, k ≤ l.length ∧ v41 = .int .i64 k ∧ Hid (TwX w wr B Wb Ob p q G Wg Og size 16 P0 P1 w4.heap.size w5.heap.size 1 2 ∧ wr.heap[w3.heap.size]? = some (.cells #[.pointer (some ⟨P0, 0, none⟩), .pointer (some ⟨P1, 0, none⟩)] 25 (0, 0)) ∧ wr.heap[w6.heap.size]? = some (.cells #[.pointer (some ⟨w4.heap.size, 0, none⟩), .pointer (some ⟨w5.heap.size, 0, none⟩)] 81 (0, 0)))) (fun v41 _ => l.length - (intOf v41).toNat)
    case atStart => exact ⟨0, by omega, rfl, Lib.hid ⟨HX0.out, HAP6.out, HAM.out⟩⟩
    case round =>
      obtain ⟨k, hk, rfl, HR9⟩ := hrel
      have hBr : Below w.heap.size w wr := by obtain ⟨_, _, _, _, _, _, h⟩ := HR9.out.1; exact h.bel
      by_cases hlt : k < l.length
      · obtain ⟨b, o, rfl, e0, e1, e2, e3⟩ := act9_cells (HS.out.on hBr) k hlt
        have hgx : (l.getD k act90).kind = 0 → (l.getD k act90).n ≤ 100000 := fun e => by
          have hmem : l.getD k act90 ∈ l := by
            have : l.getD k act90 = l[k] := by simp [List.getD, hlt]
            rw [this]; exact List.getElem_mem hlt
          have h1 := HG9.out
          unfold great9 at h1
          rw [Bool.or_eq_false_iff] at h1
          have h2 := List.any_eq_false.1 h1.2 _ hmem
          unfold big9 at h2
          rw [decide_eq_true e, Bool.true_and, decide_eq_true_iff] at h2
          omega
        generalize l.getD k act90 = x at *
        obtain ⟨xk, xw, xn, xr⟩ := x
        dsimp only at e0 e1 e2 e3 hgx
        have HBX := Lib.hid (below1 wr (.cells #[.int .i64 xk, .int .i64 xw, .int .i64 xn, .bool xr] 83))
        have ha0 := (HBX.out.block _ (block_lt HR9.out.2.1)).trans HR9.out.2.1
        have hm0 := (HBX.out.block _ (block_lt HR9.out.2.2)).trans HR9.out.2.2
        have HA0 := Lib.hid ha0
        have HM0 := Lib.hid hm0
        have p0 := (blk_cells ha0 0).trans rfl
        have p1 := (blk_cells ha0 1).trans rfl
        have m0 := (blk_cells hm0 0).trans rfl
        have m1 := (blk_cells hm0 1).trans rfl
        have HDO := Lib.hid (do9_any (HR9.out.1.on HBX.out) HT.out h0 xk xw xn xr hgx)
        clear ha0 hm0 hgx hBr
        go_wp2_with fail
        refine HDO.out.mono ?_
        rintro e wd1 ⟨rfl, hX1, hK1⟩
        have HX1 := Lib.hid (And.intro hX1 (And.intro (hK1.1 _ _ _ rfl HA0.out) (hK1.1 _ _ _ rfl HM0.out)))
        clear hX1 hK1 HDO p0 p1 m0 m1 e0 e1 e2 e3
        obtain ⟨wo, hwo⟩ : ∃ wo, wo = wr := ⟨_, rfl⟩
        subst hwo
        go_wp2_with fail
        go_loopw [50] (fun v50 wr => ∃ i : Nat, i ≤ 2 ∧ v50 = .int .i64 i ∧ Hid (TwX w wr B Wb Ob p q G Wg Og size 16 P0 P1 w4.heap.size w5.heap.size 1 2 ∧ wr.heap[w3.heap.size]? = some (.cells #[.pointer (some ⟨P0, 0, none⟩), .pointer (some ⟨P1, 0, none⟩)] 25 (0, 0)) ∧ wr.heap[w6.heap.size]? = some (.cells #[.pointer (some ⟨w4.heap.size, 0, none⟩), .pointer (some ⟨w5.heap.size, 0, none⟩)] 81 (0, 0)))) (fun v50 _ => 2 - (intOf v50).toNat)
        case atStart => exact ⟨0, by omega, rfl, HX1⟩
        case round =>
          obtain ⟨i, hi, rfl, HI⟩ := hrel
          by_cases hi2 : i < 2
          · obtain ⟨PX, PO, DX, DO, oX, oO, hX, kx, kd⟩ := twx_pick HI.out.1 i hi2
            obtain ⟨L, r, hc1, hc2, hr1, hr2⟩ := hX.look
            have HC1 := Lib.hid hc1
            have HC2 := Lib.hid hc2
            have HR1 := Lib.hid hr1
            have HR2 := Lib.hid hr2
            have HSM : Hid (∀ Y v1 v2, Ints Y v1 L → Ints Y v2 L → Below wr.heap.size wr Y → Calls Tryd.prog 49 #[v1, v2] Y fun e w' => e = .returned (.bool true) ∧ Below wr.heap.size wr w') := Lib.hid (fun Y v1 v2 h1 h2 hY => (same_any h1 h2).mono fun e w' h => ⟨by rw [h.1, decide_eq_true rfl], hY.on h.2⟩)
            have HCELL : Hid (∀ Y, Below wr.heap.size wr Y → (Y.cell? ⟨w3.heap.size, i, none⟩ = some (.pointer (some ⟨PX, 0, none⟩)) ∧ Y.cell? ⟨w6.heap.size, i, none⟩ = some (.pointer (some ⟨DX, 0, none⟩)))) := Lib.hid (fun Y hY => ⟨(blk_cells ((hY.block _ (block_lt HI.out.2.1)).trans HI.out.2.1) i).trans kx, (blk_cells ((hY.block _ (block_lt HI.out.2.2)).trans HI.out.2.2) i).trans kd⟩)
            have hcur : Below wr.heap.size wr wr.drew := Below.drew (Below.refl _ _)
            have kc := HCELL.out _ hcur
            have hii : (i : Int) < 2 := by omega
            have hrr : ((r : Int) != (r : Int)) = false := by simp
            clear hX hc1 hc2 hr1 hr2 kx kd
            go_wp2_with fail
            go_region_held3 (fun wk => (wk.cell? ⟨w3.heap.size, i, none⟩ = some (.pointer (some ⟨PX, 0, none⟩)) ∧ wk.cell? ⟨w6.heap.size, i, none⟩ = some (.pointer (some ⟨DX, 0, none⟩))) ∧ Below wr.heap.size wr wk) (first | assumption | exact ⟨HCELL.out _ (by assumption), by assumption⟩ | exact ⟨kc, hcur⟩) (first | (go_at_call 19; refine (HC1.out _ (And.right (by assumption))).mono ?_; rintro e w8 ⟨v8, rfl, hI8, hc8, hb8⟩) | (go_at_call 50; refine (HC2.out _ (And.right (by assumption))).mono ?_; rintro e w9 ⟨v9, rfl, hI9, hc9, hb9⟩) | (go_at_call 49; refine (HSM.out _ _ _ (by first | assumption | exact Ints.on (by assumption) (by assumption)) (by first | assumption | exact Ints.on (by assumption) (by assumption)) (And.right (by assumption))).mono ?_; rintro e w7 ⟨rfl, hb7⟩) | (go_at_call 32; refine (HR1.out _ (And.right (by assumption))).mono ?_; rintro e wR ⟨rfl, hbR⟩) | (go_at_call 51; refine (HR2.out _ (And.right (by assumption))).mono ?_; rintro e wR ⟨rfl, hbR⟩))
            all_goals
              have hcR : Below wr.heap.size wr wR := And.right (show (wR.cell? ⟨w3.heap.size, i, none⟩ = some (.pointer (some ⟨PX, 0, none⟩)) ∧ wR.cell? ⟨w6.heap.size, i, none⟩ = some (.pointer (some ⟨DX, 0, none⟩))) ∧ Below wr.heap.size wr wR by assumption)
              have HN := Lib.hid (And.intro (HI.out.1.on hcR) (And.intro ((hcR.block _ (block_lt HI.out.2.1)).trans HI.out.2.1) ((hcR.block _ (block_lt HI.out.2.2)).trans HI.out.2.2)))
              clear hcR hcur kc
              go_wp2
              go_roundw
              case rel => exact ⟨i + 1, by omega, by go_num, HN⟩
              case measure => simp [intOf]; omega
          · obtain rfl : i = 2 := by omega
            go_wp2
            go_roundw
            case rel => exact ⟨k + 1, by omega, by go_num, HI⟩
            case measure => simp [intOf]; omega
      · obtain rfl : k = l.length := by omega
        obtain ⟨W, own, x, y, z, t, hS⟩ := HR9.out.1
        obtain ⟨wo, hwo⟩ : ∃ wo, wo = wr := ⟨_, rfl⟩
        subst hwo
        have HSt := Lib.hid hS
        have HBO := Lib.hid hBr
        clear hS hBr
        go_wp2_with fail
        go_loopw [76] (fun v76 wr => ∃ c : Nat, c ≤ 16 ∧ v76 = .int .i64 c ∧ Hid (Below wo.heap.size wo wr)) (fun v76 _ => 16 - (intOf v76).toNat)
        case atStart => exact ⟨0, by omega, rfl, Lib.hid (Below.refl _ _)⟩
        case round =>
          obtain ⟨c, hc, rfl, HBc⟩ := hrel
          by_cases hc2 : c < 16
          · obtain ⟨oc, hoc⟩ : ∃ oc, oc = own.getD c 0 := ⟨_, rfl⟩
            obtain ⟨b0, hb0⟩ : ∃ b0, b0 = bigL x.l (c : Int) := ⟨_, rfl⟩
            obtain ⟨b1, hb1⟩ : ∃ b1, b1 = bigL y.l (c : Int) := ⟨_, rfl⟩
            have HOW : Hid (∀ Y, Below wo.heap.size wo Y → Calls Tryd.prog 25 #[.pointer (some ⟨B, 0, none⟩), .int .i64 c] Y fun e w' => e = .returned (.int .i64 oc) ∧ Below wo.heap.size wo w') := Lib.hid (fun Y hY => by
              rw [hoc]
              exact (owner_in (HSt.out.on hY).ps.st c (by rw [HSt.out.len]; exact hc2)).mono fun e w' h => ⟨h.1, h.2 ▸ hY⟩)
            have HBIG : Hid (∀ (P : Nat) (b : Bool), (P = P0 ∧ b = b0) ∨ (P = P1 ∧ b = b1) → ∀ Y, Below wo.heap.size wo Y → Calls Tryd.prog 33 #[.pointer (some ⟨P, 0, none⟩), .int .i64 c] Y fun e w' => e = .returned (.bool b) ∧ Below wo.heap.size wo w') := Lib.hid (fun P b hPb Y hY => by
              have hpl := HSt.out.pre.len
              have hpl1 := HSt.out.pre.len1
              rcases hPb with ⟨rfl, rfl⟩ | ⟨rfl, rfl⟩
              · have h1 := big_any (HSt.out.on hY).ps.s0 (by omega) c
                rw [HSt.out.e0] at h1
                rw [hb0]; exact h1.mono fun e w' h => ⟨h.1, hY.on h.2⟩
              · have h1 := big_any (HSt.out.on hY).ps.s1 (by omega) c
                rw [HSt.out.e1] at h1
                rw [hb1]; exact h1.mono fun e w' h => ⟨h.1, hY.on h.2⟩)
            have HDBG : Hid (∀ (D : Nat) (b : Bool), (D = w4.heap.size ∧ b = b0) ∨ (D = w5.heap.size ∧ b = b1) → ∀ Y, Below wo.heap.size wo Y → Calls Tryd.prog 52 #[.pointer (some ⟨D, 0, none⟩), .int .i64 c] Y fun e w' => e = .returned (.bool b) ∧ Below wo.heap.size wo w') := Lib.hid (fun D b hDb Y hY => by
              have hpl := HSt.out.pre.len
              have hpl1 := HSt.out.pre.len1
              rcases hDb with ⟨rfl, rfl⟩ | ⟨rfl, rfl⟩
              · have h1 := dbig_any (HSt.out.on hY).ds.s0 (by rw [← HSt.out.pre.j0.l]; omega) c
                rw [HSt.out.e2, ← HSt.out.pre.j0.l] at h1
                rw [hb0]; exact h1.mono fun e w' h => ⟨h.1, hY.on h.2⟩
              · have h1 := dbig_any (HSt.out.on hY).ds.s1 (by rw [← HSt.out.pre.j1.l]; omega) c
                rw [HSt.out.e3, ← HSt.out.pre.j1.l] at h1
                rw [hb1]; exact h1.mono fun e w' h => ⟨h.1, hY.on h.2⟩)
            have HCELL : Hid (∀ Y, Below wo.heap.size wo Y → ((Y.cell? ⟨w3.heap.size, 0, none⟩ = some (.pointer (some ⟨P0, 0, none⟩)) ∧ Y.cell? ⟨w3.heap.size, 1, none⟩ = some (.pointer (some ⟨P1, 0, none⟩))) ∧ (Y.cell? ⟨w6.heap.size, 0, none⟩ = some (.pointer (some ⟨w4.heap.size, 0, none⟩)) ∧ Y.cell? ⟨w6.heap.size, 1, none⟩ = some (.pointer (some ⟨w5.heap.size, 0, none⟩))) ∧ Y.cell? ⟨G, 2, none⟩ = some (.slice (some ⟨Og, 0, none⟩) 16 16) ∧ Y.cell? ⟨Og, c, none⟩ = some (.int .i64 oc))) := Lib.hid (fun Y hY => by
              have g1 := (hY.block _ (block_lt HR9.out.2.1)).trans HR9.out.2.1
              have g2 := (hY.block _ (block_lt HR9.out.2.2)).trans HR9.out.2.2
              have g3 := (HSt.out.on hY).ds.rf.c2
              have g4 := (HSt.out.on hY).ds.rf.own_cell c (by rw [HSt.out.len]; exact hc2)
              rw [HSt.out.len] at g3
              exact ⟨⟨(blk_cells g1 0).trans rfl, (blk_cells g1 1).trans rfl⟩, ⟨(blk_cells g2 0).trans rfl, (blk_cells g2 1).trans rfl⟩, g3, by rw [hoc]; exact g4⟩)
            have hcur : Below wo.heap.size wo wr.drew := Below.drew HBc.out
            have kc := HCELL.out _ hcur
            have hcc : (c : Int) < 16 := by omega
            have hc16 : c < 16 := hc2
            have f1 : ((oc : Int) != oc) = false := by simp
            have f2 : (b0 != b0) = false := by simp
            have f3 : (b1 != b1) = false := by simp
            clear hoc hb0 hb1
            go_wp2_with fail
            go_region_held3 (fun wk => ((wk.cell? ⟨w3.heap.size, 0, none⟩ = some (.pointer (some ⟨P0, 0, none⟩)) ∧ wk.cell? ⟨w3.heap.size, 1, none⟩ = some (.pointer (some ⟨P1, 0, none⟩))) ∧ (wk.cell? ⟨w6.heap.size, 0, none⟩ = some (.pointer (some ⟨w4.heap.size, 0, none⟩)) ∧ wk.cell? ⟨w6.heap.size, 1, none⟩ = some (.pointer (some ⟨w5.heap.size, 0, none⟩))) ∧ wk.cell? ⟨G, 2, none⟩ = some (.slice (some ⟨Og, 0, none⟩) 16 16) ∧ wk.cell? ⟨Og, c, none⟩ = some (.int .i64 oc)) ∧ Below wo.heap.size wo wk) (first | assumption | exact ⟨HCELL.out _ (by assumption), by assumption⟩ | exact ⟨kc, hcur⟩) (first | (go_at_call 25; refine (HOW.out _ (And.right (by assumption))).mono ?_; rintro e wR ⟨rfl, hbR⟩) | (go_at_call 33; refine (HBIG.out _ _ (by first | exact .inl ⟨rfl, rfl⟩ | exact .inr ⟨rfl, rfl⟩) _ (And.right (by assumption))).mono ?_; rintro e wR ⟨rfl, hbR⟩) | (go_at_call 52; refine (HDBG.out _ _ (by first | exact .inl ⟨rfl, rfl⟩ | exact .inr ⟨rfl, rfl⟩) _ (And.right (by assumption))).mono ?_; rintro e wR ⟨rfl, hbR⟩))
            all_goals
              have hcR : Below wo.heap.size wo wR := And.right (show ((wR.cell? ⟨w3.heap.size, 0, none⟩ = some (.pointer (some ⟨P0, 0, none⟩)) ∧ wR.cell? ⟨w3.heap.size, 1, none⟩ = some (.pointer (some ⟨P1, 0, none⟩))) ∧ (wR.cell? ⟨w6.heap.size, 0, none⟩ = some (.pointer (some ⟨w4.heap.size, 0, none⟩)) ∧ wR.cell? ⟨w6.heap.size, 1, none⟩ = some (.pointer (some ⟨w5.heap.size, 0, none⟩))) ∧ wR.cell? ⟨G, 2, none⟩ = some (.slice (some ⟨Og, 0, none⟩) 16 16) ∧ wR.cell? ⟨Og, c, none⟩ = some (.int .i64 oc)) ∧ Below wo.heap.size wo wR by assumption)
              have HN := Lib.hid hcR
              clear hcR hcur kc
              go_wp2
              go_roundw
              case rel => exact ⟨c + 1, by omega, by go_num, HN⟩
              case measure => simp [intOf]; omega
          · obtain rfl : c = 16 := by omega
            have HFR := Lib.hid (free_any (HSt.out.on HBc.out).ps.st)
            have HRF : Hid (∀ Y, Below wr.heap.size wr Y → Calls Tryd.prog 53 #[.pointer (some ⟨G, 0, none⟩)] Y fun e w' => e = .returned (.int .i64 (freeN own : Nat)) ∧ Y = w') := Lib.hid (fun Y hY => rfree_any (HSt.out.on (HBc.out.on hY)).ds.rf)
            have HWO := Lib.hid (HBO.out.on HBc.out)
            generalize freeN own = fr at HFR HRF
            go_wp2_with fail
            refine HFR.out.mono ?_
            rintro e wf ⟨rfl, hbf⟩
            have HBF := Lib.hid hbf
            clear hbf HFR
            go_wp2_with fail
            refine (HRF.out _ HBF.out).mono ?_
            rintro e wg ⟨rfl, rfl⟩
            go_wp2
            go_ret
            exact ⟨rfl, HWO.out.on HBF.out⟩
end
end Go.Proofs.YtkaflgbipjppmaaDoor
