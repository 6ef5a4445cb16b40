/- alive, made, grown of the store's laws: walks. -/
import Derived.Test.YtkaflgbipjppmaaDoorSe
import Derived.Test.YtkaflgbipjppmaaDoorTw3
namespace Go.Proofs.YtkaflgbipjppmaaDoor
open Go.RowKit
set_option linter.unusedVariables false
set_option linter.unusedSimpArgs false
variable {w w' : World} {B Wb Ob p q G Wg Og size : Nat} {W W' own own' : List Int} {c : Nat}
theorem Pair.lens (h : Pair w B Wb Ob p q G Wg Og size W own) (h' : Pair w' B Wb Ob p q G Wg Og size W' own') (hm : Mod (Six Wb Ob p q Wg Og) w w') : own'.length = own.length ∧ W'.length = W.length := by
  have hn : ¬ Six Wb Ob p q Wg Og G := fun e => by
    rcases e with e | e | e
    · exact (h.far _ (.inr e)).1 rfl
    · exact h.rf.n1 e
    · exact h.rf.n2 e
  have h1 := hm.keeps h.rf.head hn
  rw [h'.rf.head] at h1
  simp at h1
  omega
/-- A store that the call made, and what follows for a world. -/
def Fresh8 (base : Nat) (B Wb Ob p q G Wg Og : Nat) : Prop := ∀ k, Eight B Wb Ob p q G Wg Og k → base ≤ k
def MadePost3 (c n : Nat) (w : World) (e : Ending) (w' : World) : Prop := ∃ B Wb Ob p q G Wg Og, e = .returned (.tuple #[.pointer (some ⟨B, 0, none⟩), .pointer (some ⟨G, 0, none⟩)]) ∧ Pair w' B Wb Ob p q G Wg Og n (List.replicate (c * n) 0) (List.replicate c 0) ∧ Below w.heap.size w w' ∧ Fresh8 w.heap.size B Wb Ob p q G Wg Og
theorem size_n (z : Int) (hz : -9223372036854775808 ≤ z ∧ z < 9223372036854775808) : ∃ c : Nat, (c : Int) = 1 + max 0 z % 12 ∧ 1 ≤ c ∧ c ≤ 12 :=
  ⟨(1 + max 0 z % 12).toNat, by have := Int.emod_nonneg (max 0 z) (show (12 : Int) ≠ 0 by decide); omega, by have := Int.emod_nonneg (max 0 z) (show (12 : Int) ≠ 0 by decide); omega, by have := Int.emod_lt_of_pos (max 0 z) (show (0 : Int) < 12 by decide); omega⟩
set_option maxRecDepth 100000 in
set_option maxHeartbeats 1000000 in
theorem made3_any (zc zw : Int) (c n : Nat) (w : World) (hc : (c : Int) = 1 + max 0 zc % 12) (hc1 : 1 ≤ c) (hc2 : c ≤ 12) (hn : (n : Int) = 1 + max 0 zw % 12) (hn1 : 1 ≤ n) (hn2 : n ≤ 12) :
    Calls Tryd.prog 35 #[.agg #[.int .i64 zc, .int .i64 zw]] w (MadePost3 c n w) := by
  have hb0 := below1 w (.cells #[.int .i64 zc, .int .i64 zw] 36)
  have hbx := heap_alloc_new w (.cells #[.int .i64 zc, .int .i64 zw] 36)
  have k0 := (blk_cells hbx 0).trans rfl
  have k1 := (blk_cells hbx 1).trans rfl
  have hz0 : (w.alloc (.cells #[.int .i64 zc, .int .i64 zw] 36)).heap.size = w.heap.size + 1 := World.size_alloc _ _
  have hmax1 : (if (0 : Int) < zc then zc else 0) = max 0 zc := by omega
  have hmax2 : (if (0 : Int) < zw then zw else 0) = max 0 zw := by omega
  have ht1 : (max 0 zc).tmod 12 = max 0 zc % 12 := Int.tmod_eq_emod_of_nonneg (by omega)
  have ht2 : (max 0 zw).tmod 12 = max 0 zw % 12 := Int.tmod_eq_emod_of_nonneg (by omega)
  have hw1 : IntKind.i64.wrap (1 + max 0 zc % 12) = (c : Int) := by rw [IntKind.wrap_i64]; omega
  have hw2 : IntKind.i64.wrap (1 + max 0 zw % 12) = (n : Int) := by rw [IntKind.wrap_i64]; omega
  have HB0 := Lib.hid hb0
  have hm1 : IntKind.i64.wrap (max 0 zc % 12) = max 0 zc % 12 := by rw [IntKind.wrap_i64]; omega
  have hm2 : IntKind.i64.wrap (max 0 zw % 12) = max 0 zw % 12 := by rw [IntKind.wrap_i64]; omega
  clear hbx hb0 hc hn
  go_enter Tryd.func35, Tryd.ntmps35
  go_wp2_with fail
  go_quiet (fail)
  have HBQ := Lib.hid (below_drewN HB0.out nq)
  generalize (w.alloc (.cells #[.int .i64 zc, .int .i64 zw] 36)).drewN nq = w0 at *
  have HN := Lib.hid (new_in3 c n w0 hc1 (by omega) hn1 (by omega))
  clear k0 k1 hz0 hmax1 hmax2 ht1 ht2 hw1 hw2 hm1 hm2 HB0
  go_wp2_with fail
  refine HN.out.mono ?_
  rintro e w1 ⟨B, Wb, Ob, p, q, rfl, hS, hb1, hF⟩
  have HS := Lib.hid hS
  have HB1 := Lib.hid hb1
  have HF := Lib.hid hF
  have HLT : Hid (∀ k, Five B Wb Ob p q k → k < w1.heap.size) := Lib.hid (fun k e => by
    obtain ⟨u, hu⟩ := hS.map
    rcases e with e | e | e | e | e
    · rw [e]; exact block_lt hS.head
    · rw [e]; exact block_lt hS.body
    · rw [e]; exact block_lt hS.owners
    · rw [e]; exact block_lt hu.head
    · rw [e]; exact block_lt hu.body)
  clear hS hb1 hF HN
  have HR := Lib.hid (rnew_any c n w1 hc1 (by omega) hn1 (by omega))
  go_wp2_with fail
  refine HR.out.mono ?_
  rintro e w2 ⟨G, Wg, Og, rfl, hR, hb2, hg, hwg, hog⟩
  have HR2 := Lib.hid hR
  have HB2 := Lib.hid hb2
  clear hR hb2 HR
  go_wp2
  go_ret2
  have hz1 := HBQ.out.size
  have hz2 := HB1.out.size
  have hF := HF.out
  have hL := HLT.out
  refine ⟨B, Wb, Ob, p, q, G, Wg, Og, rfl, ⟨HS.out.on HB2.out, HR2.out, fun k hk => ?_⟩, (HBQ.out.on HB1.out).on HB2.out, fun k hk => ?_⟩
  · have := hL k hk
    exact ⟨by omega, by omega, by omega⟩
  · rcases hk with hk | hk | hk | hk
    · have := hF k hk; omega
    · omega
    · omega
    · omega
theorem take1_ok (h : StoreAt w B Wb Ob p q W size own) (hT : Tab w) (o : Int) (n a : Nat) (ho : 1 ≤ o) (hn : 1 ≤ n) (h1 : a + n ≤ own.length) (h2 : ∀ j, j < a + n → a ≤ j → own.getD j 0 = 0) (h3 : ∀ j, j < a → own.getD j 0 ≠ 0) :
    Calls Tryd.prog 29 #[.pointer (some ⟨B, 0, none⟩), .int .i64 o, .int .i64 n] w fun e w' => e = .returned (.tuple #[.int .i64 a, .int .i64 0]) ∧ (∃ W', StoreAt w' B Wb Ob p q W' size (fillO own a o n)) ∧ Mod (Four3 Wb Ob p q) w w' :=
  (take_in h hT o n a ho hn (runAtO_first hn h1 h2 h3)).mono fun e w' ⟨h1, h2, h3⟩ => ⟨h1, ⟨_, h2⟩, h3⟩
theorem Tab.four (hT : Tab w) (hm : Mod (Four3 Wb Ob p q) w w') (hn : ¬ Four3 Wb Ob p q 0) : Tab w' := fun j hj => hm.cell (hT j hj) hn
set_option maxRecDepth 100000 in
set_option maxHeartbeats 2000000 in
theorem alive3_any (hT : Tab w) : Calls Tryd.prog 22 #[] w fun e w' => e = .returned (.bool true) ∧ Below w.heap.size w w' := by
  have hlt := lt_of_cell (hT 0 (by decide))
  have HT := Lib.hid hT
  have HN : Hid (Calls Tryd.prog 40 #[.int .i64 4, .int .i64 8] w (NewPost3 4 8 w)) := Lib.hid (new_in3 4 8 w (by decide) (by decide) (by decide) (by decide))
  clear hT
  go_enter Tryd.func22, Tryd.ntmps22
  go_wp2_with fail
  refine HN.out.mono ?_
  rintro e w1 ⟨B, Wb, Ob, p, q, rfl, hS, hb1, hF⟩
  have HNS : Hid (∀ k, Four3 Wb Ob p q k → w.heap.size ≤ k) := Lib.hid (fun k e => hF k (.inr e))
  have hng : ¬ Four3 Wb Ob p q 0 := fun e => by have h9 := HNS.out _ e; have h8 : 0 < w.heap.size := hlt; omega
  have HNG := Lib.hid hng
  have HB1 := Lib.hid hb1
  have HT1 := Lib.hid (HT.out.on hb1)
  have hS1 : StoreAt w1 B Wb Ob p q (List.replicate (4 * 8) 0) 8 [0, 0, 0, 0] := hS
  have HC1 : Hid (Calls Tryd.prog 27 #[.pointer (some ⟨B, 0, none⟩), .int .i64 5] w1 _) := Lib.hid (take_any 5 _ (take1_ok hS1 HT1.out 5 1 0 (by decide) (by decide) (by decide) (by decide) (by decide)) (fun e w' h => ⟨_, _, h.1⟩))
  clear hS hS1 hb1 hF HN hng
  go_wp2_with fail
  refine HC1.out.mono ?_
  rintro e w2 ⟨rfl, ⟨W2, hS2⟩, hM2⟩
  have HB2 := Lib.hid (Mod.below HB1.out hM2 HNS.out HB1.out.size)
  have HT2 := Lib.hid (HT1.out.four hM2 HNG.out)
  replace hS2 : StoreAt w2 B Wb Ob p q W2 8 [5, 0, 0, 0] := hS2
  have HC2 : Hid (Calls Tryd.prog 29 #[.pointer (some ⟨B, 0, none⟩), .int .i64 6, .int .i64 2] w2 _) := Lib.hid (take1_ok hS2 HT2.out 6 2 1 (by decide) (by decide) (by decide) (by decide) (by decide))
  clear hS2 hM2 HC1
  go_wp2_with fail
  refine HC2.out.mono ?_
  rintro e w3 ⟨rfl, ⟨W3, hS3⟩, hM3⟩
  have HB3 := Lib.hid (Mod.below HB2.out hM3 HNS.out HB2.out.size)
  have HT3 := Lib.hid (HT2.out.four hM3 HNG.out)
  replace hS3 : StoreAt w3 B Wb Ob p q W3 8 [5, 6, 6, 0] := hS3
  have HC3 : Hid (Calls Tryd.prog 27 #[.pointer (some ⟨B, 0, none⟩), .int .i64 5] w3 _) := Lib.hid (take_any 5 _ (take1_ok hS3 HT3.out 5 1 3 (by decide) (by decide) (by decide) (by decide) (by decide)) (fun e w' h => ⟨_, _, h.1⟩))
  clear hS3 hM3 HC2
  go_wp2_with fail
  refine HC3.out.mono ?_
  rintro e w4 ⟨rfl, ⟨W4, hS4⟩, hM4⟩
  have HB4 := Lib.hid (Mod.below HB3.out hM4 HNS.out HB3.out.size)
  have HT4 := Lib.hid (HT3.out.four hM4 HNG.out)
  replace hS4 : StoreAt w4 B Wb Ob p q W4 8 [5, 6, 6, 5] := hS4
  have HC4 : Hid (Calls Tryd.prog 28 #[.pointer (some ⟨B, 0, none⟩), .int .i64 1] w4 _) := Lib.hid (release_in hS4 1 (by decide) (by decide))
  clear hS4 hM4 HC3
  go_wp2_with fail
  refine HC4.out.mono ?_
  rintro e w5 ⟨rfl, hS5, hM5⟩
  have HB5 := Lib.hid (Mod.below HB4.out hM5 HNS.out HB4.out.size)
  have HT5 := Lib.hid (HT4.out.four hM5 HNG.out)
  replace hS5 : StoreAt w5 B Wb Ob p q W4 8 [5, 0, 6, 5] := hS5
  have HC5 : Hid (Calls Tryd.prog 27 #[.pointer (some ⟨B, 0, none⟩), .int .i64 9] w5 _) := Lib.hid (take_any 9 _ (take1_ok hS5 HT5.out 9 1 1 (by decide) (by decide) (by decide) (by decide) (by decide)) (fun e w' h => ⟨_, _, h.1⟩))
  clear hS5 hM5 HC4
  go_wp2_with fail
  refine HC5.out.mono ?_
  rintro e w6 ⟨rfl, ⟨W6, hS6⟩, hM6⟩
  have HB6 := Lib.hid (Mod.below HB5.out hM6 HNS.out HB5.out.size)
  replace hS6 : StoreAt w6 B Wb Ob p q W6 8 [5, 9, 6, 5] := hS6
  have HC6 : Hid (Calls Tryd.prog 25 #[.pointer (some ⟨B, 0, none⟩), .int .i64 1] w6 _) := Lib.hid (owner_in hS6 1 (by decide))
  clear hS6 hM6 HC5
  go_wp2_with fail
  refine HC6.out.mono ?_
  rintro e w7 ⟨rfl, rfl⟩
  go_wp2
  go_ret
  exact ⟨rfl, HB6.out⟩
theorem act3_cells {A : Option Addr} {l : List Act3} (h : SliceOf w A 5 act3Enc act30 l) (k : Nat) (hk : k < l.length) : ∃ b o, A = some ⟨b, o, none⟩ ∧ w.cell? ⟨b, o + k * 5, none⟩ = some (.int .i64 (l.getD k act30).kind) ∧ w.cell? ⟨b, o + k * 5 + 1, none⟩ = some (.int .i64 (l.getD k act30).a) ∧ w.cell? ⟨b, o + k * 5 + 2, none⟩ = some (.int .i64 (l.getD k act30).b) ∧ w.cell? ⟨b, o + k * 5 + 3, none⟩ = some (.int .i64 (l.getD k act30).c) ∧ w.cell? ⟨b, o + k * 5 + 4, none⟩ = some (.int .u64 (l.getD k act30).x) := by
  obtain ⟨b, o, e, h1⟩ := h k hk
  exact ⟨b, o, e, h1 0 _ rfl, h1 1 _ rfl, h1 2 _ rfl, h1 3 _ rfl, h1 4 _ rfl⟩
def good3 (x : Act3) : Prop := i64B x.a ∧ i64B x.b ∧ i64B x.c ∧ i64B x.kind
/-- Owners that are numbers of Go's. -/
def Bnd (own : List Int) : Prop := ∀ x ∈ own, x < 9223372036854775808
theorem Bnd.grew {own own' : List Int} {a b : Int} (h : Bnd own) (hg : Grew own own' a b) (ha : i64B a) (hb : i64B b) : Bnd own' := fun x hx => by
  rcases hg x hx with g | g | g | g
  · exact h x g
  · rw [g]; exact ha.2
  · rw [g]; exact hb.2
  · rw [g]; decide
theorem bnd_zero (c : Nat) : Bnd (List.replicate c 0) := fun x hx => by rw [(List.mem_replicate.1 hx).2]; decide
/-- A store behind acts, and the document's; or none, for there were too many. -/
def GrownPost3 (c n : Nat) (m : Nat) (w : World) (e : Ending) (w' : World) : Prop :=
  (m ≤ 80 ∧ ∃ B Wb Ob p q G Wg Og W own, e = .returned (.tuple #[.pointer (some ⟨B, 0, none⟩), .pointer (some ⟨G, 0, none⟩)]) ∧ Pair w' B Wb Ob p q G Wg Og n W own ∧ (own.length = c ∧ Bnd own) ∧ Below w.heap.size w w' ∧ Fresh8 w.heap.size B Wb Ob p q G Wg Og) ∨
  (80 < m ∧ e = .returned (.tuple #[.pointer none, .pointer none]) ∧ Below w.heap.size w w')
def GrowSt (w wr : World) (B Wb Ob p q G Wg Og n c : Nat) : Prop := ∃ W own, Pair wr B Wb Ob p q G Wg Og n W own ∧ (own.length = c ∧ Bnd own) ∧ Below w.heap.size w wr
theorem GrowSt.step (h : GrowSt w w' B Wb Ob p q G Wg Og size c) (hF : Fresh8 w.heap.size B Wb Ob p q G Wg Og) (hT : Tab w) (x : Act3) (hx : good3 x) :
    Calls Tryd.prog 36 #[.agg #[.int .i64 x.kind, .int .i64 x.a, .int .i64 x.b, .int .i64 x.c, .int .u64 x.x], .pointer (some ⟨B, 0, none⟩), .pointer (some ⟨G, 0, none⟩)] w' fun e w2 => e = .returned (.bool true) ∧ GrowSt w w2 B Wb Ob p q G Wg Og size c := by
  obtain ⟨W, own, h1, h2, h3⟩ := h
  have hlt := lt_of_cell (hT 0 (by decide))
  refine (do_any h1 (fun j hj => (h3.cell (p := ⟨0, j, none⟩) hlt).trans (hT j hj)) x.kind x.a x.b x.c x.x hx.2.1.2).mono ?_
  rintro e w2 ⟨rfl, W', own', g1, g2, g3⟩
  exact ⟨rfl, W', own', g1, ⟨by rw [(h1.lens g1 g2).1, h2.1], h2.2.grew g3 hx.1 hx.2.1⟩, Mod.below h3 g2 (fun k e => hF k e.eight) h3.size⟩
set_option maxRecDepth 100000 in
set_option maxHeartbeats 2000000 in
theorem grown3_any (zc zw : Int) (c n : Nat) (hc : (c : Int) = 1 + max 0 zc % 12) (hc1 : 1 ≤ c) (hc2 : c ≤ 12) (hn : (n : Int) = 1 + max 0 zw % 12) (hn1 : 1 ≤ n) (hn2 : n ≤ 12)
    (A : Option Addr) (l : List Act3) (cp : Nat) (hl : l.length ≤ cp) (hm : l.length ≤ maxLen) (hS : SliceOf w A 5 act3Enc act30 l) (hg : ∀ x ∈ l, good3 x) (hT : Tab w) :
    Calls Tryd.prog 21 #[.agg #[.int .i64 zc, .int .i64 zw], .slice A l.length cp] w (GrownPost3 c n l.length w) := by
  unfold maxLen at hm
  have hb0 := below1 w (.cells #[.int .i64 zc, .int .i64 zw] 36)
  have hbx := heap_alloc_new w (.cells #[.int .i64 zc, .int .i64 zw] 36)
  have k0 := (blk_cells hbx 0).trans rfl
  have k1 := (blk_cells hbx 1).trans rfl
  have HM := Lib.hid (made3_any zc zw c n (w.alloc (.cells #[.int .i64 zc, .int .i64 zw] 36)) hc hc1 hc2 hn hn1 hn2)
  have HB0 := Lib.hid hb0
  have hz0 : (w.alloc (.cells #[.int .i64 zc, .int .i64 zw] 36)).heap.size = w.heap.size + 1 := World.size_alloc _ _
  have HS := Lib.hid hS
  have HG := Lib.hid hg
  have HT := Lib.hid hT
  clear hbx hb0 hc hn hS hg hT
  go_enter Tryd.func21, Tryd.ntmps21
  go_wp2_with fail
  refine HM.out.mono ?_
  rintro e w1 ⟨B, Wb, Ob, p, q, G, Wg, Og, rfl, hP, hb1, hF⟩
  have HP := Lib.hid hP
  have HB1 := Lib.hid (HB0.out.on hb1)
  have HF : Hid (Fresh8 w.heap.size B Wb Ob p q G Wg Og) := Lib.hid (fun k e => by have := hF k e; omega)
  clear hP hb1 hF HM k0 k1
  by_cases hlong : 80 < l.length
  · have hl' : (80 : Int) < (l.length : Int) := by omega
    go_wp2
    go_ret2
    exact .inr ⟨hlong, rfl, HB1.out⟩
  · have hl' : ¬ (80 : Int) < (l.length : Int) := by omega
    have HSt : Hid (GrowSt w w1 B Wb Ob p q G Wg Og n c) := Lib.hid ⟨_, _, HP.out, ⟨by simp, bnd_zero _⟩, HB1.out⟩
    have HLE : Hid (l.length ≤ 80) := Lib.hid (by omega)
    clear HP HB1
    go_wp2_with fail
    go_loopw [24] (fun v24 wr => ∃ k : Nat, k ≤ l.length ∧ v24 = .int .i64 k ∧ Hid (GrowSt w wr B Wb Ob p q G Wg Og n c)) (fun v24 _ => l.length - (intOf v24).toNat)
    case atStart => exact ⟨0, by omega, rfl, HSt⟩
    case round =>
      obtain ⟨k, hk, rfl, HSr⟩ := hrel
      clear HSt
      have hBr : Below w.heap.size w wr := by obtain ⟨_, _, _, _, h9⟩ := HSr.out; exact h9
      by_cases hlt : k < l.length
      · obtain ⟨b, o, rfl, e0, e1, e2, e3, e4⟩ := act3_cells (HS.out.on hBr) k hlt
        have hgx : good3 (l.getD k act30) := by
          have : l.getD k act30 = l[k] := by simp [List.getD, hlt]
          rw [this]; exact HG.out _ (List.getElem_mem hlt)
        generalize l.getD k act30 = x at *
        have HST : Hid _ := Lib.hid (GrowSt.step (w' := wr.alloc (.cells #[.int .i64 x.kind, .int .i64 x.a, .int .i64 x.b, .int .i64 x.c, .int .u64 x.x] 67)) (by
          obtain ⟨W, own, h1, h2, h3⟩ := HSr.out
          exact ⟨W, own, h1.on (below1 _ _), h2, h3.on (below1 _ _)⟩) HF.out HT.out x hgx)
        obtain ⟨xk, xa, xb, xc, xx⟩ := x
        dsimp only at e0 e1 e2 e3 e4 HST
        clear hgx hBr
        go_wp2_with fail
        refine HST.out.mono ?_
        rintro e w2 ⟨rfl, hS2⟩
        have HS2 := Lib.hid hS2
        clear hS2 HST e0 e1 e2 e3 e4
        go_wp2
        go_roundw
        case rel => exact ⟨k + 1, by omega, by go_num, HS2⟩
        case measure => simp [intOf]; omega
      · obtain rfl : k = l.length := by omega
        go_wp2
        go_ret2
        obtain ⟨W, own, h1, h2, h3⟩ := HSr.out
        exact .inl ⟨HLE.out, B, Wb, Ob, p, q, G, Wg, Og, W, own, rfl, h1, h2, h3, HF.out⟩
end Go.Proofs.YtkaflgbipjppmaaDoor
