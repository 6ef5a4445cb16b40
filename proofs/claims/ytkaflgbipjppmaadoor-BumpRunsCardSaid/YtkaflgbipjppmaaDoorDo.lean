/- What an act does to a store and the document's: a walk. -/
import Derived.Test.YtkaflgbipjppmaaDoorPa
import Derived.Deep.RegionHeld3
namespace Go.Proofs.YtkaflgbipjppmaaDoor
open Go.RowKit
set_option linter.unusedVariables false
set_option linter.unusedSimpArgs false
variable {w w' : World} {B Wb Ob p q G Wg Og size : Nat} {W W' own own' : List Int}
/-- An act: Kind, A, B, C, X. -/
structure Act3 where
  kind : Int
  a : Int
  b : Int
  c : Int
  x : Int
def act3Enc (x : Act3) : List Value := [.int .i64 x.kind, .int .i64 x.a, .int .i64 x.b, .int .i64 x.c, .int .u64 x.x]
def act30 : Act3 := ⟨0, 0, 0, 0, 0⟩
def i64B (x : Int) : Prop := -9223372036854775808 ≤ x ∧ x < 9223372036854775808
def DoPost (w : World) (B Wb Ob p q G Wg Og size : Nat) (own : List Int) (a b : Int) (e : Ending) (w' : World) : Prop := e = .returned (.bool true) ∧ ∃ W' own', Pair w' B Wb Ob p q G Wg Og size W' own' ∧ Mod (Six Wb Ob p q Wg Og) w w' ∧ Grew own own' a b
set_option maxRecDepth 100000 in
set_option maxHeartbeats 1000000 in
theorem do_take (h : Pair w B Wb Ob p q G Wg Og size W own) (hT : Tab w) (a b c x : Int) :
    Calls Tryd.prog 36 #[.agg #[.int .i64 0, .int .i64 a, .int .i64 b, .int .i64 c, .int .u64 x], .pointer (some ⟨B, 0, none⟩), .pointer (some ⟨G, 0, none⟩)] w (DoPost w B Wb Ob p q G Wg Og size own a b) := by
  obtain ⟨u, y, W', own', hTW, hGR⟩ := take_tw W own size a 1 (by decide)
  have HGR := Lib.hid (hGR b)
  clear hGR
  have hb0 := below1 w (.cells #[.int .i64 0, .int .i64 a, .int .i64 b, .int .i64 c, .int .u64 x] 67)
  have hbx := heap_alloc_new w (.cells #[.int .i64 0, .int .i64 a, .int .i64 b, .int .i64 c, .int .u64 x] 67)
  have hlt := h.lt
  have h0 := h.on hb0
  have hT0 := hT.on hb0
  go_enter Tryd.func36, Tryd.ntmps36
  have HBX : Hid _ := Lib.hid hbx
  have HB0 := Lib.hid hb0
  have H0 := Lib.hid h0
  have HLT := Lib.hid hlt
  have HT0 := Lib.hid hT0
  have k1 := (blk_cells hbx 1).trans rfl
  have HC1 := Lib.hid (hTW.one h0.st hT0)
  have HTW := Lib.hid hTW
  clear hbx hb0 h0 hlt h hT hT0 hTW
  go_wp2_with fail
  refine HC1.out.mono ?_
  rintro e w1 ⟨rfl, hS1, hM1⟩
  have hbx1 := hM1.keeps HBX.out (fun e => Nat.lt_irrefl _ (HLT.out _ (.inl (.inr e))))
  have q1 := (blk_cells hbx1 1).trans rfl
  have HS1 := Lib.hid hS1
  have HM1 := Lib.hid hM1
  have HC2 := Lib.hid (HTW.out.2 _ _ _ _ (H0.out.half hM1))
  clear k1 hS1 hM1 hbx1 HC1
  go_wp2_with fail
  refine HC2.out.mono ?_
  rintro e w2 ⟨rfl, hR2, hM2⟩
  have HD := Lib.hid (H0.out.done HS1.out HM1.out hR2 hM2)
  clear hR2 hM2 HC2
  go_wp2
  go_ret
  exact ⟨rfl, _, _, HD.out.1, (Mod.of_below HB0.out).trans HD.out.2, HGR.out⟩
set_option maxRecDepth 100000 in
set_option maxHeartbeats 1000000 in
theorem do_run (h : Pair w B Wb Ob p q G Wg Og size W own) (hT : Tab w) (a b c x : Int) (hb : b < 9223372036854775808) :
    Calls Tryd.prog 36 #[.agg #[.int .i64 1, .int .i64 a, .int .i64 b, .int .i64 c, .int .u64 x], .pointer (some ⟨B, 0, none⟩), .pointer (some ⟨G, 0, none⟩)] w (DoPost w B Wb Ob p q G Wg Og size own a b) := by
  obtain ⟨u, y, W', own', hTW, hGR⟩ := take_tw W own size a b hb
  have HGR := Lib.hid (hGR b)
  clear hGR
  have hb0 := below1 w (.cells #[.int .i64 1, .int .i64 a, .int .i64 b, .int .i64 c, .int .u64 x] 67)
  have hbx := heap_alloc_new w (.cells #[.int .i64 1, .int .i64 a, .int .i64 b, .int .i64 c, .int .u64 x] 67)
  have hlt := h.lt
  have h0 := h.on hb0
  have hT0 := hT.on hb0
  go_enter Tryd.func36, Tryd.ntmps36
  have HBX : Hid _ := Lib.hid hbx
  have HB0 := Lib.hid hb0
  have H0 := Lib.hid h0
  have HLT := Lib.hid hlt
  have HT0 := Lib.hid hT0
  have k1 := (blk_cells hbx 1).trans rfl
  have k2 := (blk_cells hbx 2).trans rfl
  have HC1 := Lib.hid (hTW.1 _ _ _ _ _ _ h0.st hT0)
  have HTW := Lib.hid hTW
  clear hbx hb0 h0 hlt h hT hT0 hTW
  go_wp2_with fail
  refine HC1.out.mono ?_
  rintro e w1 ⟨rfl, hS1, hM1⟩
  have hbx1 := hM1.keeps HBX.out (fun e => Nat.lt_irrefl _ (HLT.out _ (.inl (.inr e))))
  have q1 := (blk_cells hbx1 1).trans rfl
  have q2 := (blk_cells hbx1 2).trans rfl
  have HS1 := Lib.hid hS1
  have HM1 := Lib.hid hM1
  have HC2 := Lib.hid (HTW.out.2 _ _ _ _ (H0.out.half hM1))
  clear k1 k2 hS1 hM1 hbx1 HC1
  go_wp2_with fail
  refine HC2.out.mono ?_
  rintro e w2 ⟨rfl, hR2, hM2⟩
  have HD := Lib.hid (H0.out.done HS1.out HM1.out hR2 hM2)
  clear hR2 hM2 HC2
  go_wp2
  go_ret
  exact ⟨rfl, _, _, HD.out.1, (Mod.of_below HB0.out).trans HD.out.2, HGR.out⟩
set_option maxRecDepth 100000 in
set_option maxHeartbeats 4000000 in
theorem do_rel (h : Pair w B Wb Ob p q G Wg Og size W own) (hT : Tab w) (a b c x : Int) :
    Calls Tryd.prog 36 #[.agg #[.int .i64 2, .int .i64 a, .int .i64 b, .int .i64 c, .int .u64 x], .pointer (some ⟨B, 0, none⟩), .pointer (some ⟨G, 0, none⟩)] w (DoPost w B Wb Ob p q G Wg Og size own a b) := by
  obtain ⟨y, own', hTW, hGR⟩ := rel_tw W own size a
  have HGR := Lib.hid (hGR a b)
  clear hGR
  have hb0 := below1 w (.cells #[.int .i64 2, .int .i64 a, .int .i64 b, .int .i64 c, .int .u64 x] 67)
  have hbx := heap_alloc_new w (.cells #[.int .i64 2, .int .i64 a, .int .i64 b, .int .i64 c, .int .u64 x] 67)
  have hlt := h.lt
  have h0 := h.on hb0
  have hT0 := hT.on hb0
  go_enter Tryd.func36, Tryd.ntmps36
  have HBX : Hid _ := Lib.hid hbx
  have HB0 := Lib.hid hb0
  have H0 := Lib.hid h0
  have HLT := Lib.hid hlt
  have HT0 := Lib.hid hT0
  have k1 := (blk_cells hbx 1).trans rfl
  have hbd : Below (w.alloc (.cells #[.int .i64 2, .int .i64 a, .int .i64 b, .int .i64 c, .int .u64 x] 67)).heap.size (w.alloc (.cells #[.int .i64 2, .int .i64 a, .int .i64 b, .int .i64 c, .int .u64 x] 67)) (w.alloc (.cells #[.int .i64 2, .int .i64 a, .int .i64 b, .int .i64 c, .int .u64 x] 67)).drew := Below.drew (Below.refl _ _)
  have H0D := Lib.hid (h0.on hbd)
  have HBD := Lib.hid hbd
  have HC1 := Lib.hid (hTW.1 _ _ _ _ _ _ (h0.on hbd).st)
  have HTW := Lib.hid hTW
  have HBXD : Hid ((w.alloc (.cells #[.int .i64 2, .int .i64 a, .int .i64 b, .int .i64 c, .int .u64 x] 67)).drew.heap[w.heap.size]? = some (.cells #[.int .i64 2, .int .i64 a, .int .i64 b, .int .i64 c, .int .u64 x] 67 (0, 0))) := Lib.hid hbx
  clear hbx hb0 h0 hlt h hT hT0 hTW hbd
  go_wp2_with fail
  go_region_held3 (fun wk => wk.cell? ⟨w.heap.size, 1, none⟩ = some (.int .i64 a)) (first | assumption | exact k1 | exact r1 | exact q1) (first | (go_at_call 28; refine HC1.out.mono ?_; rintro e w1 ⟨rfl, hS1, hM1⟩; have hbx1 := hM1.keeps HBXD.out (fun e => Nat.lt_irrefl _ (HLT.out _ (.inl (.inr e)))); have q1 := (blk_cells hbx1 1).trans rfl; have HBX1 := Lib.hid hbx1; have HS1 := Lib.hid hS1; have HM1 := Lib.hid hM1; have HC2 := Lib.hid (HTW.out.2 _ _ _ _ (H0D.out.half hM1)); clear hbx1 hS1 hM1 HC1) | (go_at_call 64; refine HC2.out.mono ?_; rintro e w2 ⟨rfl, hR2, hM2⟩; have HD := Lib.hid (H0D.out.done HS1.out HM1.out hR2 hM2); have hbx2 := hM2.keeps HBX1.out (fun e => Nat.lt_irrefl _ (HLT.out _ (Six.eight (.inr e)))); have r1 := (blk_cells hbx2 1).trans rfl; clear hR2 hM2 HC2 hbx2))
  all_goals
    go_wp2
    go_ret
    exact ⟨rfl, _, _, HD.out.1, (Mod.of_below (HB0.out.on HBD.out)).trans HD.out.2, HGR.out⟩
set_option maxRecDepth 100000 in
set_option maxHeartbeats 4000000 in
theorem do_give (h : Pair w B Wb Ob p q G Wg Og size W own) (hT : Tab w) (a b c x : Int) :
    Calls Tryd.prog 36 #[.agg #[.int .i64 3, .int .i64 a, .int .i64 b, .int .i64 c, .int .u64 x], .pointer (some ⟨B, 0, none⟩), .pointer (some ⟨G, 0, none⟩)] w (DoPost w B Wb Ob p q G Wg Og size own a b) := by
  obtain ⟨y, own', hTW, hGR⟩ := give_tw W own size a b
  have HGR := Lib.hid (hGR a)
  clear hGR
  have hb0 := below1 w (.cells #[.int .i64 3, .int .i64 a, .int .i64 b, .int .i64 c, .int .u64 x] 67)
  have hbx := heap_alloc_new w (.cells #[.int .i64 3, .int .i64 a, .int .i64 b, .int .i64 c, .int .u64 x] 67)
  have hlt := h.lt
  have h0 := h.on hb0
  have hT0 := hT.on hb0
  go_enter Tryd.func36, Tryd.ntmps36
  have HBX : Hid _ := Lib.hid hbx
  have HB0 := Lib.hid hb0
  have H0 := Lib.hid h0
  have HLT := Lib.hid hlt
  have HT0 := Lib.hid hT0
  have k1 := (blk_cells hbx 1).trans rfl
  have k2 := (blk_cells hbx 2).trans rfl
  have hbd : Below (w.alloc (.cells #[.int .i64 3, .int .i64 a, .int .i64 b, .int .i64 c, .int .u64 x] 67)).heap.size (w.alloc (.cells #[.int .i64 3, .int .i64 a, .int .i64 b, .int .i64 c, .int .u64 x] 67)) (w.alloc (.cells #[.int .i64 3, .int .i64 a, .int .i64 b, .int .i64 c, .int .u64 x] 67)).drew := Below.drew (Below.refl _ _)
  have H0D := Lib.hid (h0.on hbd)
  have HBD := Lib.hid hbd
  have HC1 := Lib.hid (hTW.1 _ _ _ _ _ _ (h0.on hbd).st)
  have HTW := Lib.hid hTW
  have HBXD : Hid ((w.alloc (.cells #[.int .i64 3, .int .i64 a, .int .i64 b, .int .i64 c, .int .u64 x] 67)).drew.heap[w.heap.size]? = some (.cells #[.int .i64 3, .int .i64 a, .int .i64 b, .int .i64 c, .int .u64 x] 67 (0, 0))) := Lib.hid hbx
  clear hbx hb0 h0 hlt h hT hT0 hTW hbd
  go_wp2_with fail
  go_region_held3 (fun wk => wk.cell? ⟨w.heap.size, 1, none⟩ = some (.int .i64 a) ∧ wk.cell? ⟨w.heap.size, 2, none⟩ = some (.int .i64 b)) (first | assumption | exact ⟨k1, k2⟩ | exact ⟨r1, r2⟩ | exact ⟨q1, q2⟩) (first | (go_at_call 30; refine HC1.out.mono ?_; rintro e w1 ⟨rfl, hS1, hM1⟩; have hbx1 := hM1.keeps HBXD.out (fun e => Nat.lt_irrefl _ (HLT.out _ (.inl (.inr e)))); have q1 := (blk_cells hbx1 1).trans rfl; have q2 := (blk_cells hbx1 2).trans rfl; have HBX1 := Lib.hid hbx1; have HS1 := Lib.hid hS1; have HM1 := Lib.hid hM1; have HC2 := Lib.hid (HTW.out.2 _ _ _ _ (H0D.out.half hM1)); clear hbx1 hS1 hM1 HC1) | (go_at_call 65; refine HC2.out.mono ?_; rintro e w2 ⟨rfl, hR2, hM2⟩; have HD := Lib.hid (H0D.out.done HS1.out HM1.out hR2 hM2); have hbx2 := hM2.keeps HBX1.out (fun e => Nat.lt_irrefl _ (HLT.out _ (Six.eight (.inr e)))); have r1 := (blk_cells hbx2 1).trans rfl; have r2 := (blk_cells hbx2 2).trans rfl; clear hR2 hM2 HC2 hbx2))
  all_goals
    go_wp2
    go_ret
    exact ⟨rfl, _, _, HD.out.1, (Mod.of_below (HB0.out.on HBD.out)).trans HD.out.2, HGR.out⟩
set_option maxRecDepth 100000 in
set_option maxHeartbeats 4000000 in
theorem do_copy (h : Pair w B Wb Ob p q G Wg Og size W own) (hT : Tab w) (a b c x : Int) :
    Calls Tryd.prog 36 #[.agg #[.int .i64 6, .int .i64 a, .int .i64 b, .int .i64 c, .int .u64 x], .pointer (some ⟨B, 0, none⟩), .pointer (some ⟨G, 0, none⟩)] w (DoPost w B Wb Ob p q G Wg Og size own a b) := by
  obtain ⟨y, W', hTW⟩ := copy_tw W own size a b c
  have HGR := Lib.hid (Grew.refl own a b)
  have hb0 := below1 w (.cells #[.int .i64 6, .int .i64 a, .int .i64 b, .int .i64 c, .int .u64 x] 67)
  have hbx := heap_alloc_new w (.cells #[.int .i64 6, .int .i64 a, .int .i64 b, .int .i64 c, .int .u64 x] 67)
  have hlt := h.lt
  have h0 := h.on hb0
  have hT0 := hT.on hb0
  go_enter Tryd.func36, Tryd.ntmps36
  have HBX : Hid _ := Lib.hid hbx
  have HB0 := Lib.hid hb0
  have H0 := Lib.hid h0
  have HLT := Lib.hid hlt
  have HT0 := Lib.hid hT0
  have k1 := (blk_cells hbx 1).trans rfl
  have k2 := (blk_cells hbx 2).trans rfl
  have k3 := (blk_cells hbx 3).trans rfl
  have hbd : Below (w.alloc (.cells #[.int .i64 6, .int .i64 a, .int .i64 b, .int .i64 c, .int .u64 x] 67)).heap.size (w.alloc (.cells #[.int .i64 6, .int .i64 a, .int .i64 b, .int .i64 c, .int .u64 x] 67)) (w.alloc (.cells #[.int .i64 6, .int .i64 a, .int .i64 b, .int .i64 c, .int .u64 x] 67)).drew := Below.drew (Below.refl _ _)
  have H0D := Lib.hid (h0.on hbd)
  have HBD := Lib.hid hbd
  have HC1 := Lib.hid (hTW.1 _ _ _ _ _ _ (h0.on hbd).st)
  have HTW := Lib.hid hTW
  have HBXD : Hid ((w.alloc (.cells #[.int .i64 6, .int .i64 a, .int .i64 b, .int .i64 c, .int .u64 x] 67)).drew.heap[w.heap.size]? = some (.cells #[.int .i64 6, .int .i64 a, .int .i64 b, .int .i64 c, .int .u64 x] 67 (0, 0))) := Lib.hid hbx
  clear hbx hb0 h0 hlt h hT hT0 hTW hbd
  go_wp2_with fail
  go_region_held3 (fun wk => wk.cell? ⟨w.heap.size, 1, none⟩ = some (.int .i64 a) ∧ wk.cell? ⟨w.heap.size, 2, none⟩ = some (.int .i64 b) ∧ wk.cell? ⟨w.heap.size, 3, none⟩ = some (.int .i64 c)) (first | assumption | exact ⟨k1, k2, k3⟩ | exact ⟨r1, r2, r3⟩ | exact ⟨q1, q2, q3⟩) (first | (go_at_call 24; refine HC1.out.mono ?_; rintro e w1 ⟨rfl, hS1, hM1⟩; have hbx1 := hM1.keeps HBXD.out (fun e => Nat.lt_irrefl _ (HLT.out _ (.inl (.inr e)))); have q1 := (blk_cells hbx1 1).trans rfl; have q2 := (blk_cells hbx1 2).trans rfl; have q3 := (blk_cells hbx1 3).trans rfl; have HBX1 := Lib.hid hbx1; have HS1 := Lib.hid hS1; have HM1 := Lib.hid hM1; have HC2 := Lib.hid (HTW.out.2 _ _ _ _ (H0D.out.half hM1)); clear hbx1 hS1 hM1 HC1) | (go_at_call 67; refine HC2.out.mono ?_; rintro e w2 ⟨rfl, hR2, hM2⟩; have HD := Lib.hid (H0D.out.done HS1.out HM1.out hR2 hM2); have hbx2 := hM2.keeps HBX1.out (fun e => Nat.lt_irrefl _ (HLT.out _ (Six.eight (.inr e)))); have r1 := (blk_cells hbx2 1).trans rfl; have r2 := (blk_cells hbx2 2).trans rfl; have r3 := (blk_cells hbx2 3).trans rfl; clear hR2 hM2 HC2 hbx2))
  all_goals
    go_wp2
    go_ret
    exact ⟨rfl, _, _, HD.out.1, (Mod.of_below (HB0.out.on HBD.out)).trans HD.out.2, HGR.out⟩
set_option maxRecDepth 100000 in
set_option maxHeartbeats 1000000 in
theorem do_read_out (h : Pair w B Wb Ob p q G Wg Og size W own) (hT : Tab w) (a b c x : Int) (ha : a < 0 ∨ W.length ≤ a) :
    Calls Tryd.prog 36 #[.agg #[.int .i64 4, .int .i64 a, .int .i64 b, .int .i64 c, .int .u64 x], .pointer (some ⟨B, 0, none⟩), .pointer (some ⟨G, 0, none⟩)] w (DoPost w B Wb Ob p q G Wg Og size own a b) := by
  have hb0 := below1 w (.cells #[.int .i64 4, .int .i64 a, .int .i64 b, .int .i64 c, .int .u64 x] 67)
  have hbx := heap_alloc_new w (.cells #[.int .i64 4, .int .i64 a, .int .i64 b, .int .i64 c, .int .u64 x] 67)
  have hlt := h.lt
  have h0 := h.on hb0
  have hT0 := hT.on hb0
  go_enter Tryd.func36, Tryd.ntmps36
  have HBX : Hid _ := Lib.hid hbx
  have HB0 := Lib.hid hb0
  have H0 := Lib.hid h0
  have HLT := Lib.hid hlt
  have HT0 := Lib.hid hT0
  have k1 := (blk_cells hbx 1).trans rfl
  have HC1 := Lib.hid (read_out h0.st a ha)
  have HC2 := Lib.hid (rat_out h0.rf a ha)
  clear hbx hb0 h0 hlt h hT hT0 ha
  go_wp2_with fail
  refine HC1.out.mono ?_
  rintro e w1 ⟨rfl, rfl⟩
  clear HC1
  go_wp2_with fail
  refine HC2.out.mono ?_
  rintro e w1 ⟨rfl, rfl⟩
  clear HC2
  go_wp2_with fail
  go_quiet (fail)
  go_wp2
  go_ret
  exact ⟨rfl, _, _, H0.out.on (below_drewN (Below.refl _ _) _), (Mod.of_below HB0.out).drewN _, Grew.refl _ _ _⟩
set_option maxRecDepth 100000 in
set_option maxHeartbeats 1000000 in
theorem do_read_in (h : Pair w B Wb Ob p q G Wg Og size W own) (hT : Tab w) (a b c x : Int) (ha : 0 ≤ a ∧ a < W.length) :
    Calls Tryd.prog 36 #[.agg #[.int .i64 4, .int .i64 a, .int .i64 b, .int .i64 c, .int .u64 x], .pointer (some ⟨B, 0, none⟩), .pointer (some ⟨G, 0, none⟩)] w (DoPost w B Wb Ob p q G Wg Og size own a b) := by
  obtain ⟨m, rfl⟩ : ∃ m : Nat, a = m := ⟨a.toNat, by omega⟩
  have hm : m < W.length := by omega
  by_cases hz : own.getD (m / size) 0 = 0
  · have e1 : readV W own size m = 0 := if_pos hz
    have e2 : chE own (m / size) = 17 := if_pos hz
    have hb0 := below1 w (.cells #[.int .i64 4, .int .i64 m, .int .i64 b, .int .i64 c, .int .u64 x] 67)
    have hbx := heap_alloc_new w (.cells #[.int .i64 4, .int .i64 m, .int .i64 b, .int .i64 c, .int .u64 x] 67)
    have hlt := h.lt
    have h0 := h.on hb0
    have hT0 := hT.on hb0
    go_enter Tryd.func36, Tryd.ntmps36
    have HBX : Hid _ := Lib.hid hbx
    have HB0 := Lib.hid hb0
    have H0 := Lib.hid h0
    have HLT := Lib.hid hlt
    have HT0 := Lib.hid hT0
    have k1 := (blk_cells hbx 1).trans rfl
    have HC1 := Lib.hid (read_in h0.st m hm)
    have HC2 := Lib.hid (rat_in h0.rf m hm)
    rw [e1, e2] at HC1
    rw [e2] at HC2
    clear hbx hb0 h0 hlt h hT hT0 ha hz e1 e2
    go_wp2_with fail
    refine HC1.out.mono ?_
    rintro e w1 ⟨rfl, rfl⟩
    clear HC1
    go_wp2_with fail
    refine HC2.out.mono ?_
    rintro e w1 ⟨rfl, rfl⟩
    clear HC2
    go_wp2_with fail
    go_quiet (fail)
    go_wp2
    go_ret
    exact ⟨rfl, _, _, H0.out.on (below_drewN (Below.refl _ _) _), (Mod.of_below HB0.out).drewN _, Grew.refl _ _ _⟩
  · have e1 : readV W own size m = W.getD m 0 := if_neg hz
    have e2 : chE own (m / size) = 0 := if_neg hz
    have hb0 := below1 w (.cells #[.int .i64 4, .int .i64 m, .int .i64 b, .int .i64 c, .int .u64 x] 67)
    have hbx := heap_alloc_new w (.cells #[.int .i64 4, .int .i64 m, .int .i64 b, .int .i64 c, .int .u64 x] 67)
    have hlt := h.lt
    have h0 := h.on hb0
    have hT0 := hT.on hb0
    go_enter Tryd.func36, Tryd.ntmps36
    have HBX : Hid _ := Lib.hid hbx
    have HB0 := Lib.hid hb0
    have H0 := Lib.hid h0
    have HLT := Lib.hid hlt
    have HT0 := Lib.hid hT0
    have k1 := (blk_cells hbx 1).trans rfl
    have HC1 := Lib.hid (read_in h0.st m hm)
    have HC2 := Lib.hid (rat_in h0.rf m hm)
    rw [e1, e2] at HC1
    rw [e2] at HC2
    have d0 := h0.rf.c0
    have d1 := h0.rf.word_cell m hm
    have hwl := h0.rf.wlen
    generalize W.getD m 0 = v at HC1 d1
    have hv : (v != v) = false := by simp
    clear hbx hb0 h0 hlt h hT hT0 ha hz e1 e2
    go_wp2_with fail
    refine HC1.out.mono ?_
    rintro e w1 ⟨rfl, rfl⟩
    clear HC1
    go_wp2_with fail
    refine HC2.out.mono ?_
    rintro e w1 ⟨rfl, rfl⟩
    clear HC2
    go_wp2_with fail
    go_quiet (fail)
    go_wp2
    go_ret
    exact ⟨rfl, _, _, H0.out.on (below_drewN (Below.refl _ _) _), (Mod.of_below HB0.out).drewN _, Grew.refl _ _ _⟩
set_option maxRecDepth 100000 in
set_option maxHeartbeats 1000000 in
theorem do_write_out (h : Pair w B Wb Ob p q G Wg Og size W own) (hT : Tab w) (a b c x : Int) (ha : a < 0 ∨ W.length ≤ a) :
    Calls Tryd.prog 36 #[.agg #[.int .i64 5, .int .i64 a, .int .i64 b, .int .i64 c, .int .u64 x], .pointer (some ⟨B, 0, none⟩), .pointer (some ⟨G, 0, none⟩)] w (DoPost w B Wb Ob p q G Wg Og size own a b) := by
  have hb0 := below1 w (.cells #[.int .i64 5, .int .i64 a, .int .i64 b, .int .i64 c, .int .u64 x] 67)
  have hbx := heap_alloc_new w (.cells #[.int .i64 5, .int .i64 a, .int .i64 b, .int .i64 c, .int .u64 x] 67)
  have hlt := h.lt
  have h0 := h.on hb0
  have hT0 := hT.on hb0
  go_enter Tryd.func36, Tryd.ntmps36
  have HBX : Hid _ := Lib.hid hbx
  have HB0 := Lib.hid hb0
  have H0 := Lib.hid h0
  have HLT := Lib.hid hlt
  have HT0 := Lib.hid hT0
  have k1 := (blk_cells hbx 1).trans rfl
  have k4 := (blk_cells hbx 4).trans rfl
  have HC1 := Lib.hid (write_out h0.st a x ha)
  have HC2 := Lib.hid (rat_out h0.rf a ha)
  clear hbx hb0 h0 hlt h hT hT0 ha
  go_wp2_with fail
  refine HC1.out.mono ?_
  rintro e w1 ⟨rfl, rfl⟩
  clear HC1
  go_wp2_with fail
  refine HC2.out.mono ?_
  rintro e w1 ⟨rfl, rfl⟩
  clear HC2
  go_wp2
  go_ret
  exact ⟨rfl, _, _, H0.out, Mod.of_below HB0.out, Grew.refl _ _ _⟩
set_option maxRecDepth 100000 in
set_option maxHeartbeats 1000000 in
theorem do_write_in (h : Pair w B Wb Ob p q G Wg Og size W own) (hT : Tab w) (a b c x : Int) (ha : 0 ≤ a ∧ a < W.length) :
    Calls Tryd.prog 36 #[.agg #[.int .i64 5, .int .i64 a, .int .i64 b, .int .i64 c, .int .u64 x], .pointer (some ⟨B, 0, none⟩), .pointer (some ⟨G, 0, none⟩)] w (DoPost w B Wb Ob p q G Wg Og size own a b) := by
  obtain ⟨m, rfl⟩ : ∃ m : Nat, a = m := ⟨a.toNat, by omega⟩
  have hm : m < W.length := by omega
  by_cases hz : own.getD (m / size) 0 = 0
  · have e1 : writeW W own size m x = W := if_pos hz
    have e2 : chE own (m / size) = 17 := if_pos hz
    have hb0 := below1 w (.cells #[.int .i64 5, .int .i64 m, .int .i64 b, .int .i64 c, .int .u64 x] 67)
    have hbx := heap_alloc_new w (.cells #[.int .i64 5, .int .i64 m, .int .i64 b, .int .i64 c, .int .u64 x] 67)
    have hlt := h.lt
    have h0 := h.on hb0
    have hT0 := hT.on hb0
    go_enter Tryd.func36, Tryd.ntmps36
    have HBX : Hid _ := Lib.hid hbx
    have HB0 := Lib.hid hb0
    have H0 := Lib.hid h0
    have HLT := Lib.hid hlt
    have HT0 := Lib.hid hT0
    have k1 := (blk_cells hbx 1).trans rfl
    have k4 := (blk_cells hbx 4).trans rfl
    have HC1 := Lib.hid (write_in h0.st m x hm)
    rw [e1, e2] at HC1
    clear hbx hb0 h0 hlt h hT hT0 ha hz e1
    go_wp2_with fail
    refine HC1.out.mono ?_
    rintro e w1 ⟨rfl, hS1, hM1⟩
    have hbx1 := hM1.keeps HBX.out (fun e => Nat.lt_irrefl _ (HLT.out _ (.inl (.inr e))))
    have q1 := (blk_cells hbx1 1).trans rfl
    have q4 := (blk_cells hbx1 4).trans rfl
    have hr1 := H0.out.half hM1
    have HC2 := Lib.hid (rat_in hr1 m hm)
    rw [e2] at HC2
    have HS1 := Lib.hid hS1
    have HM1 := Lib.hid hM1
    have HR1 := Lib.hid hr1
    clear k1 k4 hS1 hM1 hbx1 HC1 e2
    go_wp2_with fail
    refine HC2.out.mono ?_
    rintro e w2 ⟨rfl, rfl⟩
    clear HC2
    go_wp2
    go_ret
    have HD := H0.out.done HS1.out HM1.out HR1.out (Mod.refl _ _)
    exact ⟨rfl, _, _, HD.1, (Mod.of_below HB0.out).trans HD.2, Grew.refl _ _ _⟩
  · have e1 : writeW W own size m x = W.set m x := if_neg hz
    have e2 : chE own (m / size) = 0 := if_neg hz
    have hb0 := below1 w (.cells #[.int .i64 5, .int .i64 m, .int .i64 b, .int .i64 c, .int .u64 x] 67)
    have hbx := heap_alloc_new w (.cells #[.int .i64 5, .int .i64 m, .int .i64 b, .int .i64 c, .int .u64 x] 67)
    have hlt := h.lt
    have h0 := h.on hb0
    have hT0 := hT.on hb0
    go_enter Tryd.func36, Tryd.ntmps36
    have HBX : Hid _ := Lib.hid hbx
    have HB0 := Lib.hid hb0
    have H0 := Lib.hid h0
    have HLT := Lib.hid hlt
    have HT0 := Lib.hid hT0
    have k1 := (blk_cells hbx 1).trans rfl
    have k4 := (blk_cells hbx 4).trans rfl
    have HC1 := Lib.hid (write_in h0.st m x hm)
    rw [e1, e2] at HC1
    clear hbx hb0 h0 hlt h hT hT0 ha hz e1
    go_wp2_with fail
    refine HC1.out.mono ?_
    rintro e w1 ⟨rfl, hS1, hM1⟩
    have hbx1 := hM1.keeps HBX.out (fun e => Nat.lt_irrefl _ (HLT.out _ (.inl (.inr e))))
    have q1 := (blk_cells hbx1 1).trans rfl
    have q4 := (blk_cells hbx1 4).trans rfl
    have hr1 := H0.out.half hM1
    have HC2 := Lib.hid (rat_in hr1 m hm)
    rw [e2] at HC2
    have HS1 := Lib.hid hS1
    have HM1 := Lib.hid hM1
    have HR1 := Lib.hid hr1
    have k0 := hr1.c0
    have hcell := hr1.word_cell m hm
    have hth := blk_thaw hr1.body m
    have hwl := hr1.wlen
    generalize W.getD m 0 = u0 at hcell
    clear hr1 k1 k4 hS1 hM1 hbx1 HC1 e2
    go_wp2_with fail
    refine HC2.out.mono ?_
    rintro e w2 ⟨rfl, rfl⟩
    clear HC2
    go_wp2_with fail
    obtain ⟨w3, hw3⟩ : ∃ w3, w3 = w1.drew := ⟨_, rfl⟩
    refine still_tail_at 9 (by kernel_rfl) (by kernel_rfl) hw3 ?_
    have HR3 : Hid (RefSt w3 G Wg Og W size own ∧ Mod (Two3 Wg Og) w1 w3) := Lib.hid (by rw [hw3]; exact ⟨HR1.out.on (Below.drew (Below.refl _ _)), (Mod.refl _ _).drew⟩)
    replace k0 : w3.cell? ⟨G, 0, none⟩ = some (.slice (some ⟨Wg, 0, none⟩) W.length W.length) := by rw [hw3]; exact k0
    replace hcell : w3.cell? ⟨Wg, m, none⟩ = some (.int .u64 u0) := by rw [hw3]; exact hcell
    replace hth : w3.frozen? ⟨Wg, m, none⟩ = false := by rw [hw3]; exact hth
    replace q1 : w3.cell? ⟨w.heap.size, 1, none⟩ = some (.int .i64 m) := by rw [hw3]; exact q1
    replace q4 : w3.cell? ⟨w.heap.size, 4, none⟩ = some (.int .u64 x) := by rw [hw3]; exact q4
    clear hw3
    simp only [List.take_succ_cons, List.take_zero, List.drop_succ_cons, List.drop_zero]
    iterate 9
      with_reducible refine wpStill_step ?_
      intro K hK
      go_simp
      with_reducible refine hK _ ?_
      clear hK K
    refine wpStill_nil ?_
    go_wp2
    go_ret
    have hst := HR3.out.1.setW m x
    have HD := H0.out.done HS1.out HM1.out hst.1 (HR3.out.2.trans (hst.2.mono fun _ _ e => .inl e))
    exact ⟨rfl, _, _, HD.1, (Mod.of_below HB0.out).trans HD.2, Grew.refl _ _ _⟩
set_option maxRecDepth 100000 in
set_option maxHeartbeats 1000000 in
theorem do_else (h : Pair w B Wb Ob p q G Wg Og size W own) (k a b c x : Int) (hk : k ≠ 0 ∧ k ≠ 1 ∧ k ≠ 2 ∧ k ≠ 3 ∧ k ≠ 4 ∧ k ≠ 5 ∧ k ≠ 6) :
    Calls Tryd.prog 36 #[.agg #[.int .i64 k, .int .i64 a, .int .i64 b, .int .i64 c, .int .u64 x], .pointer (some ⟨B, 0, none⟩), .pointer (some ⟨G, 0, none⟩)] w (DoPost w B Wb Ob p q G Wg Og size own a b) := by
  obtain ⟨g0, g1, g2, g3, g4, g5, g6⟩ := hk
  have b0 : (k == 0) = false := by simpa using g0
  have b1 : (k == 1) = false := by simpa using g1
  have b2 : (k == 2) = false := by simpa using g2
  have b3 : (k == 3) = false := by simpa using g3
  have b4 : (k == 4) = false := by simpa using g4
  have b5 : (k == 5) = false := by simpa using g5
  have b6 : (k == 6) = false := by simpa using g6
  clear g0 g1 g2 g3 g4 g5 g6
  have HB0 := Lib.hid (below1 w (.cells #[.int .i64 k, .int .i64 a, .int .i64 b, .int .i64 c, .int .u64 x] 67))
  have H := Lib.hid h
  clear h
  go_enter Tryd.func36, Tryd.ntmps36
  go_wp2
  go_ret
  exact ⟨rfl, _, _, H.out.on HB0.out, .of_below HB0.out, Grew.refl _ _ _⟩
theorem do_any (h : Pair w B Wb Ob p q G Wg Og size W own) (hT : Tab w) (k a b c x : Int) (hb : b < 9223372036854775808) :
    Calls Tryd.prog 36 #[.agg #[.int .i64 k, .int .i64 a, .int .i64 b, .int .i64 c, .int .u64 x], .pointer (some ⟨B, 0, none⟩), .pointer (some ⟨G, 0, none⟩)] w (DoPost w B Wb Ob p q G Wg Og size own a b) := by
  by_cases h0 : k = 0
  · subst h0; exact do_take h hT a b c x
  by_cases h1 : k = 1
  · subst h1; exact do_run h hT a b c x hb
  by_cases h2 : k = 2
  · subst h2; exact do_rel h hT a b c x
  by_cases h3 : k = 3
  · subst h3; exact do_give h hT a b c x
  by_cases h4 : k = 4
  · subst h4
    by_cases ha : a < 0 ∨ W.length ≤ a
    · exact do_read_out h hT a b c x ha
    · exact do_read_in h hT a b c x (by omega)
  by_cases h5 : k = 5
  · subst h5
    by_cases ha : a < 0 ∨ W.length ≤ a
    · exact do_write_out h hT a b c x ha
    · exact do_write_in h hT a b c x (by omega)
  by_cases h6 : k = 6
  · subst h6; exact do_copy h hT a b c x
  · exact do_else h k a b c x ⟨h0, h1, h2, h3, h4, h5, h6⟩
end Go.Proofs.YtkaflgbipjppmaaDoor
