/- A right layout's words: walks. -/
import Derived.Test.YtcffenekomiakaaB
import Derived.Test.YtcffenekomiakaaSw
namespace Go.Proofs.Ytcffenekomiakaa
open Go.RowKit
set_option linter.unusedVariables false
set_option linter.unusedSimpArgs false
variable {w w' : World}
set_option maxRecDepth 100000 in
theorem pack_sizes_fin : ∀ F : Fin 65, ∀ R : Fin 65, packI [(0, 8), (8, 8), (16, 48)] [((F.val : Nat) : Int), ((R.val : Nat) : Int), 0] = (((F.val : Nat) : Int) + 256 * ((R.val : Nat) : Int), 0) := by decide +kernel
theorem pack_sizes (F R : Int) (h1 : 0 ≤ F) (h2 : F ≤ 64) (h3 : 0 ≤ R) (h4 : R ≤ 64) : packI [(0, 8), (8, 8), (16, 48)] [F, R, 0] = (F + 256 * R, 0) := by
  obtain ⟨f, rfl⟩ : ∃ f : Nat, F = f := ⟨F.toNat, by omega⟩
  obtain ⟨r, rfl⟩ : ∃ r : Nat, R = r := ⟨R.toNat, by omega⟩
  exact pack_sizes_fin ⟨f, by omega⟩ ⟨r, by omega⟩
theorem sizes_any (w : World) : Calls Try.prog 31 #[] w fun e w' => e = .returned (.slice (some ⟨w.heap.size, 0, none⟩) 3 3) ∧ w' = w.alloc (.cells #[.int .i64 0, .int .i64 8, .int .i64 8, .int .i64 8, .int .i64 16, .int .i64 48] 71) := by
  go_enter Try.func31, Try.ntmps31
  go_wp2
  go_ret
  exact ⟨rfl, rfl⟩
/-- A bit for each place. -/
def gatherGo (m : Int) : List Int → Int
  | [] => m
  | p :: t => gatherGo (bits .or .u64 m (IntKind.u64.wrap (2 ^ p.toNat))) t
def gatherI (l : List Int) : Int := gatherGo 0 l
theorem gather_any (A : Option Addr) (l : List Int) (c : Nat) (w : World) (hl : SliceOf w A 1 encI 0 l) (hc : l.length ≤ 64) (hs : ∀ p ∈ l, 0 ≤ p ∧ p < 64) :
    Calls Try.prog 32 #[.slice A l.length c] w fun e w' => e = .returned (.int .u64 (gatherI l)) ∧ w = w' := by
  have HL := Lib.hid hl
  have HS := Lib.hid hs
  clear hl hs
  go_enter Try.func32, Try.ntmps32
  go_wp2
  go_loopw [3, 8] (fun v3 v8 wr => ∃ (m : Int) (k : Nat), k ≤ l.length ∧ v3 = .int .u64 m ∧ v8 = .int .i64 k ∧ Hid (gatherGo m (l.drop k) = gatherI l) ∧ wr = w) (fun _ v8 _ => l.length - (intOf v8).toNat)
  case atStart => exact ⟨0, 0, by omega, rfl, rfl, Lib.hid rfl, rfl⟩
  case round =>
    obtain ⟨m, k, hk, rfl, rfl, HR, rfl⟩ := hrel
    by_cases hlt : k < l.length
    · obtain ⟨b, o, rfl, hx⟩ := ints_at HL.out k hlt
      have hp := HS.out _ (mem_getD hlt)
      have hg := HR.out
      rw [drop_at l k 0 hlt] at hg
      simp only [gatherGo] at hg
      have HR2 := Lib.hid hg
      clear hg HR
      generalize l.getD k 0 = p at *
      obtain ⟨hp0, hp1⟩ := hp
      have hm : min p.toNat IntKind.u64.bits = p.toNat := by simp [IntKind.bits]; omega
      go_wp2
      go_roundw
      case rel => exact ⟨_, k + 1, by omega, rfl, by go_num, HR2, trivial⟩
      case measure => simp [intOf]; omega
    · obtain rfl : k = l.length := by omega
      have hg := HR.out
      rw [List.drop_length] at hg
      have HR2 := Lib.hid hg
      clear hg HR
      go_wp2
      go_ret
      exact ⟨ret_int HR2.out, rfl⟩
def EncPost (x : Lay) (w : World) (e : Ending) (w' : World) : Prop := ∃ g, e = .returned (.tuple #[.slice (some ⟨g, 0, none⟩) 3 3, .int .i64 0]) ∧ w'.heap[g]? = some (.cells #[.int .u64 (x.fixed + 256 * x.record), .int .u64 (gatherI x.refs), .int .u64 (gatherI x.recs)] 50 (0, 0)) ∧ w.heap.size ≤ g ∧ Below w.heap.size w w'
set_option maxRecDepth 100000 in
set_option maxHeartbeats 2000000 in
theorem encode_yes (x : Lay) (A1 : Option Addr) (c1 : Nat) (A2 : Option Addr) (c2 : Nat) (w : World) (h : LayIs w x A1 c1 A2 c2) (hx : x.right = true) :
    Calls Try.prog 22 #[layV x A1 c1 A2 c2] w (EncPost x w) := by
  have hA : Hid (∀ X, LayIs X x A1 c1 A2 c2 → Calls Try.prog 23 #[.agg #[.int .i64 x.fixed, .slice A1 x.refs.length c1, .int .i64 x.record, .slice A2 x.recs.length c2]] X fun e w' => e = .returned (.bool true) ∧ Below X.heap.size X w') := Lib.hid (fun X hX => by
    have := right_lay _ _ _ _ _ X hX
    rwa [hx] at this)
  obtain ⟨r1, r2, r3, r4, r5, r6, r7⟩ := Lay.right_out hx
  have HP := Lib.hid (pack_sizes x.fixed x.record r1 r2 r3 r4)
  have hl1 := rise_len r6 r1
  have hl2 := rise_len r7 r3
  have HG1 : Hid (∀ X, LayIs X x A1 c1 A2 c2 → Calls Try.prog 32 #[.slice A1 x.refs.length c1] X fun e w' => e = .returned (.int .u64 (gatherI x.refs)) ∧ X = w') := Lib.hid (fun X hX => gather_any _ _ _ X hX.h1 (by omega) (fun p hp => by have := (rise_all r6).2 p hp; omega))
  have HG2 : Hid (∀ X, LayIs X x A1 c1 A2 c2 → Calls Try.prog 32 #[.slice A2 x.recs.length c2] X fun e w' => e = .returned (.int .u64 (gatherI x.recs)) ∧ X = w') := Lib.hid (fun X hX => gather_any _ _ _ X hX.h2 (by omega) (fun p hp => by have := (rise_all r7).2 p hp; omega))
  have hb0 := below1 w (.cells #[.int .i64 x.fixed, .slice A1 x.refs.length c1, .int .i64 x.record, .slice A2 x.recs.length c2] 24)
  have HL := Lib.hid (h.on hb0)
  have HW := Lib.hid h
  have HB0 := Lib.hid hb0
  have hblk := heap_alloc_new w (.cells #[.int .i64 x.fixed, .slice A1 x.refs.length c1, .int .i64 x.record, .slice A2 x.recs.length c2] 24)
  have k0 := (blk_cells hblk 0).trans rfl
  have k1 := (blk_cells hblk 1).trans rfl
  have k2 := (blk_cells hblk 2).trans rfl
  have k3 := (blk_cells hblk 3).trans rfl
  clear h hb0 hblk r5 r6 r7 hx hl1 hl2
  unfold layV EncPost
  have e1 : IntKind.u64.wrap x.fixed = x.fixed := by rw [IntKind.wrap_u64]; omega
  have e2 : IntKind.u64.wrap x.record = x.record := by rw [IntKind.wrap_u64]; omega
  generalize x.fixed = F at *
  generalize x.record = R at *
  generalize gatherI x.refs = G1 at *
  generalize gatherI x.recs = G2 at *
  go_enter Try.func22, Try.ntmps22
  go_wp2_with fail
  refine (hA.out _ HL.out).mono ?_
  rintro e w1 ⟨rfl, hb⟩
  have d0 : _ = some (Value.int .i64 F) := cell_on hb k0
  have d1 : _ = some (Value.slice A1 x.refs.length c1) := cell_on hb k1
  have d2 : _ = some (Value.int .i64 R) := cell_on hb k2
  have d3 : _ = some (Value.slice A2 x.recs.length c2) := cell_on hb k3
  have B1 := HB0.out.on hb
  clear hb k0 k1 k2 k3 hA HL HB0
  go_wp2_with fail
  go_region_held3 (fun wk => (wk.cell? ⟨w.heap.size, 0, none⟩ = some (.int .i64 F) ∧ wk.cell? ⟨w.heap.size, 1, none⟩ = some (.slice A1 x.refs.length c1) ∧ wk.cell? ⟨w.heap.size, 2, none⟩ = some (.int .i64 R) ∧ wk.cell? ⟨w.heap.size, 3, none⟩ = some (.slice A2 x.recs.length c2)) ∧ Below w.heap.size w wk) (first | exact kp4_drew ⟨⟨d0, d1, d2, d3⟩, B1⟩ | exact kp4_alloc _ (by assumption) | exact kp4_call (by assumption) (by assumption)) (first | (go_at_call 31; refine (sizes_any _).mono ?_; rintro e w2 ⟨rfl, rfl⟩) | (go_at_call 30; refine (pack_ok _ _ [(0, 8), (8, 8), (16, 48)] [F, R, 0] 3 3 _ (by intro i hi; refine ⟨_, _, rfl, ?_, ?_⟩ <;> (rcases i with _ | _ | _ | i <;> first | (go_simp; done) | (simp at hi; omega))) (by intro i hi; refine ⟨_, _, rfl, ?_⟩; (rcases i with _ | _ | _ | i <;> first | (go_simp; done) | (simp at hi; omega))) (by intro x hx; simp at hx; omega) (by decide) rfl (by decide +kernel)).mono ?_; rintro e w3 ⟨rfl, hb3⟩; rw [HP.out]))
  all_goals
    have hh := (by assumption : _ ∧ Below w.heap.size w w3)
    clear hb3 d0 d1 d2 d3 B1
    obtain ⟨⟨m0, m1, m2, m3⟩, B3⟩ := hh
    go_wp2_with fail
    go_region_held3 (fun wk => (wk.cell? ⟨w.heap.size, 0, none⟩ = some (.int .i64 F) ∧ wk.cell? ⟨w.heap.size, 1, none⟩ = some (.slice A1 x.refs.length c1) ∧ wk.cell? ⟨w.heap.size, 2, none⟩ = some (.int .i64 R) ∧ wk.cell? ⟨w.heap.size, 3, none⟩ = some (.slice A2 x.recs.length c2)) ∧ Below w.heap.size w wk) (first | exact kp4_drew ⟨⟨m0, m1, m2, m3⟩, B3⟩ | exact kp4_alloc _ (by assumption) | exact kp4_call (by assumption) (Below.refl _ _)) (first | (go_at_call 32; first | (refine (HG1.out _ (HW.out.on (by assumption : _ ∧ Below w.heap.size w _).2)).mono ?_; rintro e w4 ⟨rfl, rfl⟩; clear HG1) | (refine (HG2.out _ (HW.out.on (by assumption : _ ∧ Below w.heap.size w _).2)).mono ?_; rintro e w4 ⟨rfl, rfl⟩)))
    all_goals
      have hB := (by assumption : _ ∧ Below w.heap.size w (w3.alloc _).drew).2
      clear HW HG2 m0 m1 m2 m3
      go_wp2
      go_ret2
      exact ⟨w3.heap.size, rfl, heap_alloc_new w3 _, B3.size, hB⟩
set_option maxRecDepth 100000 in
theorem encode_no (x : Lay) (A1 : Option Addr) (c1 : Nat) (A2 : Option Addr) (c2 : Nat) (w : World) (h : LayIs w x A1 c1 A2 c2) (hx : x.right = false) :
    Calls Try.prog 22 #[layV x A1 c1 A2 c2] w fun e w' => e = .returned (.tuple #[.slice none 0 0, .int .i64 2]) ∧ Below w.heap.size w w' := by
  have hA : Hid (∀ X, LayIs X x A1 c1 A2 c2 → Calls Try.prog 23 #[.agg #[.int .i64 x.fixed, .slice A1 x.refs.length c1, .int .i64 x.record, .slice A2 x.recs.length c2]] X fun e w' => e = .returned (.bool false) ∧ Below X.heap.size X w') := Lib.hid (fun X hX => by
    have := right_lay _ _ _ _ _ X hX
    rwa [hx] at this)
  have hb0 := below1 w (.cells #[.int .i64 x.fixed, .slice A1 x.refs.length c1, .int .i64 x.record, .slice A2 x.recs.length c2] 24)
  have HL := Lib.hid (h.on hb0)
  have HB0 := Lib.hid hb0
  clear h hb0 hx
  unfold layV
  go_enter Try.func22, Try.ntmps22
  go_wp2_with fail
  refine (hA.out _ HL.out).mono ?_
  rintro e w1 ⟨rfl, hb⟩
  have HB1 := Lib.hid (HB0.out.on hb)
  clear hb
  go_wp2
  go_ret2
  exact ⟨rfl, HB1.out⟩
/-- The document's example. -/
def lay0 : Lay := ⟨2, [1], 3, [0, 2]⟩
theorem lay0_right : lay0.right = true := by decide +kernel
theorem lay0_size : lay0.size 2 = (8, 0) := by decide +kernel
theorem lay0_told : lay0.told 2 = [1, 2, 4, 5, 7] := by decide +kernel
theorem lay0_g1 : gatherI [1] = 2 := by decide +kernel
theorem lay0_g2 : gatherI [0, 2] = 5 := by decide +kernel
set_option maxRecDepth 100000 in
set_option maxHeartbeats 2000000 in
theorem alive_any (w : World) : Calls Try.prog 7 #[] w fun e w' => e = .returned (.bool true) ∧ Below w.heap.size w w' := by
  have hb1 := below1 w (.cells #[.int .i64 1] 3)
  have hl1 := heap_alloc_new w (.cells #[.int .i64 1] 3)
  have hz1 : (w.alloc (.cells #[.int .i64 1] 3)).heap.size = w.heap.size + 1 := World.size_alloc _ _
  have hb2 := hb1.on (below1 (w.alloc (.cells #[.int .i64 1] 3)) (.cells #[.int .i64 0, .int .i64 2] 3))
  have hl2 := heap_alloc_new (w.alloc (.cells #[.int .i64 1] 3)) (.cells #[.int .i64 0, .int .i64 2] 3)
  have hm1 := (Below.heap_alloc (w.alloc (.cells #[.int .i64 1] 3)) (.cells #[.int .i64 0, .int .i64 2] 3) _ (block_lt hl1)).trans hl1
  have hz2 : ((w.alloc (.cells #[.int .i64 1] 3)).alloc (.cells #[.int .i64 0, .int .i64 2] 3)).heap.size = w.heap.size + 1 + 1 := by rw [World.size_alloc, hz1]
  rw [hz1] at hl2
  have hb3 := hb2.on (below1 ((w.alloc (.cells #[.int .i64 1] 3)).alloc (.cells #[.int .i64 0, .int .i64 2] 3)) (.cells #[.int .i64 2, .slice (some ⟨w.heap.size, 0, none⟩) 1 1, .int .i64 3, .slice (some ⟨w.heap.size + 1, 0, none⟩) 2 2] 24))
  have hl3 := heap_alloc_new ((w.alloc (.cells #[.int .i64 1] 3)).alloc (.cells #[.int .i64 0, .int .i64 2] 3)) (.cells #[.int .i64 2, .slice (some ⟨w.heap.size, 0, none⟩) 1 1, .int .i64 3, .slice (some ⟨w.heap.size + 1, 0, none⟩) 2 2] 24)
  rw [hz2] at hl3
  have hn1 := (Below.heap_alloc ((w.alloc (.cells #[.int .i64 1] 3)).alloc (.cells #[.int .i64 0, .int .i64 2] 3)) (.cells #[.int .i64 2, .slice (some ⟨w.heap.size, 0, none⟩) 1 1, .int .i64 3, .slice (some ⟨w.heap.size + 1, 0, none⟩) 2 2] 24) _ (block_lt hm1)).trans hm1
  have hn2 := (Below.heap_alloc ((w.alloc (.cells #[.int .i64 1] 3)).alloc (.cells #[.int .i64 0, .int .i64 2] 3)) (.cells #[.int .i64 2, .slice (some ⟨w.heap.size, 0, none⟩) 1 1, .int .i64 3, .slice (some ⟨w.heap.size + 1, 0, none⟩) 2 2] 24) _ (block_lt hl2)).trans hl2
  have HSZ : Hid (∀ X, LayIs X lay0 (some ⟨w.heap.size, 0, none⟩) 1 (some ⟨w.heap.size + 1, 0, none⟩) 2 → Calls Try.prog 9 #[.agg #[.int .i64 2, .slice (some ⟨w.heap.size, 0, none⟩) 1 1, .int .i64 3, .slice (some ⟨w.heap.size + 1, 0, none⟩) 2 2], .int .i64 2] X fun e w' => e = .returned (.tuple #[.int .i64 8, .int .i64 0]) ∧ Below X.heap.size X w') := Lib.hid (fun X hX => by
    have := size_any lay0 2 _ _ _ _ X hX
    rw [lay0_size] at this
    exact this)
  have HEN : Hid (∀ X, LayIs X lay0 (some ⟨w.heap.size, 0, none⟩) 1 (some ⟨w.heap.size + 1, 0, none⟩) 2 → Calls Try.prog 22 #[.agg #[.int .i64 2, .slice (some ⟨w.heap.size, 0, none⟩) 1 1, .int .i64 3, .slice (some ⟨w.heap.size + 1, 0, none⟩) 2 2]] X fun e w' => ∃ g, e = .returned (.tuple #[.slice (some ⟨g, 0, none⟩) 3 3, .int .i64 0]) ∧ w'.heap[g]? = some (.cells #[.int .u64 770, .int .u64 2, .int .u64 5] 50 (0, 0)) ∧ X.heap.size ≤ g ∧ Below X.heap.size X w') := Lib.hid (fun X hX => by
    have := encode_yes lay0 _ _ _ _ X hX lay0_right
    unfold EncPost at this
    rw [show lay0.refs = [1] from rfl, show lay0.recs = [0, 2] from rfl, lay0_g1, lay0_g2] at this
    exact this)
  have HSL : Hid (∀ X, LayIs X lay0 (some ⟨w.heap.size, 0, none⟩) 1 (some ⟨w.heap.size + 1, 0, none⟩) 2 → Calls Try.prog 11 #[.agg #[.int .i64 2, .slice (some ⟨w.heap.size, 0, none⟩) 1 1, .int .i64 3, .slice (some ⟨w.heap.size + 1, 0, none⟩) 2 2], .int .i64 2] X (SlotsPost [1, 2, 4, 5, 7] X)) := Lib.hid (fun X hX => by
    have := slots_any lay0 _ _ _ _ 2 X hX
    rw [lay0_told] at this
    exact this)
  go_enter Try.func7, Try.ntmps7
  go_wp2_with fail
  generalize ((w.alloc (.cells #[.int .i64 1] 3)).alloc (.cells #[.int .i64 0, .int .i64 2] 3)).alloc (.cells #[.int .i64 2, .slice (some ⟨w.heap.size, 0, none⟩) 1 1, .int .i64 3, .slice (some ⟨w.heap.size + 1, 0, none⟩) 2 2] 24) = W3 at *
  have HL : Hid (LayIs W3 lay0 (some ⟨w.heap.size, 0, none⟩) 1 (some ⟨w.heap.size + 1, 0, none⟩) 2) := Lib.hid (by
    refine ⟨fun i hi => ⟨_, _, rfl, fun j v hv => ?_⟩, Nat.le_refl _, by decide, fun i hi => ⟨_, _, rfl, fun j v hv => ?_⟩, Nat.le_refl _, by decide⟩
    · have hi' : i < 1 := hi
      obtain rfl : i = 0 := by omega
      rcases j with _ | j
      · exact ((blk_cells hn1 0).trans rfl).trans hv
      · simp [encI] at hv
    · have hi' : i < 2 := hi
      rcases i with _ | _ | i
      · rcases j with _ | j
        · exact ((blk_cells hn2 0).trans rfl).trans hv
        · simp [encI] at hv
      · rcases j with _ | j
        · exact ((blk_cells hn2 1).trans rfl).trans hv
        · simp [encI] at hv
      · omega)
  have HB := Lib.hid hb3
  have HBK := Lib.hid hl3
  clear hb1 hb2 hb3 hl1 hl2 hl3 hm1 hn1 hn2 hz1 hz2
  refine (HSZ.out _ HL.out).mono ?_
  rintro e w4 ⟨rfl, hb⟩
  have HL4 := Lib.hid (HL.out.on hb)
  have HB4 := Lib.hid (HB.out.on hb)
  have HBK4 := Lib.hid ((hb.block _ (block_lt HBK.out)).trans HBK.out)
  clear hb HL HB HBK HSZ
  have k0 := (blk_cells HBK4.out 0).trans rfl
  have k1 := (blk_cells HBK4.out 1).trans rfl
  have k2 := (blk_cells HBK4.out 2).trans rfl
  have k3 := (blk_cells HBK4.out 3).trans rfl
  go_wp2_with fail
  refine (HEN.out _ HL4.out).mono ?_
  rintro e w5 ⟨g, rfl, hg, hgl, hb⟩
  have HL5 := Lib.hid (HL4.out.on hb)
  have HB5 := Lib.hid (HB4.out.on hb)
  have HBK5 := Lib.hid ((hb.block _ (block_lt HBK4.out)).trans HBK4.out)
  clear hb HL4 HB4 HBK4 HEN k0 k1 k2 k3
  have k0 := (blk_cells HBK5.out 0).trans rfl
  have k1 := (blk_cells HBK5.out 1).trans rfl
  have k2 := (blk_cells HBK5.out 2).trans rfl
  have k3 := (blk_cells HBK5.out 3).trans rfl
  have g0 := (blk_cells hg 0).trans rfl
  have g1 := (blk_cells hg 1).trans rfl
  have g2 := (blk_cells hg 2).trans rfl
  go_wp2_with fail
  refine (HSL.out _ HL5.out).mono ?_
  rintro e w6 ⟨v, rfl, hv, hb⟩
  have HB6 := Lib.hid (HB5.out.on hb)
  clear hb HL5 HB5 HBK5 HSL k0 k1 k2 k3 g0 g1 g2 hg
  have hv2 : Ints (w6.alloc (.cells #[.int .i64 1, .int .i64 2, .int .i64 4, .int .i64 5, .int .i64 7] 3)) (.slice (some ⟨w6.heap.size, 0, none⟩) 5 5) [1, 2, 4, 5, 7] := by
    refine ⟨_, _, rfl, Nat.le_refl _, by decide, fun i hi => ⟨_, _, rfl, fun j u hu => ?_⟩⟩
    have hb9 := heap_alloc_new w6 (.cells #[.int .i64 1, .int .i64 2, .int .i64 4, .int .i64 5, .int .i64 7] 3)
    have hi' : i < 5 := hi
    rcases j with _ | j
    · rcases i with _ | _ | _ | _ | _ | i
      · exact ((blk_cells hb9 0).trans rfl).trans hu
      · exact ((blk_cells hb9 1).trans rfl).trans hu
      · exact ((blk_cells hb9 2).trans rfl).trans hu
      · exact ((blk_cells hb9 3).trans rfl).trans hu
      · exact ((blk_cells hb9 4).trans rfl).trans hu
      · omega
    · simp [encI] at hu
  have HSM := Lib.hid (same_any (hv.on (below1 w6 (.cells #[.int .i64 1, .int .i64 2, .int .i64 4, .int .i64 5, .int .i64 7] 3))) hv2)
  clear hv hv2
  go_wp2_with fail
  refine HSM.out.mono ?_
  rintro e w7 ⟨rfl, hb⟩
  have HB7 := Lib.hid ((HB6.out.on (below1 _ _)).on hb)
  clear hb HSM
  go_wp2
  go_ret
  exact ⟨rfl, HB7.out⟩
end Go.Proofs.Ytcffenekomiakaa
