/- TableSets: a walk. -/
import Derived.Test.YtbdpbkblihaeiaaDoorTp
namespace Go.Proofs.YtbdpbkblihaeiaaDoor
open Go.RowKit
set_option linter.unusedVariables false
set_option linter.unusedSimpArgs false
variable {w w' base : World} {B S p q bd : Nat} {l : List Slot} {v : Value} {told : List (Int × Int)}
theorem grown7_n (n : Int) (m : Int) (hm : 0 < m) : ∃ N : Nat, (N : Int) = 1 + (max 0 n) % m := ⟨(1 + (max 0 n) % m).toNat, by have := Int.emod_nonneg (max 0 n) (show m ≠ 0 by omega); omega⟩
theorem TS.alive (h : TS base w B S p q bd l v told) (hT : Tab base) (h0 : 0 < base.heap.size) : Calls Tryd.prog 31 #[] w fun e w' => e = .returned (.bool true) ∧ Below w.heap.size w w' ∧ TS base w' B S p q bd l v told :=
  (alive7_any (h.baseTab hT h0)).mono fun e w' ⟨he, hb⟩ => ⟨he, hb, h.on hb⟩
theorem TS.getB (h : TS base w B S p q bd l v told) (i g : Int) : Calls Tryd.prog 32 #[.pointer (some ⟨B, 0, none⟩), tokV i g] w fun e w' => e = .returned (.tuple #[entV (getE l i g), .int .i64 (errI l i g)]) ∧ Below w.heap.size w w' := by
  unfold getE errI
  cases hf : freshT l i g with
  | true => exact get_yes h.tab i g hf
  | false => exact get_no h.tab i g hf
/-- What Get tells of the tokens. -/
def gets (l : List Slot) (told : List (Int × Int)) : List Entry := told.map fun y => getE l y.1 y.2
theorem gets_take (l : List Slot) (told : List (Int × Int)) (k : Nat) (hk : k < told.length) : gets l (told.take (k + 1)) = gets l (told.take k) ++ [getE l (told.getD k (0, 0)).1 (told.getD k (0, 0)).2] := by
  unfold gets
  rw [List.take_add_one, List.map_append]
  simp [List.getD, hk]
theorem gets_len (l : List Slot) (told : List (Int × Int)) (k : Nat) (hk : k ≤ told.length) : (gets l (told.take k)).length = k := by unfold gets; simp; omega
theorem gets_at (l : List Slot) (told : List (Int × Int)) (k : Nat) (hk : k < told.length) : (gets l told).getD k noEntry = getE l (told.getD k (0, 0)).1 (told.getD k (0, 0)).2 := by
  unfold gets; simp [List.getD, hk]
theorem gets_length (l : List Slot) (told : List (Int × Int)) : (gets l told).length = told.length := by unfold gets; simp
def entEnc (e : Entry) : List Value := [.int .i64 e.addr, .int .i64 e.region, .bool e.held, .bool e.pinned]
theorem infoEnt : (Tryd.prog.info? 51).map (fun i => (i.zero, i.size, i.bytes)) = some (some (.agg #[.int .i64 0, .int .i64 0, .bool false, .bool false]), 4, 24) := by kernel_rfl
theorem ent_at {bs : Nat} {A : Option Addr} {c : Nat} {es : List Entry} (h : w.ownsRow bs 51 4 (.slice A es.length c) es.length (es.flatMap entEnc)) (k : Nat) (hk : k < es.length) :
    ∃ b o, A = some ⟨b, o, none⟩ ∧ w.cell? ⟨b, o + k * 4, none⟩ = some (.int .i64 (es.getD k noEntry).addr) ∧ w.cell? ⟨b, o + k * 4 + 1, none⟩ = some (.int .i64 (es.getD k noEntry).region) ∧ w.cell? ⟨b, o + k * 4 + 2, none⟩ = some (.bool (es.getD k noEntry).held) ∧ w.cell? ⟨b, o + k * 4 + 3, none⟩ = some (.bool (es.getD k noEntry).pinned) := by
  obtain ⟨A', c', e, _, hs⟩ := own_slice entEnc noEntry (fun _ => rfl) h
  cases e
  obtain ⟨b, o, e, h1⟩ := hs k hk
  exact ⟨b, o, e, h1 0 _ rfl, h1 1 _ rfl, h1 2 _ rfl, h1 3 _ rfl⟩
set_option maxRecDepth 100000 in
set_option maxHeartbeats 2000000 in
theorem sets_walk (n : Int) (A : Option Addr) (al : List Act7) (c : Nat) (ee : Entry) (hc : al.length ≤ c) (hm : al.length ≤ maxLen) (hS : SliceOf w A 9 act7Enc act70 al) (hT : Tab w) :
    Calls Tryd.prog 9 #[.int .i64 n, .slice A al.length c, entV ee] w fun e w' => e = .returned (.bool true) ∧ Below w.heap.size w w' := by
  obtain ⟨N, hN⟩ := grown7_n n 8 (by decide)
  obtain ⟨i0, hi, hz0, hz1, hz2⟩ := info_parts infoEnt
  have HI := Lib.hid hi
  have HZ0 := Lib.hid hz0
  have HZ1 := Lib.hid hz1
  have HZ2 := Lib.hid hz2
  have hbx := below1 w (.cells #[.int .i64 ee.addr, .int .i64 ee.region, .bool ee.held, .bool ee.pinned] 51)
  have hblk := heap_alloc_new w (.cells #[.int .i64 ee.addr, .int .i64 ee.region, .bool ee.held, .bool ee.pinned] 51)
  have hszb : (w.alloc (.cells #[.int .i64 ee.addr, .int .i64 ee.region, .bool ee.held, .bool ee.pinned] 51)).heap.size = w.heap.size + 1 := World.size_alloc _ _
  have HGR := Lib.hid (grown7_any n A al c hc hm (hS.on hbx) (hT.on hbx) N hN)
  have HT := Lib.hid (hT.on hbx)
  have h0 : 0 < (w.alloc (.cells #[.int .i64 ee.addr, .int .i64 ee.region, .bool ee.held, .bool ee.pinned] 51)).heap.size := lt_of_cell (HT.out 0 (by decide))
  have HBX := Lib.hid hbx
  have HBLK := Lib.hid hblk
  clear hS hT hN hi hz0 hz1 hz2 hbx hblk
  unfold entV
  go_enter Tryd.func9, Tryd.ntmps9
  generalize hwb : w.alloc (.cells #[.int .i64 ee.addr, .int .i64 ee.region, .bool ee.held, .bool ee.pinned] 51) = wb at *
  go_wp2_with fail
  refine HGR.out.mono ?_
  rintro e w1 (⟨hlen, B, S, p, q, bd, sl, v, told, rfl, hS, hsl, htl⟩ | ⟨hlen, rfl, hb⟩)
  rotate_left
  · have hlong : decide ((100 : Int) < (al.length : Int)) = true := decide_eq_true (by omega)
    have HA1 := Lib.hid (alive7_any (HT.out.on hb))
    have HA2 : Hid (∀ w2, Below wb.heap.size wb w2 → Calls Tryd.prog 31 #[] w2 fun e w' => e = .returned (.bool true) ∧ Below w2.heap.size w2 w') := Lib.hid (fun w2 h2 => alive7_any (HT.out.on h2))
    have HB1 := Lib.hid hb
    clear hb
    go_wp2_with fail
    refine HA1.out.mono ?_
    rintro e w2 ⟨rfl, hb⟩
    have HB2 := Lib.hid (HB1.out.on hb)
    clear hb
    go_wp2_with fail
    refine (HA2.out _ HB2.out).mono ?_
    rintro e w3 ⟨rfl, hb⟩
    have HB3 := Lib.hid (HB2.out.on hb)
    clear hb
    go_wp2
    go_ret
    exact ⟨rfl, HBX.out.on HB3.out⟩
  · have HS1 := Lib.hid hS
    clear hS
    go_wp2_with fail
    refine (HS1.out.alive HT.out h0).mono ?_
    rintro e w2 ⟨rfl, hb, hS⟩
    have HS2 := Lib.hid hS
    obtain ⟨A2, c2, rfl, hc2, hs2⟩ := own_any hS.row
    clear hb hS HS1
    by_cases h0l : told.length = 0
    · obtain rfl : told = [] := List.length_eq_zero_iff.1 h0l
      go_wp2_with fail
      refine (HS2.out.alive HT.out h0).mono ?_
      rintro e w3 ⟨rfl, hb, hS⟩
      have HS3 := Lib.hid hS
      clear hb hS
      go_wp2
      go_ret
      exact ⟨rfl, HBX.out.on HS3.out.below⟩
    · have k0 : ((told.length : Int) == 0) = false := by simp; intro e; rw [e] at h0l; simp at h0l
      obtain ⟨b, o, rfl, x0, x1⟩ := tok_at hs2 (told.length / 2) (by omega)
      generalize hx : told.getD (told.length / 2) (0, 0) = x at x0 x1
      obtain ⟨xi, xg⟩ := x
      go_wp2_with fail
      have HSW0 := Lib.hid (HS2.out.put (.cells #[.int .i64 xi, .int .i64 xg] 57))
      have HSL0 := Lib.hid (hs2.on (below1 w2 (.cells #[.int .i64 xi, .int .i64 xg] 57)))
      have HX0 := Lib.hid (Pair.new HS2.out.le xi xg 57)
      generalize hX : w2.heap.size = X at *
      generalize hW : w2.alloc (.cells #[.int .i64 xi, .int .i64 xg] 57) = W at *
      have HSW := HSW0
      have HSL := HSL0
      have HX := HX0
      clear hX hW HSW0 HSL0 HX0 HS2 hs2 x0 x1 hx
      go_loopw [10, 63] (fun v10 v63 wr => ∃ k : Nat, k ≤ told.length ∧ v63 = .int .i64 k ∧ Below W.heap.size W wr ∧ Hid (wr.ownsRow W.heap.size 51 4 v10 (gets sl (told.take k)).length ((gets sl (told.take k)).flatMap entEnc))) (fun _ v63 _ => told.length - (intOf v63).toNat)
      case atStart => exact ⟨0, by omega, rfl, Below.refl _ _, Lib.hid (World.ownsRow_nil _ _ _ _)⟩
      case round =>
        obtain ⟨k, hk, rfl, hB, HO⟩ := hrel
        by_cases hlt : k < told.length
        · obtain ⟨_, _, e', y0, y1⟩ := tok_at (HSL.out.on hB) k hlt
          cases e'
          have HTK := Lib.hid (gets_take sl told k hlt)
          have HLN := Lib.hid (gets_len sl told k hk)
          generalize told.getD k (0, 0) = y at y0 y1 HTK
          obtain ⟨yi, yg⟩ := y
          have HSr := Lib.hid ((HSW.out.on hB).put (.cells #[.int .i64 yi, .int .i64 yg] 57))
          go_wp2_with fail
          refine (HSr.out.getB yi yg).mono ?_
          rintro e w3 ⟨rfl, hb3⟩
          have HO3 := Lib.hid (own_on (own_on HO.out (below1 wr (.cells #[.int .i64 yi, .int .i64 yg] 57))) hb3)
          have HB3 := Lib.hid ((hB.on (below1 wr (.cells #[.int .i64 yi, .int .i64 yg] 57))).on hb3)
          have hle3 := HB3.out.size
          generalize getE sl yi yg = z at *
          obtain ⟨za, zr, zh, zp⟩ := z
          unfold entV
          clear hb3
          go_wp2_with (at_builtin; refine wpList_append_own _ rfl _ _ 58 rfl W.heap.size 51 i0 (.agg #[.int .i64 0, .int .i64 0, .bool false, .bool false]) 4 24 Tryd.underlying58 HI.out HZ0.out HZ1.out HZ2.out rfl (by decide) _ _ _ rfl ((HO3.out.alloc _).alloc _) ⟨w3.heap.size + 1, 0, none⟩ 1 1 [.int .i64 za, .int .i64 zr, .bool zh, .bool zp] rfl rfl (World.news_of_block (cs := #[.int .i64 za, .int .i64 zr, .bool zh, .bool zp]) (t := 51) (fr := (0, 0)) (by simpa using heap_alloc_new (w3.alloc (.cells #[.int .i64 za, .int .i64 zr, .bool zh, .bool zp] 51)) (.cells #[.int .i64 za, .int .i64 zr, .bool zh, .bool zp] 51))) (by simp [Value.oneCell']) (by rw [HLN.out]; unfold maxLen; omega) (by rw [HLN.out]; omega) (by simp; omega) ?_; intro v' w5 hown' hgrow _)
          have B5 : Below W.heap.size W w5 := ((HB3.out.alloc HB3.out.size _).alloc (by simp; omega) _).grown hgrow (by simp; omega) (fun k e => (HO3.out.lt k e).1)
          have HO5 := Lib.hid (show w5.ownsRow W.heap.size 51 4 v' (gets sl (told.take (k + 1))).length ((gets sl (told.take (k + 1))).flatMap entEnc) by rw [HTK.out]; simpa [entEnc] using hown')
          clear hown' hgrow
          go_roundw
          case rel => exact ⟨k + 1, by omega, by go_num, B5, HO5⟩
          case measure => simp [intOf]; omega
        · obtain rfl : k = told.length := by omega
          have hO := HO.out
          rw [List.take_length] at hO
          obtain ⟨A3, c3, rfl, hc3, _⟩ := own_slice entEnc noEntry (fun _ => rfl) hO
          have HO := Lib.hid hO
          have hle1 := HSW.out.le
          have HX1 := Lib.hid (HX.out.on (.of_below hB))
          have x0 := HX1.out.2.2.1
          have x1 := HX1.out.2.2.2
          have HS3 := Lib.hid (HSW.out.on hB)
          clear hO
          go_wp2_with fail
          refine (HS3.out.getB xi xg).mono ?_
          rintro e w4 ⟨rfl, hb4⟩
          have hmod4 : Mod (fun k => k < bd) wr (w4.alloc (.cells #[.int .i64 (getE sl xi xg).addr, .int .i64 (getE sl xi xg).region, .bool (getE sl xi xg).held, .bool (getE sl xi xg).pinned] 51)) := .of_below (hb4.on (below1 w4 _))
          have HX4 := Lib.hid (HX1.out.on hmod4)
          have x0' := HX4.out.2.2.1
          have x1' := HX4.out.2.2.2
          have HS4 := Lib.hid ((HS3.out.on hb4).put (.cells #[.int .i64 (getE sl xi xg).addr, .int .i64 (getE sl xi xg).region, .bool (getE sl xi xg).held, .bool (getE sl xi xg).pinned] 51))
          have HO4 := Lib.hid (own_on HO.out (hb4.on (below1 w4 (.cells #[.int .i64 (getE sl xi xg).addr, .int .i64 (getE sl xi xg).region, .bool (getE sl xi xg).held, .bool (getE sl xi xg).pinned] 51))))
          have hen := (HS4.out.below.block w.heap.size (by omega)).trans HBLK.out
          have n0 := (blk_cells hen 0).trans rfl
          have n1 := (blk_cells hen 1).trans rfl
          have n2 := (blk_cells hen 2).trans rfl
          have n3 := (blk_cells hen 3).trans rfl
          have hf : freshT sl xi xg = true ∧ errI sl xi xg = 0 ∨ freshT sl xi xg = false ∧ errI sl xi xg = 8 := err_cases xi xg
          have HSET := Lib.hid (HS4.out.set xi xg ee)
          generalize errI sl xi xg = f at hf HSET
          have HF := Lib.hid hf
          clear hmod4 hb4 hen hf x0 x1
          generalize getE sl xi xg = xe at *
          unfold entV
          go_wp2_with fail
          refine HSET.out.mono ?_
          rintro e w5 ⟨rfl, hS5, hm5⟩
          have HS5 := Lib.hid hS5
          have HX5 := Lib.hid (HX4.out.on hm5)
          have HO5 := Lib.hid (own_mod HO4.out hm5 (fun k hk => Nat.lt_of_lt_of_le hk hle1))
          clear hS5 hm5 x0' x1' n0 n1 n2 n3 HSET HS4 HX4 HO4 HS3 HX1
          go_wp2_with fail
          go_loopw [93] (fun v93 wr => ∃ k : Nat, k ≤ told.length ∧ v93 = .int .i64 k ∧ Below w5.heap.size w5 wr) (fun v93 _ => told.length - (intOf v93).toNat)
          case atStart => exact ⟨0, by omega, rfl, Below.refl _ _⟩
          case round =>
            obtain ⟨k, hk, rfl, hB5⟩ := hrel
            by_cases hlt : k < told.length
            · have HSa := Lib.hid (HS5.out.on hB5)
              obtain ⟨_, _, e1, _, hs5⟩ := own_any HSa.out.row
              cases e1
              obtain ⟨_, _, e2, y0, y1⟩ := tok_at hs5 k hlt
              cases e2
              have HGS := Lib.hid (gets_at sl told k hlt)
              generalize told.getD k (0, 0) = y at y0 y1 HGS
              obtain ⟨yi, yg⟩ := y
              have HSr := Lib.hid (HSa.out.put (.cells #[.int .i64 yi, .int .i64 yg] 57))
              have HGE := Lib.hid (get_set (l := sl) xi xg ee yi yg)
              go_wp2_with fail
              refine (HSr.out.getB yi yg).mono ?_
              rintro e w6 ⟨rfl, hb6⟩
              have hBB := (hB5.on (below1 wr (.cells #[.int .i64 yi, .int .i64 yg] 57))).on hb6
              generalize hz : getE (setT sl xi xg ee) yi yg = z
              rw [HGE.out] at hz
              obtain ⟨za, zr, zh, zp⟩ := z
              have hb7 := below1 w6 (.cells #[.int .i64 za, .int .i64 zr, .bool zh, .bool zp] 51)
              have hpy := (hb7.block wr.heap.size (Nat.lt_of_lt_of_le (by simp) hb6.size)).trans (one_block hb6)
              have hpz := heap_alloc_new w6 (.cells #[.int .i64 za, .int .i64 zr, .bool zh, .bool zp] 51)
              have hB7 := hBB.on hb7
              unfold entV
              go_wp2
              generalize hW7 : w6.alloc (.cells #[.int .i64 za, .int .i64 zr, .bool zh, .bool zp] 51) = w7 at hpy hpz hB7 ⊢
              have hX7 := HX5.out.on (.of_below hB7)
              have x0 := hX7.2.2.1
              have x1 := hX7.2.2.2
              have y0' := (blk_cells hpy 0).trans rfl
              have y1' := (blk_cells hpy 1).trans rfl
              have z0 := (blk_cells hpz 0).trans rfl
              have z1 := (blk_cells hpz 1).trans rfl
              have z2 := (blk_cells hpz 2).trans rfl
              have z3 := (blk_cells hpz 3).trans rfl
              have HS7 := Lib.hid (HS5.out.on hB7)
              have HO7 := Lib.hid (own_on HO5.out hB7)
              have HB7 := Lib.hid hB7
              clear hW7 hb7 hpy hpz hB7 hX7 hb6 hBB hs5 y0 y1 HGE
              by_cases hxy : yi = xi ∧ yg = xg
              · obtain ⟨rfl, rfl⟩ := hxy
                rcases HF.out with ⟨hf1, rfl⟩ | ⟨hf1, rfl⟩
                · rw [if_pos (show (yi = yi ∧ yg = yg) ∧ freshT sl yi yg = true from ⟨⟨rfl, rfl⟩, hf1⟩)] at hz
                  subst hz
                  have hen := (HS7.out.below.block w.heap.size (by omega)).trans HBLK.out
                  have n0 := (blk_cells hen 0).trans rfl
                  have n1 := (blk_cells hen 1).trans rfl
                  have n2 := (blk_cells hen 2).trans rfl
                  have n3 := (blk_cells hen 3).trans rfl
                  clear hen hf1
                  go_quiet (fail)
                  go_wp2
                  go_roundw
                  case rel => exact ⟨k + 1, by omega, by go_num, below_drewN HB7.out nq⟩
                  case measure => simp [intOf]; omega
                · go_quiet (fail)
                  go_wp2
                  go_roundw
                  case rel => exact ⟨k + 1, by omega, by go_num, below_drewN HB7.out nq⟩
                  case measure => simp [intOf]; omega
              · rw [if_neg (show ¬ ((yi = xi ∧ yg = xg) ∧ freshT sl xi xg = true) from fun h => hxy h.1)] at hz
                have hgs := HGS.out
                rw [hz] at hgs
                obtain ⟨b3, o3, rfl, v0, v1, v2, v3⟩ := ent_at HO7.out k (by rw [gets_length]; exact hlt)
                rw [hgs] at v0 v1 v2 v3
                have hk2 : k < (gets sl told).length := by rw [gets_length]; exact hlt
                by_cases hi : yi = xi
                · subst hi
                  have hg : ¬ yg = xg := fun e => hxy ⟨rfl, e⟩
                  clear hxy
                  go_quiet (fail)
                  go_wp2
                  go_roundw
                  case rel => exact ⟨k + 1, by omega, by go_num, below_drewN HB7.out nq⟩
                  case measure => simp [intOf]; omega
                · clear hxy
                  go_quiet (fail)
                  go_wp2
                  go_roundw
                  case rel => exact ⟨k + 1, by omega, by go_num, below_drewN HB7.out nq⟩
                  case measure => simp [intOf]; omega
            · obtain rfl : k = told.length := by omega
              have HSa := Lib.hid (HS5.out.on hB5)
              have hX7 := HX5.out.on (.of_below hB5)
              have x0 := hX7.2.2.1
              have x1 := hX7.2.2.2
              have HXa := Lib.hid hX7
              have HOa := Lib.hid (own_on HO5.out hB5)
              clear hX7 HF
              go_wp2_with fail
              refine (HSa.out.drop xi xg).mono ?_
              rintro e w8 ⟨rfl, hS8, hm8⟩
              have HS8 := Lib.hid hS8
              have HX8 := Lib.hid (HXa.out.on hm8)
              have HO8 := Lib.hid (own_mod HOa.out hm8 (fun k hk => Nat.lt_of_lt_of_le hk hle1))
              clear hS8 hm8 HSa HXa HOa HS5 HX5 HO5 x0 x1
              go_wp2_with fail
              go_loopw [135] (fun v135 wr => ∃ k : Nat, k ≤ told.length ∧ v135 = .int .i64 k ∧ Below w8.heap.size w8 wr) (fun v135 _ => told.length - (intOf v135).toNat)
              case atStart => exact ⟨0, by omega, rfl, Below.refl _ _⟩
              case round =>
                obtain ⟨k, hk, rfl, hB8⟩ := hrel
                by_cases hlt : k < told.length
                · have HSa := Lib.hid (HS8.out.on hB8)
                  obtain ⟨_, _, e1, _, hs5⟩ := own_any HSa.out.row
                  cases e1
                  obtain ⟨_, _, e2, y0, y1⟩ := tok_at hs5 k hlt
                  cases e2
                  have HGS := Lib.hid (gets_at sl told k hlt)
                  generalize told.getD k (0, 0) = y at y0 y1 HGS
                  obtain ⟨yi, yg⟩ := y
                  have HSr := Lib.hid (HSa.out.put (.cells #[.int .i64 yi, .int .i64 yg] 57))
                  have HGE := Lib.hid ((get_drop (l := setT sl xi xg ee) xi xg yi yg).trans (congrArg (fun e => if (yi = xi ∧ yg = xg) then noEntry else e) (get_set (l := sl) xi xg ee yi yg)))
                  go_wp2_with fail
                  refine (HSr.out.getB yi yg).mono ?_
                  rintro e w6 ⟨rfl, hb6⟩
                  have hBB := (hB8.on (below1 wr (.cells #[.int .i64 yi, .int .i64 yg] 57))).on hb6
                  generalize hz : getE (dropT (setT sl xi xg ee) xi xg) yi yg = z
                  rw [HGE.out] at hz
                  obtain ⟨za, zr, zh, zp⟩ := z
                  have hb7 := below1 w6 (.cells #[.int .i64 za, .int .i64 zr, .bool zh, .bool zp] 51)
                  have hpy := (hb7.block wr.heap.size (Nat.lt_of_lt_of_le (by simp) hb6.size)).trans (one_block hb6)
                  have hpz := heap_alloc_new w6 (.cells #[.int .i64 za, .int .i64 zr, .bool zh, .bool zp] 51)
                  have hB7 := hBB.on hb7
                  unfold entV
                  go_wp2
                  generalize hW7 : w6.alloc (.cells #[.int .i64 za, .int .i64 zr, .bool zh, .bool zp] 51) = w7 at hpy hpz hB7 ⊢
                  have hX7 := HX8.out.on (.of_below hB7)
                  have x0 := hX7.2.2.1
                  have x1 := hX7.2.2.2
                  have y0' := (blk_cells hpy 0).trans rfl
                  have y1' := (blk_cells hpy 1).trans rfl
                  have z0 := (blk_cells hpz 0).trans rfl
                  have z1 := (blk_cells hpz 1).trans rfl
                  have z2 := (blk_cells hpz 2).trans rfl
                  have z3 := (blk_cells hpz 3).trans rfl
                  have HO7 := Lib.hid (own_on HO8.out hB7)
                  have HB7 := Lib.hid hB7
                  clear hW7 hb7 hpy hpz hB7 hX7 hb6 hBB hs5 y0 y1 HGE
                  by_cases hxy : yi = xi ∧ yg = xg
                  · obtain ⟨rfl, rfl⟩ := hxy
                    clear hz HGS
                    go_quiet (fail)
                    go_wp2
                    go_roundw
                    case rel => exact ⟨k + 1, by omega, by go_num, below_drewN HB7.out nq⟩
                    case measure => simp [intOf]; omega
                  · rw [if_neg hxy, if_neg (show ¬ ((yi = xi ∧ yg = xg) ∧ freshT sl xi xg = true) from fun h => hxy h.1)] at hz
                    have hgs := HGS.out
                    rw [hz] at hgs
                    obtain ⟨b3, o3, rfl, v0, v1, v2, v3⟩ := ent_at HO7.out k (by rw [gets_length]; exact hlt)
                    rw [hgs] at v0 v1 v2 v3
                    have hk2 : k < (gets sl told).length := by rw [gets_length]; exact hlt
                    by_cases hi : yi = xi
                    · subst hi
                      have hg : ¬ yg = xg := fun e => hxy ⟨rfl, e⟩
                      clear hxy
                      go_quiet (fail)
                      go_wp2
                      go_roundw
                      case rel => exact ⟨k + 1, by omega, by go_num, below_drewN HB7.out nq⟩
                      case measure => simp [intOf]; omega
                    · clear hxy
                      go_quiet (fail)
                      go_wp2
                      go_roundw
                      case rel => exact ⟨k + 1, by omega, by go_num, below_drewN HB7.out nq⟩
                      case measure => simp [intOf]; omega
                · obtain rfl : k = told.length := by omega
                  have HSa := Lib.hid (HS8.out.on hB8)
                  have hX7 := HX8.out.on (.of_below hB8)
                  have x0 := hX7.2.2.1
                  have x1 := hX7.2.2.2
                  have HER := Lib.hid (err_drop_self (l := setT sl xi xg ee) xi xg)
                  clear hX7
                  go_wp2_with fail
                  refine (HSa.out.getB xi xg).mono ?_
                  rintro e w9 ⟨rfl, hb9⟩
                  rw [HER.out]
                  have HS9 := Lib.hid (HSa.out.on hb9)
                  generalize getE (dropT (setT sl xi xg ee) xi xg) xi xg = z
                  obtain ⟨za, zr, zh, zp⟩ := z
                  clear hb9
                  unfold entV
                  go_wp2
                  go_ret
                  exact ⟨rfl, HBX.out.on (HS9.out.below.on (below1 w9 _))⟩
end Go.Proofs.YtbdpbkblihaeiaaDoor
