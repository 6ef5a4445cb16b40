/- Nb -/
import Derived.Test.YtfflacggaebonaaGreatDoorGJ
section
namespace Go.Proofs.YtfflacggaebonaaGreatDoor
open Go.RowKit
set_option linter.unusedVariables false
set_option linter.unusedSimpArgs false
variable {w w' base : World} {M B Wb Ob p q P bd D G Wg Og size : Nat} {W W' own own' : List Int} {ls : List Lay} {T : Nat → Prop} {v u : Value} {l dl : List LayR}
def bigR (r : LayR) : Bool := decide (100 < r.x.refs.length) || decide (100 < r.x.recs.length)
set_option maxRecDepth 100000 in
set_option maxHeartbeats 1000000 in
theorem great12_any (A : Option Addr) (rl : List LayR) (cap : Nat) (w : World) (hA : SliceOf w A 4 layREnc layR0 rl) (hmx : rl.length ≤ maxLen) : Calls Tryz.prog 5 #[.slice A rl.length cap] w fun e w' => e = .returned (.bool (rl.any bigR)) ∧ Below w.heap.size w w' := by
  have HA := Lib.hid hA
  have hml : rl.length < 9223372036854775808 := Nat.lt_of_le_of_lt hmx (by decide)
  clear hA hmx
  go_enter Tryz.func5, Tryz.ntmps5
  go_wp2_with fail
  go_loopw [7] (fun v7 wr => ∃ j : Nat, j ≤ rl.length ∧ v7 = .int .i64 j ∧ Hid (Below w.heap.size w wr) ∧ Hid ((rl.take j).any bigR = false)) (fun v7 _ => rl.length - (intOf v7).toNat)
  case atStart => exact ⟨0, by omega, rfl, Lib.hid (Below.refl _ _), Lib.hid rfl⟩
  case round =>
    obtain ⟨j, hj, rfl, HB, HE⟩ := hrel
    by_cases hlt : j < rl.length
    · obtain ⟨b, o, hA, hc⟩ := HA.out j hlt
      subst hA
      have htk : rl.take (j + 1) = rl.take j ++ [rl.getD j layR0] := by
        rw [List.take_add_one]; simp [List.getD, hlt]
      have HN : Hid ((rl.take (j + 1)).any bigR = bigR (rl.getD j layR0)) := Lib.hid (by rw [htk, List.any_append, HE.out]; simp)
      have HMem : Hid (bigR (rl.getD j layR0) = true → rl.any bigR = true) := Lib.hid (fun e => List.any_eq_true.2 ⟨_, (by
        have : rl.getD j layR0 = rl[j] := by simp [List.getD, hlt]
        rw [this]; exact List.getElem_mem hlt), e⟩)
      generalize rl.getD j layR0 = r at *
      have d0 := (HB.out.cell (p := ⟨b, o + j * 4 + 0, none⟩) (lt_of_cell (hc 0 _ rfl))).trans (hc 0 _ rfl)
      have d1 := (HB.out.cell (p := ⟨b, o + j * 4 + 1, none⟩) (lt_of_cell (hc 1 _ rfl))).trans (hc 1 _ rfl)
      have d2 := (HB.out.cell (p := ⟨b, o + j * 4 + 2, none⟩) (lt_of_cell (hc 2 _ rfl))).trans (hc 2 _ rfl)
      have d3 := (HB.out.cell (p := ⟨b, o + j * 4 + 3, none⟩) (lt_of_cell (hc 3 _ rfl))).trans (hc 3 _ rfl)
      rw [Nat.add_zero] at d0
      have HBA := Lib.hid (HB.out.on (below1 wr (.cells #[.int .i64 r.x.fixed, .slice r.A1 r.x.refs.length r.c1, .int .i64 r.x.record, .slice r.A2 r.x.recs.length r.c2] 64)))
      clear hc htk
      by_cases g1 : 100 < r.x.refs.length
      · have e1 : decide ((100 : Int) < (r.x.refs.length : Int)) = true := decide_eq_true (by omega)
        have HG : Hid (rl.any bigR = true) := Lib.hid (HMem.out (by unfold bigR; rw [decide_eq_true g1]; rfl))
        go_wp2
        go_ret
        exact ⟨by rw [HG.out]; rfl, HBA.out⟩
      · have e1 : decide ((100 : Int) < (r.x.refs.length : Int)) = false := decide_eq_false (by omega)
        by_cases g2 : 100 < r.x.recs.length
        · have e2 : decide ((100 : Int) < (r.x.recs.length : Int)) = true := decide_eq_true (by omega)
          have HG : Hid (rl.any bigR = true) := Lib.hid (HMem.out (by unfold bigR; rw [decide_eq_true g2]; simp))
          go_wp2
          go_ret
          exact ⟨by rw [HG.out]; rfl, HBA.out⟩
        · have e2 : decide ((100 : Int) < (r.x.recs.length : Int)) = false := decide_eq_false (by omega)
          have HZ : Hid (bigR r = false) := Lib.hid (by unfold bigR; rw [decide_eq_false g1, decide_eq_false g2]; rfl)
          go_wp2
          go_roundw
          case rel => exact ⟨j + 1, by omega, by go_num, HBA, Lib.hid (by rw [HN.out, HZ.out])⟩
          case measure => simp [intOf]; omega
    · have hjl : j = rl.length := by omega
      have HG : Hid (rl.any bigR = false) := Lib.hid (by have := HE.out; rwa [hjl, List.take_length] at this)
      clear hjl
      go_wp2
      go_ret
      exact ⟨by rw [HG.out]; rfl, HB.out⟩
/-- An act of the laws. -/
structure A12 where
  k : Int
  a : Int
  p : Int
  hl : Int
  hc : Int
  hs : Int
  x : Int
  lk : Int
  li : Int
  lg : Int
def a12Enc (a : A12) : List Value := [.int .i64 a.k, .int .i64 a.a, .int .i64 a.p, .int .i64 a.hl, .int .i64 a.hc, .int .i64 a.hs, .int .u64 a.x, .int .i64 a.lk, .int .i64 a.li, .int .i64 a.lg]
def a120 : A12 := ⟨0, 0, 0, 0, 0, 0, 0, 0, 0, 0⟩
def good12 (a : A12) : Prop := 0 ≤ a.x ∧ a.x < 18446744073709551616
/-- The program's images in the midst of a law. -/
structure IS (base w : World) (M B Wb Ob p q P : Nat) (T : Nat → Prop) (W : List Int) (ls : List Lay) : Prop where
  ip : ImgP T w M B Wb Ob p q P W 8 (onesO 5) ls
  below : Below base.heap.size base w
  hF : ∀ k, Four3 Wb Ob p q k → base.heap.size ≤ k
  wd : Wds W
  len : W.length = 48
theorem IS.on (h : IS base w M B Wb Ob p q P T W ls) (hb : Below w.heap.size w w') : IS base w' M B Wb Ob p q P T W ls := { h with ip := h.ip.on hb, below := h.below.on hb }
theorem IS.turn (h : IS base w M B Wb Ob p q P T W ls) (hi : ImgP T w' M B Wb Ob p q P W' 8 (onesO 5) ls) (hm : Mod (Four3 Wb Ob p q) w w') (hw : Wds W') (hl : W'.length = 48) : IS base w' M B Wb Ob p q P T W' ls :=
  ⟨hi, hm.below h.below h.hF h.below.size, h.hF, hw, hl⟩
theorem IS.lt (h : IS base w M B Wb Ob p q P T W ls) : ∀ k, Four3 Wb Ob p q k → k < w.heap.size := fun k hk => by
  obtain ⟨u, hu⟩ := h.ip.st.map
  rcases hk with e | e | e | e
  · rw [e]; exact block_lt h.ip.st.body
  · rw [e]; exact block_lt h.ip.st.owners
  · rw [e]; exact block_lt hu.head
  · rw [e]; exact block_lt hu.body
theorem ImgJ.is {dl : List LayR} (h : ImgJ base w M B Wb Ob p q P D G Wg Og u W dl) (hw : Wds W) (hl : W.length = 48) : IS base w M B Wb Ob p q P (Six Wb Ob p q Wg Og) W (dl.map LayR.x) :=
  ⟨h.ip, h.im.below, fun k e => h.im.hB k (h.ip.hT k e), hw, hl⟩
theorem IS.make (h : IS base w M B Wb Ob p q P T W ls) (a l c s : Int) : Calls Tryz.prog 15 #[.pointer (some ⟨M, 0, none⟩), .int .i64 a, .agg #[.int .i64 l, .int .i64 c, .int .i64 s]] w fun e w' => e = .returned (.tuple #[.int .i64 (makeR W (onesO 5) 8 ls a l c s).1.1, .int .i64 (makeR W (onesO 5) 8 ls a l c s).1.2]) ∧ IS base w' M B Wb Ob p q P T (makeR W (onesO 5) 8 ls a l c s).2 ls ∧ Mod (Four3 Wb Ob p q) w w' :=
  (make_any h.ip a l c s).mono fun e w' ⟨h1, h2, h3⟩ => ⟨h1, h.turn h2 h3 (h.wd.make a l c s) (by rw [make_len, h.len]), h3⟩
theorem IS.save (h : IS base w M B Wb Ob p q P T W ls) (a pl x : Int) (h0 : 0 ≤ x) (h1 : x < 18446744073709551616) : Calls Tryz.prog 28 #[.pointer (some ⟨M, 0, none⟩), .int .i64 a, .int .i64 pl, .int .u64 x] w fun e w' => e = .returned (.int .i64 (saveR W (onesO 5) 8 ls a pl x).1) ∧ IS base w' M B Wb Ob p q P T (saveR W (onesO 5) 8 ls a pl x).2 ls ∧ Mod (Four3 Wb Ob p q) w w' :=
  (save_any h.ip h.wd a pl x).mono fun e w' ⟨h1', h2, h3⟩ => ⟨h1', h.turn h2 h3 (h.wd.save a pl h0 h1) (by rw [save_len, h.len]), h3⟩
theorem IS.tie (h : IS base w M B Wb Ob p q P T W ls) (a pl k i g : Int) : Calls Tryz.prog 30 #[.pointer (some ⟨M, 0, none⟩), .int .i64 a, .int .i64 pl, .agg #[.int .i64 k, .int .i64 i, .int .i64 g]] w fun e w' => e = .returned (.int .i64 (tieR W (onesO 5) 8 ls a pl k i g).1) ∧ IS base w' M B Wb Ob p q P T (tieR W (onesO 5) 8 ls a pl k i g).2 ls ∧ Mod (Four3 Wb Ob p q) w w' :=
  (tie_any h.ip h.wd a pl k i g).mono fun e w' ⟨h1', h2, h3⟩ => ⟨h1', h.turn h2 h3 (h.wd.tie a pl k i g) (by rw [tie_len, h.len]), h3⟩
theorem wr_len (a x : Int) : (wrW W own size a x).length = W.length := by
  unfold wrW
  split <;> simp
theorem Wds.wr (h : Wds W) (a : Int) {x : Int} (h0 : 0 ≤ x) (h1 : x < 18446744073709551616) : Wds (wrW W own size a x) := by
  unfold wrW
  split
  · exact h.set _ h0 h1
  · exact h
theorem IS.write (h : IS base w M B Wb Ob p q P T W ls) (a x : Int) (h0 : 0 ≤ x) (h1 : x < 18446744073709551616) : Calls Tryz.prog 35 #[.pointer (some ⟨B, 0, none⟩), .int .i64 a, .int .u64 x] w fun e w' => e = .returned (.int .i64 (adE W (onesO 5) 8 a)) ∧ IS base w' M B Wb Ob p q P T (wrW W (onesO 5) 8 a x) ls ∧ Mod (Four3 Wb Ob p q) w w' :=
  (write_t h.ip.st a x).mono fun e w' ⟨h1', h2, h3⟩ => ⟨h1', h.turn (h.ip.turn h2 h3) h3 (h.wd.wr a h0 h1) (by rw [wr_len, h.len]), h3⟩
/-- What was written of 40 words. -/
def seqW : Nat → List Int
  | 0 => zerosW
  | k + 1 => (seqW k).set k (3 * k + 1)
theorem seqW_len : ∀ k, (seqW k).length = 48
  | 0 => zerosW_len
  | k + 1 => by show (List.set _ _ _).length = 48; rw [List.length_set, seqW_len k]
theorem seqW_get : ∀ (k : Nat), k ≤ 40 → ∀ j, j < k → (seqW k).getD j 0 = 3 * (j : Int) + 1
  | 0, _, j, hj => absurd hj (Nat.not_lt_zero _)
  | k + 1, hk, j, hj => by
    show ((seqW k).set k (3 * k + 1)).getD j 0 = _
    rw [set_getD _ _ _ (by rw [seqW_len]; omega)]
    by_cases e : j = k
    · subst e; rw [if_pos rfl]
    · rw [if_neg e, seqW_get k (by omega) j (by omega)]
/-- An object of the first layout at 8, the words around it as they were. -/
structure Bnd (W : List Int) (x : Lay) (c : Int) (n : Nat) : Prop where
  ob : ObjAt W (onesO 5) 8 [x] 8 1 c 9 x n
  out : ∀ k : Nat, k < 40 → (k < 8 ∨ 8 + n < k) → W.getD k 0 = 3 * (k : Int) + 1
theorem Bnd.set {x : Lay} {c : Int} {n : Nat} (h : Bnd W x c n) (hl : W.length = 48) {pl y : Int} (h0 : 0 ≤ pl) (h1 : pl < n) : Bnd (W.set (8 + 1 + pl).toNat y) x c n := by
  obtain ⟨m, rfl⟩ : ∃ m : Nat, pl = m := ⟨pl.toNat, by omega⟩
  have e : (8 + 1 + (m : Int)).toNat = 9 + m := by omega
  rw [e]
  by_cases hi : 9 + m < W.length
  · refine ⟨{ h.ob with ad := ?_, word := ?_ }, fun k hk ho => ?_⟩
    · rw [ones_at (by rw [List.length_set, hl])]; decide
    · rw [set_getD _ _ _ hi, if_neg (by show ¬ (8 : Int).toNat = 9 + m; omega)]; exact h.ob.word
    · rw [set_getD _ _ _ hi, if_neg (by omega)]; exact h.out k hk ho
  · rw [List.set_eq_of_length_le (by omega)]
    exact h
theorem Bnd.save {x : Lay} {c : Int} {n : Nat} (h : Bnd W x c n) (hW : Wds W) (hl : W.length = 48) (pl y : Int) : Bnd (saveR W (onesO 5) 8 [x] 8 pl y).2 x c n := by
  unfold saveR
  split
  · exact h
  · rename_i g
    have hw := h.ob.wordE (p := pl) false
    rw [Classical.not_not.1 g] at hw
    split
    · exact h
    · split at hw
      · cases hw
      · exact h.set hl (by omega) (by omega)
theorem Bnd.tie {x : Lay} {c : Int} {n : Nat} (h : Bnd W x c n) (hW : Wds W) (hl : W.length = 48) (pl k i g : Int) : Bnd (tieR W (onesO 5) 8 [x] 8 pl k i g).2 x c n := by
  unfold tieR
  split
  · exact h
  · rename_i g
    have hw := h.ob.wordE (p := pl) true
    rw [Classical.not_not.1 g] at hw
    split
    · exact h
    · split
      · exact h
      · split at hw
        · cases hw
        · exact h.set hl (by omega) (by omega)
theorem bnd_make {x : Lay} {c : Int} {n : Nat} (hl : W.length = 48) (hsz : x.size c = ((n : Int), 0)) (hn : n ≤ 20) : (makeR W (onesO 5) 8 [x] 8 1 c 9).1 = ((n : Int) + 1, 0) ∧ (makeR W (onesO 5) 8 [x] 8 1 c 9).2 = (zeroW W 8 (n + 1)).set 8 (encH 1 c 9) ∧ mayB 1 c 9 = true := by
  have h2 : (x.size c).2 = 0 := by rw [hsz]
  obtain ⟨q4, q5, q6, q7, q8, q9⟩ := Lay.size_ok h2
  have hm : mayB 1 c 9 = true := mayB_iff.2 ⟨by decide, by decide, q5, q6, by decide, by decide⟩
  have hs : szI [x] 1 c = ((n : Int), 0) := by
    unfold szI
    rw [if_neg (show ¬ ((([x] : List Lay).length : Int) < 1) by simp)]
    show (if (x.size c).2 ≠ 0 then _ else _) = _
    rw [if_neg (by rw [h2]; decide)]
    have h1 : (x.size c).1 = n := by rw [hsz]
    exact Prod.ext h1 rfl
  have hiw : inW W.length 8 ((n : Int) + 1) := by unfold inW; omega
  have e1 : ((n : Int) + 1).toNat = n + 1 := by omega
  have hok : okW (onesO 5) 8 (8 : Int).toNat (n + 1) = true := ones_ok 8 (n + 1) (by omega)
  have hmk : makeR W (onesO 5) 8 [x] 8 1 c 9 = (((n : Int) + 1, 0), (zeroW W 8 (n + 1)).set 8 (encH 1 c 9)) := by
    unfold makeR
    rw [if_neg (by rw [hm]; decide), hs, if_neg (show ¬ (0 : Int) ≠ 0 by decide), if_neg (fun g => g hiw), e1, if_neg (by rw [hok]; decide)]
    rfl
  exact ⟨by rw [hmk], by rw [hmk], hm⟩
theorem bnd_made {x : Lay} {c : Int} {n : Nat} (hl : W.length = 48) (hsz : x.size c = ((n : Int), 0)) (hn : n ≤ 20) : (∀ k : Nat, k < 40 → (k < 8 ∨ 8 + n < k) → W.getD k 0 = 3 * (k : Int) + 1) → Bnd ((zeroW W 8 (n + 1)).set 8 (encH 1 c 9)) x c n := fun ho => by
  have hm := (bnd_make hl hsz hn).2.2
  have hz : 8 + (n + 1) ≤ W.length := by omega
  have hzl : (zeroW W 8 (n + 1)).length = W.length := zeroW_length _ _ _ hz
  refine ⟨⟨?_, hm, ?_, (show (1 : Int) ≤ 1 by decide), rfl, hsz⟩, fun k hk h2 => ?_⟩
  · rw [ones_at (by rw [List.length_set, hzl, hl])]; decide
  · show (List.set _ _ _).getD 8 0 = _
    rw [set_getD _ _ _ (by omega), if_pos rfl]
  · rw [set_getD _ _ _ (by omega), if_neg (by omega), zeroW_getD hz, if_neg (by omega)]
    exact ho k hk h2
theorem bnd_zero {n : Nat} {e : Int} (hl : W.length = 48) (hn : n ≤ 20) (k : Nat) (hk : k < n) : ((zeroW W 8 (n + 1)).set 8 e).getD (9 + k) 0 = 0 := by
  have hz : 8 + (n + 1) ≤ W.length := by omega
  have hzl : (zeroW W 8 (n + 1)).length = W.length := zeroW_length _ _ _ hz
  rw [set_getD _ _ _ (by omega), if_neg (by omega), zeroW_getD hz, if_pos (by omega)]
end Go.Proofs.YtfflacggaebonaaGreatDoor
end
