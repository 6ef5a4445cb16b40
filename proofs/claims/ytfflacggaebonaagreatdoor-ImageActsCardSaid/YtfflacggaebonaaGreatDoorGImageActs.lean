/- Ja Jb Jc Jd Je Jf Jg Jh Ji Jk Jl Jm Jn Jo Ns Rh Nl Jp Ln Rr Nf Qc -/
import Derived.Test.YtfflacggaebonaaGreatDoorGJ
import Derived.Test.YtfflacggaebonaaGreatDoorGN
import Derived.Deep.RegionHeld3
import Derived.StillTailTactics
import Derived.Deep.QuietTactic
import Derived.BigQuiet
import Derived.Test.YtfflacggaebonaaGreatDoorGC
import Derived.Test.YtfflacggaebonaaGreatDoorGK
import Derived.Test.YtfflacggaebonaaGreatDoorGI
import Derived.OrdersIn
import Derived.Deep.RegionHeld
import Derived.Lib.Hide
import Derived.Deep.LoopGhost
import Derived.OpenShut
import Derived.ChangeSame
import Derived.ChangeArms
import Derived.ProofKit
import Derived.Lib.SmallJoins
section
namespace Go.Proofs.YtfflacggaebonaaGreatDoor
open Go.RowKit
set_option linter.unusedVariables false
set_option linter.unusedSimpArgs false
variable {w w' base : World} {D G Wg Og size : Nat} {W W' own own' : List Int} {T : Nat → Prop} {v : Value} {dl : List LayR}
/-- How many words an object has, its header too. -/
def dszN (ls : List Lay) (l c : Int) : Int := if (szI ls l c).2 = 0 then (szI ls l c).1 + 1 else 0
theorem layI_get {dl : List LayR} {l : Int} : (dl.getD (l - 1).toNat layR0).x = layI (dl.map LayR.x) l := by
  unfold layI List.getD
  rw [List.getElem?_map]
  cases dl[(l - 1).toNat]? <;> rfl
set_option maxRecDepth 100000 in
set_option maxHeartbeats 1000000 in
theorem dsize_any (h : ImgD T base w D G Wg Og v W size own dl) (l c s : Int) (hl : 1 ≤ l) (hl2 : l ≤ 64) : Calls Tryz.prog 38 #[.pointer (some ⟨D, 0, none⟩), .agg #[.int .i64 l, .int .i64 c, .int .i64 s]] w fun e w' => e = .returned (.tuple #[.int .i64 (dszN (dl.map LayR.x) l c), .int .i64 (szI (dl.map LayR.x) l c).2]) ∧ Below w.heap.size w w' := by
  have hb1 := below1 w (.cells #[.int .i64 l, .int .i64 c, .int .i64 s] 32)
  have hl1 := heap_alloc_new w (.cells #[.int .i64 l, .int .i64 c, .int .i64 s] 32)
  have hI := h.on hb1
  obtain ⟨Au, cu, hu, hcu, hsl⟩ := own_slice layREnc layR0 (fun _ => rfl) hI.row
  have c1 := hI.c1
  subst hu
  have k0 := (blk_cells hl1 0).trans rfl
  have k1 := (blk_cells hl1 1).trans rfl
  have HB := Lib.hid hb1
  have hln : (dl.map LayR.x).length = dl.length := List.length_map ..
  have harg := hI.arg
  have hbel := hI.below
  clear hb1 hl1 hI h
  by_cases g : (dl.length : Int) < l
  · have e1 : szI (dl.map LayR.x) l c = (0, 6) := by unfold szI; rw [hln, if_pos g]
    have HE : Hid (dszN (dl.map LayR.x) l c = 0 ∧ (szI (dl.map LayR.x) l c).2 = 6) := Lib.hid (by unfold dszN; rw [e1]; exact ⟨rfl, rfl⟩)
    have d1 : decide ((dl.length : Int) < l) = true := decide_eq_true g
    clear e1 hln hsl
    generalize dszN (dl.map LayR.x) l c = z1 at *
    generalize (szI (dl.map LayR.x) l c).2 = z2 at *
    go_enter Tryz.func38, Tryz.ntmps38
    go_wp2_with fail
    go_quiet (fail)
    have HBQ := Lib.hid (below_drewN HB.out nq)
    go_wp2
    go_ret2
    exact ⟨by rw [HE.out.1, HE.out.2]; rfl, HBQ.out⟩
  · have gl : (l - 1).toNat < dl.length := by omega
    obtain ⟨b, o, hA, hc⟩ := hsl _ gl
    subst hA
    have hmem : dl.getD (l - 1).toNat layR0 ∈ dl := by
      have : dl.getD (l - 1).toNat layR0 = dl[(l - 1).toNat] := by unfold List.getD; rw [List.getElem?_eq_getElem gl]; rfl
      rw [this]; exact List.getElem_mem gl
    have HLY := Lib.hid ((harg _ hmem).on hbel)
    have hx := layI_get (dl := dl) (l := l)
    have hs1 := szI_in (ls := dl.map LayR.x) (l := l) (c := c) (by rw [hln]; omega)
    rw [← hx] at hs1
    generalize dl.getD (l - 1).toNat layR0 = r at *
    have HSZ : Hid ((szI (dl.map LayR.x) l c).2 = (r.x.size c).2 ∧ dszN (dl.map LayR.x) l c = if (r.x.size c).2 = 0 then (r.x.size c).1 + 1 else 0) := Lib.hid ⟨hs1.1, by
      unfold dszN
      rw [hs1.1]
      by_cases g0 : (r.x.size c).2 = 0
      · rw [if_pos g0, if_pos g0, hs1.2 (hs1.1.trans g0)]
      · rw [if_neg g0, if_neg g0]⟩
    generalize dszN (dl.map LayR.x) l c = z1 at *
    generalize (szI (dl.map LayR.x) l c).2 = z2 at *
    obtain ⟨m, hm⟩ : ∃ m : Nat, l = (m : Int) + 1 := ⟨(l - 1).toNat, by omega⟩
    subst hm
    have em : ((m : Int) + 1 - 1).toNat = m := by omega
    rw [em] at hc gl
    have wm : IntKind.i64.wrap (m : Int) = m := by rw [IntKind.wrap_i64]; omega
    have d0 := hc 0 _ rfl
    have d1 := hc 1 _ rfl
    have d2 := hc 2 _ rfl
    have d3 := hc 3 _ rfl
    rw [Nat.add_zero] at d0
    have dd : decide ((dl.length : Int) < (m : Int) + 1) = false := decide_eq_false (by omega)
    have hok := Lib.hid (Lay.size_ok (x := r.x) (c := c))
    have HS : Hid (∀ Y, Below (w.alloc (.cells #[.int .i64 ((m : Int) + 1), .int .i64 c, .int .i64 s] 32)).heap.size (w.alloc (.cells #[.int .i64 ((m : Int) + 1), .int .i64 c, .int .i64 s] 32)) Y → Calls Tryz.prog 67 #[.agg #[.int .i64 r.x.fixed, .slice r.A1 r.x.refs.length r.c1, .int .i64 r.x.record, .slice r.A2 r.x.recs.length r.c2], .int .i64 c] Y fun e w' => e = .returned (.tuple #[.int .i64 (r.x.size c).1, .int .i64 (r.x.size c).2]) ∧ Below Y.heap.size Y w') := Lib.hid (fun Y hY => refsize_any r.x c r.A1 r.c1 r.A2 r.c2 Y (HLY.out.on hY))
    clear hc hmem harg hbel hs1 hx hln em g
    generalize r.x.size c = sz at *
    obtain ⟨n, er⟩ := sz
    go_enter Tryz.func38, Tryz.ntmps38
    go_wp2_with fail
    go_quiet (fail)
    generalize (w.alloc (.cells #[.int .i64 ((m : Int) + 1), .int .i64 c, .int .i64 s] 32)) = W1 at *
    have HBQ : Hid (Below W1.heap.size W1 (W1.drewN nq)) := Lib.hid (below_drewN (Below.refl _ W1) nq)
    have hq := HBQ.out
    have k0' := cell_on hq k0
    have k1' := cell_on hq k1
    have c1' := cell_on hq c1
    have d0' := cell_on hq d0
    have d1' := cell_on hq d1
    have d2' := cell_on hq d2
    have d3' := cell_on hq d3
    clear hq k0 k1 c1 d0 d1 d2 d3
    generalize W1.drewN nq = W2 at *
    go_wp2_with fail
    go_region_law (go_simp; go_at_call 67; refine (HS.out _ (HBQ.out.on (below_drewN (Below.refl _ W2) 1))).mono ?_; rintro e w4 ⟨rfl, hb4⟩)
    all_goals
      have HB4 := Lib.hid (((HB.out.trans (HBQ.out.mono HB.out.size)).on (below_drewN (Below.refl _ W2) 1)).on hb4)
      clear hb4
      by_cases g0 : er = 0
      · subst g0
        obtain ⟨q4, q5, q6, q7, q8, q9⟩ := hok.out rfl
        have hn9 : n < 8192 := q9
        have hn0 : 0 ≤ n := by
          obtain ⟨r1, r2, r3, r4, r5, r6, r7⟩ := Lay.right_out q4
          have : 0 ≤ c * r.x.record := Int.mul_nonneg q5 r3
          have h8 : n = r.x.fixed + c * r.x.record := q8
          omega
        have wn : IntKind.i64.wrap (n + 1) = n + 1 := by rw [IntKind.wrap_i64]; omega
        have e2 : z2 = 0 := HSZ.out.1
        have e1 : z1 = n + 1 := HSZ.out.2
        subst e1
        subst e2
        clear q4 q5 q6 q7 q8 q9
        go_wp2
        go_ret2
        exact ⟨rfl, HB4.out⟩
      · have g' : (er == 0) = false := by simpa using g0
        have e2 : z2 = er := HSZ.out.1
        have e1 : z1 = 0 := HSZ.out.2.trans (if_neg g0)
        subst e1
        subst e2
        go_wp2
        go_ret2
        exact ⟨rfl, HB4.out⟩
end Go.Proofs.YtfflacggaebonaaGreatDoor
end
section
namespace Go.Proofs.YtfflacggaebonaaGreatDoor
open Go.RowKit
set_option linter.unusedVariables false
set_option linter.unusedSimpArgs false
variable {w w' base : World} {D G Wg Og size : Nat} {W W' own own' : List Int} {T : Nat → Prop} {v : Value} {dl : List LayR}
theorem rat_t (h : RefSt w G Wg Og W size own) (a : Int) : Calls Tryz.prog 34 #[.pointer (some ⟨G, 0, none⟩), .int .i64 a] w fun e w' => e = .returned (.int .i64 (adE W own size a)) ∧ w = w' := by
  unfold adE
  by_cases g : a < 0 ∨ (W.length : Int) ≤ a
  · rw [if_pos g]
    exact rat_out h a g
  · rw [if_neg g]
    obtain ⟨m, rfl⟩ : ∃ m : Nat, a = m := ⟨a.toNat, by omega⟩
    rw [Int.toNat_natCast]
    exact rat_in h m (by omega)
set_option maxRecDepth 100000 in
set_option maxHeartbeats 1000000 in
theorem dat_any (h : ImgD T base w D G Wg Og v W size own dl) (hW : Wds W) (a : Int) : Calls Tryz.prog 9 #[.pointer (some ⟨D, 0, none⟩), .int .i64 a] w fun e w' => e = .returned (.tuple #[.agg #[.int .i64 (atR W own size (dl.map LayR.x) a).1, .int .i64 (atR W own size (dl.map LayR.x) a).2.1, .int .i64 (atR W own size (dl.map LayR.x) a).2.2.1], .int .i64 (atR W own size (dl.map LayR.x) a).2.2.2, .int .i64 (findE W own size (dl.map LayR.x) a)]) ∧ Below w.heap.size w w' := by
  obtain ⟨w0, w1⟩ := hW.get a.toNat
  have hb1 := below1 w (.cells #[.int .i64 0, .int .i64 0, .int .i64 0] 32)
  have hl1 := heap_alloc_new w (.cells #[.int .i64 0, .int .i64 0, .int .i64 0] 32)
  have hI := h.on hb1
  have c0 := hI.c0
  have HA := Lib.hid (rat_t hI.rf a)
  have HI := Lib.hid hI
  have HB := Lib.hid hb1
  have HL := Lib.hid hl1
  have hwl := hI.rf.wlen
  clear hI h hb1 hl1
  by_cases g1 : adE W own size a = 0
  · obtain ⟨m, ha, hm, -⟩ := adE_ok g1
    subst ha
    have hcw := HI.out.rf.word_cell m hm
    have hc0 := HI.out.rf.c0
    rw [Int.toNat_natCast] at w0 w1
    rw [g1] at HA
    have HD : Hid (∀ Y, Calls Tryz.prog 37 #[.int .u64 (W.getD m 0)] Y fun e w' => e = .returned (.tuple #[.agg #[.int .i64 (decI (W.getD m 0)).1, .int .i64 (decI (W.getD m 0)).2.1, .int .i64 (decI (W.getD m 0)).2.2.1], .bool (decOK (W.getD m 0))]) ∧ Below Y.heap.size Y w') := Lib.hid (fun Y => refdecode_any (W.getD m 0) Y w0 w1)
    by_cases g2 : decOK (W.getD m 0) = true
    · rcases dec_parts w0 w1 with ⟨l, c, s, e4, hmy, he⟩ | e4
      · have hl := mayB_iff.1 hmy
        have HF : Hid (findE W own size (dl.map LayR.x) m = (szI (dl.map LayR.x) l c).2) := Lib.hid (findE_3 g1 (by rw [Int.toNat_natCast]; exact e4) (by rw [Int.toNat_natCast]; exact g2))
        have HT : Hid (findE W own size (dl.map LayR.x) m = 0 → atR W own size (dl.map LayR.x) m = (l, c, s, (szI (dl.map LayR.x) l c).1 + 1)) := Lib.hid (fun g => by
          unfold atR hdI
          rw [if_neg (by rw [g]; simp), Int.toNat_natCast, e4])
        have HZ : Hid (∀ Y, ImgD T base Y D G Wg Og v W size own dl → Calls Tryz.prog 38 #[.pointer (some ⟨D, 0, none⟩), .agg #[.int .i64 l, .int .i64 c, .int .i64 s]] Y fun e w' => e = .returned (.tuple #[.int .i64 (dszN (dl.map LayR.x) l c), .int .i64 (szI (dl.map LayR.x) l c).2]) ∧ Below Y.heap.size Y w') := Lib.hid (fun Y hY => dsize_any hY l c s hl.1 hl.2.1)
        have HN : Hid ((szI (dl.map LayR.x) l c).2 = 0 → dszN (dl.map LayR.x) l c = (szI (dl.map LayR.x) l c).1 + 1) := Lib.hid (fun g => by unfold dszN; rw [if_pos g])
        rw [e4, g2] at HD
        have HU : Hid (findE W own size (dl.map LayR.x) m ≠ 0 → atR W own size (dl.map LayR.x) m = (0, 0, 0, 0)) := Lib.hid atR_none
        generalize hfe : findE W own size (dl.map LayR.x) m = fe at *
        generalize atR W own size (dl.map LayR.x) m = ar at *
        generalize (szI (dl.map LayR.x) l c).2 = es at *
        generalize (szI (dl.map LayR.x) l c).1 = ns at *
        generalize dszN (dl.map LayR.x) l c = dz at *
        generalize W.getD m 0 = wd at *
        clear g1 g2 e4 he hmy hl w0 w1 hfe
        go_enter Tryz.func9, Tryz.ntmps9
        go_wp2_with fail
        generalize w.alloc (.cells #[.int .i64 0, .int .i64 0, .int .i64 0] 32) = W1 at *
        refine HA.out.mono ?_
        rintro e w2 ⟨rfl, rfl⟩
        go_wp2_with fail
        refine (HD.out _).mono ?_
        rintro e w3 ⟨rfl, hb3⟩
        have hb4 := hb3.on (below1 w3 (.cells #[.int .i64 l, .int .i64 c, .int .i64 s] 32))
        have hn4 := heap_alloc_new w3 (.cells #[.int .i64 l, .int .i64 c, .int .i64 s] 32)
        have hl4 := (hb4.block _ (block_lt HL.out)).trans HL.out
        have HI4 := Lib.hid (HI.out.on hb4)
        have HB4 := Lib.hid (HB.out.on hb4)
        have j0 := block_lt ((hb3.block _ (block_lt HL.out)).trans HL.out)
        clear hb3 hb4 HI HB HL HA HD c0 hcw hc0
        go_wp2_with fail
        refine (HZ.out _ HI4.out).mono ?_
        rintro e w5 ⟨rfl, hb5⟩
        have hn5 := (hb5.block _ (block_lt hn4)).trans hn4
        have hl5 := (hb5.block _ (block_lt hl4)).trans hl4
        have HB5 := Lib.hid (HB4.out.on hb5)
        have j1 : ¬ w3.heap.size = w.heap.size := by omega
        have j2 : ¬ w.heap.size = w3.heap.size := by omega
        have k0 := (blk_cells hl5 0).trans rfl; have t0 := blk_thaw hl5 0; have k1 := (blk_cells hl5 1).trans rfl; have t1 := blk_thaw hl5 1; have k2 := (blk_cells hl5 2).trans rfl; have t2 := blk_thaw hl5 2
        have q0 := (blk_cells hn5 0).trans rfl
        have q1 := (blk_cells hn5 1).trans rfl
        have q2 := (blk_cells hn5 2).trans rfl
        clear hb5 hn5 hl5 hn4 hl4 HZ HI4 HB4
        by_cases g : es = 0
        · have hf : fe = 0 := HF.out.trans g
          have ha := HT.out hf
          have hd := HN.out g
          subst g
          subst hf
          subst ha
          subst hd
          clear HF HT HN
          go_wp2
          (try simp only [Exit.inBlock, Exit.then])
          refine bodyPost_ret (v := .tuple #[.agg #[.int .i64 l, .int .i64 c, .int .i64 s], .int .i64 (ns + 1), .int .i64 0]) ?_ rfl ⟨rfl, ?_⟩
          · rw [results_cell_tmp2 rfl]
            go_simp
            (try rfl)
          · repeat (first | assumption | with_reducible refine below_drw ?_ | with_reducible refine below_alc ?_ | (with_reducible refine below_to ?_ ?_; · omega))
        · have hf : fe = es := HF.out
          subst hf
          have g' : (fe == 0) = false := by simpa using g
          have ha : ar = (0, 0, 0, 0) := HU.out g
          subst ha
          clear HF HT HN HU
          go_wp2
          (try simp only [Exit.inBlock, Exit.then])
          refine bodyPost_ret (v := .tuple #[.agg #[.int .i64 0, .int .i64 0, .int .i64 0], .int .i64 0, .int .i64 fe]) ?_ rfl ⟨rfl, ?_⟩
          · rw [results_cell_tmp2 rfl]
            go_simp
            (try rfl)
          · repeat (first | assumption | with_reducible refine below_drw ?_ | with_reducible refine below_alc ?_ | (with_reducible refine below_to ?_ ?_; · omega))
      · exfalso
        unfold decI at e4
        rw [if_pos g2] at e4
        have e5 : (0 : Int) = 4 := congrArg (fun z => z.2.2.2) e4
        cases e5
    · have g2' : decOK (W.getD m 0) = false := by simpa using g2
      have HF : Hid (findE W own size (dl.map LayR.x) m = 4) := Lib.hid (findE_2 g1 (by rw [Int.toNat_natCast]; exact g2'))
      have HU : Hid (atR W own size (dl.map LayR.x) m = (0, 0, 0, 0)) := Lib.hid (atR_none (by rw [HF.out]; decide))
      have e4 : decI (W.getD m 0) = (0, 0, 0, 4) := by unfold decI; rw [if_neg g2]
      rw [e4, g2'] at HD
      generalize findE W own size (dl.map LayR.x) m = fe at *
      generalize atR W own size (dl.map LayR.x) m = ar at *
      generalize W.getD m 0 = wd at *
      clear g1 g2 g2' e4 w0 w1
      go_enter Tryz.func9, Tryz.ntmps9
      go_wp2_with fail
      generalize w.alloc (.cells #[.int .i64 0, .int .i64 0, .int .i64 0] 32) = W1 at *
      refine HA.out.mono ?_
      rintro e w2 ⟨rfl, rfl⟩
      go_wp2_with fail
      refine (HD.out _).mono ?_
      rintro e w3 ⟨rfl, hb3⟩
      have hb4 := hb3.on (below1 w3 (.cells #[.int .i64 0, .int .i64 0, .int .i64 0] 32))
      have hl4 := (hb4.block _ (block_lt HL.out)).trans HL.out
      have hl3 := (hb3.block _ (block_lt HL.out)).trans HL.out
      have HB3 := Lib.hid (HB.out.on hb3)
      have j0 := block_lt hl3
      have j1 : ¬ w3.heap.size = w.heap.size := by omega
      have j2 : ¬ w.heap.size = w3.heap.size := by omega
      have k0 := (blk_cells hl4 0).trans rfl; have t0 := blk_thaw hl4 0; have k1 := (blk_cells hl4 1).trans rfl; have t1 := blk_thaw hl4 1; have k2 := (blk_cells hl4 2).trans rfl; have t2 := blk_thaw hl4 2
      have k0 := (blk_cells hl3 0).trans rfl; have t0 := blk_thaw hl3 0; have k1 := (blk_cells hl3 1).trans rfl; have t1 := blk_thaw hl3 1; have k2 := (blk_cells hl3 2).trans rfl; have t2 := blk_thaw hl3 2
      clear hb3 hb4 hl4 hl3 HI HB HL HA HD c0 hcw hc0
      have hf := HF.out
      have ha := HU.out
      subst hf
      subst ha
      go_wp2
      (try simp only [Exit.inBlock, Exit.then])
      refine bodyPost_ret (v := .tuple #[.agg #[.int .i64 0, .int .i64 0, .int .i64 0], .int .i64 0, .int .i64 4]) ?_ rfl ⟨rfl, ?_⟩
      · rw [results_cell_tmp2 rfl]
        go_simp
        (try rfl)
      · repeat (first | assumption | with_reducible refine below_drw ?_ | with_reducible refine below_alc ?_ | (with_reducible refine below_to ?_ ?_; · omega))
  · have HF : Hid (findE W own size (dl.map LayR.x) a = adE W own size a) := Lib.hid (findE_1 g1)
    have HU : Hid (atR W own size (dl.map LayR.x) a = (0, 0, 0, 0)) := Lib.hid (atR_none (by rw [HF.out]; exact g1))
    generalize adE W own size a = ad at *
    generalize findE W own size (dl.map LayR.x) a = fe at *
    generalize atR W own size (dl.map LayR.x) a = ar at *
    have hf := HF.out
    have ha := HU.out
    subst hf
    subst ha
    have g' : (fe == 0) = false := by simpa using g1
    have k0 := (blk_cells HL.out 0).trans rfl; have t0 := blk_thaw HL.out 0; have k1 := (blk_cells HL.out 1).trans rfl; have t1 := blk_thaw HL.out 1; have k2 := (blk_cells HL.out 2).trans rfl; have t2 := blk_thaw HL.out 2
    go_enter Tryz.func9, Tryz.ntmps9
    go_wp2_with fail
    generalize w.alloc (.cells #[.int .i64 0, .int .i64 0, .int .i64 0] 32) = W1 at *
    refine HA.out.mono ?_
    rintro e w2 ⟨rfl, rfl⟩
    go_wp2
    (try simp only [Exit.inBlock, Exit.then])
    refine bodyPost_ret (v := .tuple #[.agg #[.int .i64 0, .int .i64 0, .int .i64 0], .int .i64 0, .int .i64 fe]) ?_ rfl ⟨rfl, ?_⟩
    · rw [results_cell_tmp2 rfl]
      go_simp
      (try rfl)
    · have hB := HB.out
      repeat (first | assumption | with_reducible refine below_drw ?_ | with_reducible refine below_alc ?_ | (with_reducible refine below_to ?_ ?_; · omega))
end Go.Proofs.YtfflacggaebonaaGreatDoor
end
section
namespace Go.Proofs.YtfflacggaebonaaGreatDoor
open Go.RowKit
set_option linter.unusedVariables false
set_option linter.unusedSimpArgs false
variable {w w' base : World} {D G Wg Og size : Nat} {W W' own own' : List Int} {T : Nat → Prop} {v : Value} {dl : List LayR} {ls : List Lay}
/-- Whether a place is a reference; what is wrong. -/
def plR (W own : List Int) (size : Nat) (ls : List Lay) (a p : Int) : Bool × Int := if findE W own size ls a ≠ 0 then (false, findE W own size ls a) else (layI ls (hdI W a).1).isRefE (hdI W a).2.1 p
theorem ObjAt.plR {a l c s n p : Int} {x : Lay} (h : ObjAt W own size ls a l c s x n) : Go.Proofs.YtfflacggaebonaaGreatDoor.plR W own size ls a p = if p < 0 ∨ n ≤ p then (false, 3) else (x.isRef p, 0) := by
  have e : hdI W a = (l, c, s, 0) := h.dec
  unfold Go.Proofs.YtfflacggaebonaaGreatDoor.plR
  rw [if_neg (by rw [h.find]; simp), e]
  simp only [h.lay]
  have hs := h.sz
  unfold Lay.isRefE
  rw [hs]
  simp only [if_true]
theorem wordE_pl {a p : Int} {r : Bool} : wordE W own size ls a p r = if (plR W own size ls a p).2 ≠ 0 then (plR W own size ls a p).2 else if (plR W own size ls a p).1 = r then 0 else 9 := by
  by_cases g : findE W own size ls a = 0
  · have e : plR W own size ls a p = (layI ls (hdI W a).1).isRefE (hdI W a).2.1 p := by unfold plR; rw [if_neg (by simpa using g)]
    rw [e]
    unfold wordE
    rw [if_neg (by simpa using g)]
  · have e : plR W own size ls a p = (false, findE W own size ls a) := by unfold plR; rw [if_pos g]
    rw [e]
    unfold wordE
    rw [if_pos g, if_pos g]
set_option maxRecDepth 100000 in
set_option maxHeartbeats 1000000 in
theorem dplace_any (h : ImgD T base w D G Wg Og v W size own dl) (hW : Wds W) (a pl : Int) (hl : ls = dl.map LayR.x) : Calls Tryz.prog 70 #[.pointer (some ⟨D, 0, none⟩), .int .i64 a, .int .i64 pl] w fun e w' => e = .returned (.tuple #[.bool (plR W own size ls a pl).1, .int .i64 (plR W own size ls a pl).2]) ∧ Below w.heap.size w w' := by
  have HA := Lib.hid (dat_any h hW a)
  rw [← hl] at HA
  have HI := Lib.hid h
  clear h
  by_cases g : findE W own size ls a = 0
  · obtain ⟨l, c, s, x, n, ho⟩ := obj_of hW g
    rw [ho.atR, g] at HA
    have hp := ho.plR (p := pl)
    obtain ⟨n0, n1, -⟩ := ho.n0
    have hwn : IntKind.i64.wrap (n + 1 - 1) = n := by rw [IntKind.wrap_i64]; omega
    have hl1 := ho.l1
    have hl64 := (mayB_iff.1 ho.may).2.1
    have hll := ho.ll
    have hlay := ho.lay
    have hsz := ho.sz
    clear g ho
    by_cases gp : pl < 0 ∨ n ≤ pl
    · rw [if_pos gp] at hp
      have HP := Lib.hid hp
      generalize plR W own size ls a pl = pr at *
      clear hp
      by_cases g1 : pl < 0
      · have d1 : decide (pl < 0) = true := decide_eq_true g1
        clear gp
        go_enter Tryz.func70, Tryz.ntmps70
        go_wp2_with fail
        refine HA.out.mono ?_
        rintro e w2 ⟨rfl, hb2⟩
        have HB2 := Lib.hid (hb2.on (below1 w2 (.cells #[.int .i64 l, .int .i64 c, .int .i64 s] 32)))
        clear hb2
        go_wp2
        go_ret2
        exact ⟨by rw [HP.out]; rfl, HB2.out⟩
      · have d1 : decide (pl < 0) = false := decide_eq_false g1
        have d2 : decide (n ≤ pl) = true := decide_eq_true (by omega)
        have d3 : decide (n + 1 - 1 ≤ pl) = true := decide_eq_true (by omega)
        have w2' : IntKind.i64.wrap n = n := by rw [IntKind.wrap_i64]; omega
        clear gp
        go_enter Tryz.func70, Tryz.ntmps70
        go_wp2_with fail
        refine HA.out.mono ?_
        rintro e w2 ⟨rfl, hb2⟩
        have HB2 := Lib.hid (hb2.on (below1 w2 (.cells #[.int .i64 l, .int .i64 c, .int .i64 s] 32)))
        clear hb2
        go_wp2
        go_ret2
        exact ⟨by rw [HP.out]; rfl, HB2.out⟩
    · rw [if_neg gp] at hp
      have HP := Lib.hid hp
      generalize plR W own size ls a pl = pr at *
      clear hp
      have d1 : decide (pl < 0) = false := decide_eq_false (by omega)
      have d2 : decide (n ≤ pl) = false := decide_eq_false (by omega)
      have w2' : IntKind.i64.wrap n = n := by rw [IntKind.wrap_i64]; omega
      obtain ⟨Au, cu, hu, hcu, hsl⟩ := own_slice layREnc layR0 (fun _ => rfl) HI.out.row
      have hln : ls.length = dl.length := by rw [hl, List.length_map]
      obtain ⟨m, rfl⟩ : ∃ m : Nat, l = (m : Int) + 1 := ⟨(l - 1).toNat, by omega⟩
      have gl : m < dl.length := by omega
      have HGL := Lib.hid gl
      obtain ⟨b, o, hA, hc⟩ := hsl m gl
      have hmem : dl.getD m layR0 ∈ dl := by
        have : dl.getD m layR0 = dl[m] := by unfold List.getD; rw [List.getElem?_eq_getElem gl]; rfl
        rw [this]; exact List.getElem_mem gl
      have HLY := Lib.hid ((HI.out.arg _ hmem).on HI.out.below)
      have hx := layI_get (dl := dl) (l := (m : Int) + 1)
      rw [show ((m : Int) + 1 - 1).toNat = m by omega, ← hl, hlay] at hx
      have c1 := HI.out.c1
      generalize dl.getD m layR0 = r at *
      have HX : Hid (∀ Y, Below w.heap.size w Y → Calls Tryz.prog 71 #[.agg #[.int .i64 r.x.fixed, .slice r.A1 r.x.refs.length r.c1, .int .i64 r.x.record, .slice r.A2 r.x.recs.length r.c2], .int .i64 pl] Y fun e w' => e = .returned (.bool (x.isRef pl)) ∧ Below Y.heap.size Y w') := Lib.hid (fun Y hY => by
        rw [← hx]
        exact refisref_any r.x c pl r.A1 r.c1 r.A2 r.c2 Y (HLY.out.on hY) (by rw [hx, hsz]) (by omega) (by rw [hx, hsz]; show pl < n; omega))
      have d0 := hc 0 _ rfl
      have e1 := hc 1 _ rfl
      have e2 := hc 2 _ rfl
      have e3 := hc 3 _ rfl
      rw [Nat.add_zero] at d0
      subst hA
      subst hu
      have wm : IntKind.i64.wrap (m : Int) = m := by rw [IntKind.wrap_i64]; omega
      have hD := hcu
      clear gp hx hsz hlay hc hmem hsl hll hln hl1 gl
      generalize x.isRef pl = xr at *
      go_enter Tryz.func70, Tryz.ntmps70
      go_wp2_with fail
      refine HA.out.mono ?_
      rintro e w2 ⟨rfl, hb2⟩
      have hb3 := hb2.on (below1 w2 (.cells #[.int .i64 ((m : Int) + 1), .int .i64 c, .int .i64 s] 32))
      have hn3 := heap_alloc_new w2 (.cells #[.int .i64 ((m : Int) + 1), .int .i64 c, .int .i64 s] 32)
      have HB3 := Lib.hid hb3
      have f0 := cell_on hb3 d0
      have f1 := cell_on hb3 e1
      have f2 := cell_on hb3 e2
      have f3 := cell_on hb3 e3
      have f4 := cell_on hb3 c1
      have k0 := (blk_cells hn3 0).trans rfl
      clear hb2 hb3 d0 e1 e2 e3 c1
      go_wp2_with fail
      generalize w2.alloc (.cells #[.int .i64 ((m : Int) + 1), .int .i64 c, .int .i64 s] 32) = W3 at *
      generalize w2.heap.size = nb at *
      have hgl : m < dl.length := by have := HGL.out; omega
      go_region_law (go_simp; go_at_call 71; refine (HX.out _ (HB3.out.on (below_drewN (Below.refl _ W3) 1))).mono ?_; rintro e w4 ⟨rfl, hb4⟩)
      all_goals
        have HB4 := Lib.hid ((HB3.out.on (below_drewN (Below.refl _ W3) 1)).on hb4)
        clear hb4
        go_wp2
        go_ret2
        exact ⟨by rw [HP.out]; rfl, HB4.out⟩
  · have HP : Hid (plR W own size ls a pl = (false, findE W own size ls a)) := Lib.hid (by unfold plR; rw [if_pos g])
    rw [atR_none g] at HA
    generalize plR W own size ls a pl = pr at *
    generalize findE W own size ls a = fe at *
    have g' : (fe == 0) = false := by simpa using g
    go_enter Tryz.func70, Tryz.ntmps70
    go_wp2_with fail
    refine HA.out.mono ?_
    rintro e w2 ⟨rfl, hb2⟩
    have HB2 := Lib.hid (hb2.on (below1 w2 (.cells #[.int .i64 0, .int .i64 0, .int .i64 0] 32)))
    clear hb2
    go_wp2
    go_ret2
    exact ⟨by rw [HP.out]; rfl, HB2.out⟩
end Go.Proofs.YtfflacggaebonaaGreatDoor
end
section
namespace Go.Proofs.YtfflacggaebonaaGreatDoor
open Go.RowKit
set_option linter.unusedVariables false
set_option linter.unusedSimpArgs false
variable {w w' base : World} {D G Wg Og size : Nat} {W W' own own' : List Int} {T : Nat → Prop} {v : Value} {dl : List LayR} {ls : List Lay}
theorem plR_in (hW : Wds W) {a p : Int} (h : (plR W own size ls a p).2 = 0) : (∃ m : Nat, a = m ∧ m < W.length) ∧ 0 ≤ p ∧ p < 8192 := by
  by_cases g : findE W own size ls a = 0
  · obtain ⟨l, c, s, x, n, ho⟩ := obj_of hW g
    obtain ⟨m, ha, hm, -⟩ := adE_ok ho.ad
    obtain ⟨n0, n1, -⟩ := ho.n0
    rw [ho.plR] at h
    split at h
    · cases h
    · exact ⟨⟨m, ha, hm⟩, by omega, by omega⟩
  · unfold plR at h
    rw [if_pos g] at h
    exact absurd h g
set_option maxRecDepth 100000 in
set_option maxHeartbeats 1000000 in
theorem dword_any (h : ImgD T base w D G Wg Og v W size own dl) (hW : Wds W) (a pl : Int) (r : Bool) (hl : ls = dl.map LayR.x) : Calls Tryz.prog 41 #[.pointer (some ⟨D, 0, none⟩), .int .i64 a, .int .i64 pl, .bool r] w fun e w' => e = .returned (.tuple #[.int .i64 (placeR W own size ls a pl r), .int .i64 (wordE W own size ls a pl r)]) ∧ Below w.heap.size w w' := by
  have HP := Lib.hid (dplace_any h hW a pl hl)
  have hwl := h.rf.wlen
  have HWE : Hid (wordE W own size ls a pl r = if (plR W own size ls a pl).2 ≠ 0 then (plR W own size ls a pl).2 else if (plR W own size ls a pl).1 = r then 0 else 9) := Lib.hid wordE_pl
  have HIN := Lib.hid (plR_in (W := W) (own := own) (size := size) (ls := ls) (a := a) (p := pl) hW)
  have HPR : Hid (placeR W own size ls a pl r = if wordE W own size ls a pl r = 0 then a + 1 + pl else 0) := Lib.hid rfl
  generalize placeR W own size ls a pl r = pr at *
  generalize wordE W own size ls a pl r = we at *
  generalize plR W own size ls a pl = q at *
  obtain ⟨q1, q2⟩ := q
  clear h
  by_cases g : q2 = 0
  · subst g
    obtain ⟨⟨m, ha, hm⟩, p0, p1⟩ := HIN.out rfl
    have w1 : IntKind.i64.wrap (a + 1) = a + 1 := by rw [IntKind.wrap_i64]; omega
    have w2' : IntKind.i64.wrap (a + 1 + pl) = a + 1 + pl := by rw [IntKind.wrap_i64]; omega
    clear ha hm
    cases q1 <;> cases r
    all_goals
      go_enter Tryz.func41, Tryz.ntmps41
      go_wp2_with fail
      refine HP.out.mono ?_
      rintro e w2 ⟨rfl, hb2⟩
      have HB2 := Lib.hid hb2
      clear hb2
      go_wp2
      go_ret2
      refine ⟨?_, HB2.out⟩
      rw [HPR.out, HWE.out]
      rfl
  · have g' : (q2 == 0) = false := by simpa using g
    go_enter Tryz.func41, Tryz.ntmps41
    go_wp2_with fail
    refine HP.out.mono ?_
    rintro e w2 ⟨rfl, hb2⟩
    have HB2 := Lib.hid hb2
    clear hb2
    go_wp2
    go_ret2
    refine ⟨?_, HB2.out⟩
    rw [HPR.out, HWE.out, if_pos g, if_neg g]
    rfl
end Go.Proofs.YtfflacggaebonaaGreatDoor
end
section
namespace Go.Proofs.YtfflacggaebonaaGreatDoor
open Go.RowKit
set_option linter.unusedVariables false
set_option linter.unusedSimpArgs false
variable {w w' base : World} {D G Wg Og size : Nat} {W W' own own' : List Int} {T : Nat → Prop} {v : Value} {dl : List LayR} {ls : List Lay}
set_option maxRecDepth 100000 in
set_option maxHeartbeats 1000000 in
theorem dload_any (h : ImgD T base w D G Wg Og v W size own dl) (hW : Wds W) (a pl : Int) (hl : ls = dl.map LayR.x) : Calls Tryz.prog 27 #[.pointer (some ⟨D, 0, none⟩), .int .i64 a, .int .i64 pl] w fun e w' => e = .returned (.tuple #[.int .u64 (loadR W own size ls a pl).1, .int .i64 (loadR W own size ls a pl).2]) ∧ Below w.heap.size w w' := by
  have HF := Lib.hid (dword_any h hW a pl false hl)
  have HI := Lib.hid h
  by_cases g : wordE W own size ls a pl false = 0
  · have hp := placeR_in g
    have HE : Hid (loadR W own size ls a pl = if adE W own size (a + 1 + pl) ≠ 0 then (0, adE W own size (a + 1 + pl)) else (W.getD (a + 1 + pl).toNat 0, 0)) := Lib.hid (by unfold loadR; rw [if_neg (by simpa using g)])
    rw [g, hp] at HF
    clear g hp h
    generalize a + 1 + pl = at' at *
    have HR : Hid (∀ Y, Below w.heap.size w Y → Calls Tryz.prog 34 #[.pointer (some ⟨G, 0, none⟩), .int .i64 at'] Y fun e w' => e = .returned (.int .i64 (adE W own size at')) ∧ Y = w') := Lib.hid (fun Y hY => rat_t (HI.out.on hY).rf at')
    by_cases g1 : adE W own size at' = 0
    · obtain ⟨m, ha, hm, -⟩ := adE_ok g1
      subst ha
      rw [g1] at HR
      rw [if_neg (by simpa using g1), Int.toNat_natCast] at HE
      clear g1
      have HC : Hid (∀ Y, Below w.heap.size w Y → Y.cell? ⟨Wg, m, none⟩ = some (.int .u64 (W.getD m 0))) := Lib.hid (fun Y hY => (HI.out.on hY).rf.word_cell m hm)
      generalize loadR W own size ls a pl = lr at *
      generalize W.getD m 0 = wd at *
      go_enter Tryz.func27, Tryz.ntmps27
      go_wp2_with fail
      refine HF.out.mono ?_
      rintro e w2 ⟨rfl, hb2⟩
      have HB2 := Lib.hid hb2
      have c0 := (HI.out.on hb2).c0
      have r0 := (HI.out.on hb2).rf.c0
      have hw := HC.out _ hb2
      clear hb2
      go_wp2_with fail
      refine (HR.out _ HB2.out).mono ?_
      rintro e w3 ⟨rfl, rfl⟩
      go_wp2
      go_ret2
      exact ⟨by rw [HE.out]; rfl, HB2.out⟩
    · rw [if_pos g1] at HE
      generalize loadR W own size ls a pl = lr at *
      generalize adE W own size at' = ad at *
      have g' : (ad == 0) = false := by simpa using g1
      go_enter Tryz.func27, Tryz.ntmps27
      go_wp2_with fail
      refine HF.out.mono ?_
      rintro e w2 ⟨rfl, hb2⟩
      have HB2 := Lib.hid hb2
      have c0 := (HI.out.on hb2).c0
      clear hb2
      go_wp2_with fail
      refine (HR.out _ HB2.out).mono ?_
      rintro e w3 ⟨rfl, rfl⟩
      go_wp2
      go_ret2
      exact ⟨by rw [HE.out]; rfl, HB2.out⟩
  · have HE : Hid (loadR W own size ls a pl = (0, wordE W own size ls a pl false)) := Lib.hid (by unfold loadR; rw [if_pos g])
    clear h
    generalize loadR W own size ls a pl = lr at *
    generalize wordE W own size ls a pl false = we at *
    generalize placeR W own size ls a pl false = pr at *
    have g' : (we == 0) = false := by simpa using g
    go_enter Tryz.func27, Tryz.ntmps27
    go_wp2_with fail
    refine HF.out.mono ?_
    rintro e w2 ⟨rfl, hb2⟩
    have HB2 := Lib.hid hb2
    clear hb2
    go_wp2
    go_ret2
    exact ⟨by rw [HE.out]; rfl, HB2.out⟩
set_option maxRecDepth 100000 in
set_option maxHeartbeats 1000000 in
theorem dsave_any (h : ImgD T base w D G Wg Og v W size own dl) (hW : Wds W) (a pl x : Int) (hl : ls = dl.map LayR.x) : Calls Tryz.prog 29 #[.pointer (some ⟨D, 0, none⟩), .int .i64 a, .int .i64 pl, .int .u64 x] w fun e w' => e = .returned (.int .i64 (saveR W own size ls a pl x).1) ∧ ImgD T base w' D G Wg Og v (saveR W own size ls a pl x).2 size own dl ∧ Mod (Two3 Wg Og) w w' := by
  have HF := Lib.hid (dword_any h hW a pl false hl)
  have HI := Lib.hid h
  by_cases g : wordE W own size ls a pl false = 0
  · have hp := placeR_in g
    have HE : Hid (saveR W own size ls a pl x = if adE W own size (a + 1 + pl) ≠ 0 then (adE W own size (a + 1 + pl), W) else (0, W.set (a + 1 + pl).toNat x)) := Lib.hid (by unfold saveR; rw [if_neg (by simpa using g)])
    rw [g, hp] at HF
    clear g hp h
    generalize a + 1 + pl = at' at *
    have HR : Hid (∀ Y, Below w.heap.size w Y → Calls Tryz.prog 34 #[.pointer (some ⟨G, 0, none⟩), .int .i64 at'] Y fun e w' => e = .returned (.int .i64 (adE W own size at')) ∧ Y = w') := Lib.hid (fun Y hY => rat_t (HI.out.on hY).rf at')
    by_cases g1 : adE W own size at' = 0
    · obtain ⟨m, ha, hm, -⟩ := adE_ok g1
      subst ha
      rw [g1] at HR
      rw [if_neg (by simpa using g1), Int.toNat_natCast] at HE
      clear g1
      have HC : Hid (∀ Y, Below w.heap.size w Y → Y.cell? ⟨Wg, m, none⟩ = some (.int .u64 (W.getD m 0))) := Lib.hid (fun Y hY => (HI.out.on hY).rf.word_cell m hm)
      generalize saveR W own size ls a pl x = lr at *
      generalize W.getD m 0 = wd at *
      go_enter Tryz.func29, Tryz.ntmps29
      go_wp2_with fail
      refine HF.out.mono ?_
      rintro e w2 ⟨rfl, hb2⟩
      have HB2 := Lib.hid hb2
      have c0 := (HI.out.on hb2).c0
      have r0 := (HI.out.on hb2).rf.c0
      have hw := HC.out _ hb2
      have ht := blk_thaw (HI.out.on hb2).rf.body m
      have hsw := (HI.out.on hb2).rf.setW m x
      have HFIN := Lib.hid (And.intro ((HI.out.on hb2).turn hsw.1 (hsw.2.mono fun _ _ e => .inl e)) ((Mod.of_below hb2).trans (hsw.2.mono (S' := Two3 Wg Og) fun _ _ e => .inl e)))
      clear hb2 hsw
      go_wp2_with fail
      refine (HR.out _ HB2.out).mono ?_
      rintro e w3 ⟨rfl, rfl⟩
      go_wp2
      go_ret
      refine ⟨by rw [HE.out]; rfl, ?_, HFIN.out.2⟩
      rw [HE.out]
      exact HFIN.out.1
    · rw [if_pos g1] at HE
      generalize saveR W own size ls a pl x = lr at *
      generalize adE W own size at' = ad at *
      have g' : (ad == 0) = false := by simpa using g1
      go_enter Tryz.func29, Tryz.ntmps29
      go_wp2_with fail
      refine HF.out.mono ?_
      rintro e w2 ⟨rfl, hb2⟩
      have HB2 := Lib.hid hb2
      have c0 := (HI.out.on hb2).c0
      clear hb2
      go_wp2_with fail
      refine (HR.out _ HB2.out).mono ?_
      rintro e w3 ⟨rfl, rfl⟩
      go_wp2
      go_ret
      refine ⟨by rw [HE.out]; rfl, ?_, Mod.of_below HB2.out⟩
      rw [HE.out]
      exact HI.out.on HB2.out
  · have HE : Hid (saveR W own size ls a pl x = (wordE W own size ls a pl false, W)) := Lib.hid (by unfold saveR; rw [if_pos g])
    clear h
    generalize saveR W own size ls a pl x = lr at *
    generalize wordE W own size ls a pl false = we at *
    generalize placeR W own size ls a pl false = pr at *
    have g' : (we == 0) = false := by simpa using g
    go_enter Tryz.func29, Tryz.ntmps29
    go_wp2_with fail
    refine HF.out.mono ?_
    rintro e w2 ⟨rfl, hb2⟩
    have HB2 := Lib.hid hb2
    clear hb2
    go_wp2
    go_ret
    refine ⟨by rw [HE.out]; rfl, ?_, Mod.of_below HB2.out⟩
    rw [HE.out]
    exact HI.out.on HB2.out
end Go.Proofs.YtfflacggaebonaaGreatDoor
end
section
namespace Go.Proofs.YtfflacggaebonaaGreatDoor
open Go.RowKit
set_option linter.unusedVariables false
set_option linter.unusedSimpArgs false
variable {w w' base : World} {D G Wg Og size : Nat} {W W' own own' : List Int} {T : Nat → Prop} {v : Value} {dl : List LayR} {ls : List Lay}
set_option maxRecDepth 100000 in
set_option maxHeartbeats 1000000 in
theorem dfollow_any (h : ImgD T base w D G Wg Og v W size own dl) (hW : Wds W) (a pl : Int) (hl : ls = dl.map LayR.x) : Calls Tryz.prog 11 #[.pointer (some ⟨D, 0, none⟩), .int .i64 a, .int .i64 pl] w fun e w' => e = .returned (.tuple #[.agg #[.int .i64 (followR W own size ls a pl).1, .int .i64 (followR W own size ls a pl).2.1, .int .i64 (followR W own size ls a pl).2.2.1], .int .i64 (followR W own size ls a pl).2.2.2]) ∧ Below w.heap.size w w' := by
  have hb1 := below1 w (.cells #[.int .i64 0, .int .i64 0, .int .i64 0] 37)
  have HL1 := Lib.hid (heap_alloc_new w (.cells #[.int .i64 0, .int .i64 0, .int .i64 0] 37))
  have HF := Lib.hid (dword_any (h.on hb1) hW a pl true hl)
  have HI := Lib.hid (h.on hb1)
  have HB1 := Lib.hid hb1
  clear hb1
  by_cases g : wordE W own size ls a pl true = 0
  · have hp := placeR_in g
    have HE : Hid (followR W own size ls a pl = if adE W own size (a + 1 + pl) ≠ 0 then (0, 0, 0, adE W own size (a + 1 + pl)) else linkI (W.getD (a + 1 + pl).toNat 0)) := Lib.hid (by unfold followR; rw [if_neg (by simpa using g)])
    rw [g, hp] at HF
    clear g hp h
    generalize a + 1 + pl = at' at *
    have HR : Hid (∀ Y, ImgD T base Y D G Wg Og v W size own dl → Calls Tryz.prog 34 #[.pointer (some ⟨G, 0, none⟩), .int .i64 at'] Y fun e w' => e = .returned (.int .i64 (adE W own size at')) ∧ Y = w') := Lib.hid (fun Y hY => rat_t hY.rf at')
    by_cases g1 : adE W own size at' = 0
    · obtain ⟨m, ha, hm, -⟩ := adE_ok g1
      subst ha
      rw [g1] at HR
      rw [if_neg (by simpa using g1), Int.toNat_natCast] at HE
      clear g1
      have HC : Hid (∀ Y, ImgD T base Y D G Wg Og v W size own dl → Y.cell? ⟨Wg, m, none⟩ = some (.int .u64 (W.getD m 0))) := Lib.hid (fun Y hY => hY.rf.word_cell m hm)
      obtain ⟨w0, w1⟩ := hW.get m
      have HK : Hid (∀ Y, Calls Tryz.prog 42 #[.int .u64 (W.getD m 0)] Y fun e w' => e = .returned (.tuple #[.agg #[.int .i64 (linkI (W.getD m 0)).1, .int .i64 (linkI (W.getD m 0)).2.1, .int .i64 (linkI (W.getD m 0)).2.2.1], .bool (linkOK (W.getD m 0))]) ∧ Below Y.heap.size Y w') := Lib.hid (fun Y => reflink_any (W.getD m 0) Y w0 w1)
      have HLP := Lib.hid (link_parts w0 w1)
      have HLO := Lib.hid (link_err (W.getD m 0))
      generalize followR W own size ls a pl = lr at *
      generalize linkI (W.getD m 0) = lk at *
      generalize linkOK (W.getD m 0) = lo at *
      generalize W.getD m 0 = wd at *
      obtain ⟨i1, i2, i3, i4⟩ := lk
      clear w0 w1
      go_enter Tryz.func11, Tryz.ntmps11
      go_wp2_with fail
      generalize w.alloc (.cells #[.int .i64 0, .int .i64 0, .int .i64 0] 37) = W1 at *
      refine HF.out.mono ?_
      rintro e w2 ⟨rfl, hb2⟩
      have HB2 := Lib.hid (HB1.out.on hb2)
      have hl2 := (hb2.block _ (block_lt HL1.out)).trans HL1.out
      have hI2 := HI.out.on hb2
      have c0 := hI2.c0
      have r0 := hI2.rf.c0
      have hw := HC.out _ hI2
      have HI2 := Lib.hid hI2
      clear hb2 hI2 HI HB1 HF
      go_wp2_with fail
      refine (HR.out _ HI2.out).mono ?_
      rintro e w3 ⟨rfl, rfl⟩
      go_wp2_with fail
      refine (HK.out _).mono ?_
      rintro e w4 ⟨rfl, hb4⟩
      have HB4 := Lib.hid (HB2.out.on hb4)
      have hl4 := (hb4.block _ (block_lt hl2)).trans hl2
      have hb5 := below1 w4 (.cells #[.int .i64 i1, .int .i64 i2, .int .i64 i3] 37)
      have hl5 := (hb5.block _ (block_lt hl4)).trans hl4
      have j0 := block_lt hl4
      have j1 : ¬ w4.heap.size = w.heap.size := by omega
      have j2 : ¬ w.heap.size = w4.heap.size := by omega
      have k0 := (blk_cells hl5 0).trans rfl; have t0 := blk_thaw hl5 0; have k1 := (blk_cells hl5 1).trans rfl; have t1 := blk_thaw hl5 1; have k2 := (blk_cells hl5 2).trans rfl; have t2 := blk_thaw hl5 2
      have k0 := (blk_cells hl4 0).trans rfl; have t0 := blk_thaw hl4 0; have k1 := (blk_cells hl4 1).trans rfl; have t1 := blk_thaw hl4 1; have k2 := (blk_cells hl4 2).trans rfl; have t2 := blk_thaw hl4 2
      clear hb4 hb5 hl4 hl5 hl2 HB2 HI2 c0 r0 hw HR HK HC
      rcases HLO.out with ⟨g5, g6⟩ | ⟨g5, g6⟩
      · have g6' : i4 = 0 := g6
        subst g5
        subst g6'
        clear HLP HLO g6
        go_wp2
        (try simp only [Exit.inBlock, Exit.then])
        refine bodyPost_ret (v := .tuple #[.agg #[.int .i64 i1, .int .i64 i2, .int .i64 i3], .int .i64 0]) ?_ rfl ⟨by rw [HE.out], ?_⟩
        · rw [results_cell_tmp rfl]
          go_simp
          (try rfl)
        · repeat (first | assumption | with_reducible refine below_drw ?_ | with_reducible refine below_alc ?_ | (with_reducible refine below_to ?_ ?_; · omega))
      · have g6' : i4 = 4 := g6
        subst g5
        subst g6'
        have hz : (i1, i2, i3, (4 : Int)) = (0, 0, 0, 4) := by
          rcases HLP.out with ⟨k, i, gg, e, _⟩ | e
          · have e' : (4 : Int) = 0 := congrArg (fun z => z.2.2.2) e
            cases e'
          · exact e
        obtain ⟨rfl, hz2⟩ := Prod.mk.inj hz
        obtain ⟨rfl, hz3⟩ := Prod.mk.inj hz2
        obtain ⟨rfl, -⟩ := Prod.mk.inj hz3
        clear HLP HLO g6 hz hz2 hz3
        go_wp2
        (try simp only [Exit.inBlock, Exit.then])
        refine bodyPost_ret (v := .tuple #[.agg #[.int .i64 0, .int .i64 0, .int .i64 0], .int .i64 4]) ?_ rfl ⟨by rw [HE.out], ?_⟩
        · rw [results_cell_tmp rfl]
          go_simp
          (try rfl)
        · repeat (first | assumption | with_reducible refine below_drw ?_ | with_reducible refine below_alc ?_ | (with_reducible refine below_to ?_ ?_; · omega))
    · rw [if_pos g1] at HE
      generalize followR W own size ls a pl = lr at *
      generalize adE W own size at' = ad at *
      have g' : (ad == 0) = false := by simpa using g1
      go_enter Tryz.func11, Tryz.ntmps11
      go_wp2_with fail
      generalize w.alloc (.cells #[.int .i64 0, .int .i64 0, .int .i64 0] 37) = W1 at *
      refine HF.out.mono ?_
      rintro e w2 ⟨rfl, hb2⟩
      have HB2 := Lib.hid (HB1.out.on hb2)
      have hl2 := (hb2.block _ (block_lt HL1.out)).trans HL1.out
      have hI2 := HI.out.on hb2
      have c0 := hI2.c0
      have HI2 := Lib.hid hI2
      have k0 := (blk_cells hl2 0).trans rfl; have t0 := blk_thaw hl2 0; have k1 := (blk_cells hl2 1).trans rfl; have t1 := blk_thaw hl2 1; have k2 := (blk_cells hl2 2).trans rfl; have t2 := blk_thaw hl2 2
      clear hb2 hI2 hl2
      go_wp2_with fail
      refine (HR.out _ HI2.out).mono ?_
      rintro e w3 ⟨rfl, rfl⟩
      go_wp2
      (try simp only [Exit.inBlock, Exit.then])
      refine bodyPost_ret (v := .tuple #[.agg #[.int .i64 0, .int .i64 0, .int .i64 0], .int .i64 ad]) ?_ rfl ⟨by rw [HE.out], ?_⟩
      · rw [results_cell_tmp rfl]
        go_simp
        (try rfl)
      · repeat (first | assumption | with_reducible refine below_drw ?_ | with_reducible refine below_alc ?_ | (with_reducible refine below_to ?_ ?_; · omega))
  · have HE : Hid (followR W own size ls a pl = (0, 0, 0, wordE W own size ls a pl true)) := Lib.hid (by unfold followR; rw [if_pos g])
    clear h
    generalize followR W own size ls a pl = lr at *
    generalize wordE W own size ls a pl true = we at *
    generalize placeR W own size ls a pl true = pr at *
    have g' : (we == 0) = false := by simpa using g
    go_enter Tryz.func11, Tryz.ntmps11
    go_wp2_with fail
    generalize w.alloc (.cells #[.int .i64 0, .int .i64 0, .int .i64 0] 37) = W1 at *
    refine HF.out.mono ?_
    rintro e w2 ⟨rfl, hb2⟩
    have HB2 := Lib.hid (HB1.out.on hb2)
    have hl2 := (hb2.block _ (block_lt HL1.out)).trans HL1.out
    have k0 := (blk_cells hl2 0).trans rfl; have t0 := blk_thaw hl2 0; have k1 := (blk_cells hl2 1).trans rfl; have t1 := blk_thaw hl2 1; have k2 := (blk_cells hl2 2).trans rfl; have t2 := blk_thaw hl2 2
    clear hb2 hl2
    go_wp2
    (try simp only [Exit.inBlock, Exit.then])
    refine bodyPost_ret (v := .tuple #[.agg #[.int .i64 0, .int .i64 0, .int .i64 0], .int .i64 we]) ?_ rfl ⟨by rw [HE.out], ?_⟩
    · rw [results_cell_tmp rfl]
      go_simp
      (try rfl)
    · repeat (first | assumption | with_reducible refine below_drw ?_ | with_reducible refine below_alc ?_ | (with_reducible refine below_to ?_ ?_; · omega))
set_option maxRecDepth 100000 in
set_option maxHeartbeats 1000000 in
theorem dmove_any (h : ImgD T base w D G Wg Og v W size own dl) (hW : Wds W) (t f n y : Int) (hl : ls = dl.map LayR.x) (hm : MoveR W own size ls t f n y W') : Calls Tryz.prog 33 #[.pointer (some ⟨D, 0, none⟩), .int .i64 t, .int .i64 f] w fun e w' => e = .returned (.tuple #[.int .i64 n, .int .i64 y]) ∧ ImgD T base w' D G Wg Og v W' size own dl ∧ Mod (Two3 Wg Og) w w' := by
  have HF := Lib.hid (dat_any h hW f)
  rw [← hl] at HF
  have HI := Lib.hid h
  clear h
  rcases hm with ⟨g, rfl, rfl, rfl⟩ | ⟨g, c, hc, rfl, hn⟩
  · rw [atR_none g] at HF
    generalize findE W' own size ls f = fe at *
    have g' : (fe == 0) = false := by simpa using g
    go_enter Tryz.func33, Tryz.ntmps33
    go_wp2_with fail
    refine HF.out.mono ?_
    rintro e w2 ⟨rfl, hb2⟩
    have hb3 := hb2.on (below1 w2 (.cells #[.int .i64 0, .int .i64 0, .int .i64 0] 32))
    have HI2 := Lib.hid (HI.out.on hb3)
    have HI20 := Lib.hid (HI.out.on hb2)
    have HB2 := Lib.hid hb3
    have HB20 := Lib.hid hb2
    clear hb2 hb3
    go_wp2
    go_ret2
    first
      | exact ⟨rfl, HI2.out, Mod.of_below HB2.out⟩
      | exact ⟨rfl, HI20.out, Mod.of_below HB20.out⟩
  · have HC := Lib.hid hc
    have HN := Lib.hid hn
    rw [g] at HF
    clear hc g hn
    generalize atR W own size ls f = r at *
    obtain ⟨r1, r2, r3, r4⟩ := r
    go_enter Tryz.func33, Tryz.ntmps33
    go_wp2_with fail
    refine HF.out.mono ?_
    rintro e w2 ⟨rfl, hb2⟩
    have hb3 := hb2.on (below1 w2 (.cells #[.int .i64 r1, .int .i64 r2, .int .i64 r3] 32))
    have HI2 := Lib.hid (HI.out.on hb3)
    have HI20 := Lib.hid (HI.out.on hb2)
    have HB2 := Lib.hid hb3
    have HB20 := Lib.hid hb2
    have c0 := (HI.out.on hb3).c0
    have c00 := (HI.out.on hb2).c0
    clear hb2 hb3
    go_wp2_with fail
    first
      | (refine (HC.out.2 _ _ _ _ HI2.out.rf).mono ?_
         rintro e w4 ⟨rfl, hs, hm⟩
         have HS := Lib.hid (And.intro (HI2.out.turn hs hm) ((Mod.of_below HB2.out).trans hm)))
      | (refine (HC.out.2 _ _ _ _ HI20.out.rf).mono ?_
         rintro e w4 ⟨rfl, hs, hm⟩
         have HS := Lib.hid (And.intro (HI20.out.turn hs hm) ((Mod.of_below HB20.out).trans hm)))
    clear hs hm
    by_cases g4 : y = 0
    · subst g4
      have hn : n = r4 := HN.out.trans (if_pos rfl)
      subst hn
      clear HN
      go_wp2
      go_ret2
      exact ⟨rfl, HS.out.1, HS.out.2⟩
    · have g' : (y == 0) = false := by simpa using g4
      have hn : n = 0 := HN.out.trans (if_neg g4)
      subst hn
      clear HN
      go_wp2
      go_ret2
      exact ⟨rfl, HS.out.1, HS.out.2⟩
end Go.Proofs.YtfflacggaebonaaGreatDoor
end
section
namespace Go.Proofs.YtfflacggaebonaaGreatDoor
open Go.RowKit
set_option linter.unusedVariables false
set_option linter.unusedSimpArgs false
variable {w w' base : World} {D G Wg Og size : Nat} {W W' own own' : List Int} {T : Nat → Prop} {v : Value} {dl : List LayR} {ls : List Lay}
set_option maxRecDepth 100000 in
set_option maxHeartbeats 1000000 in
theorem dtie_any (h : ImgD T base w D G Wg Og v W size own dl) (hW : Wds W) (a pl k i g : Int) (hl : ls = dl.map LayR.x) : Calls Tryz.prog 31 #[.pointer (some ⟨D, 0, none⟩), .int .i64 a, .int .i64 pl, .agg #[.int .i64 k, .int .i64 i, .int .i64 g]] w fun e w' => e = .returned (.int .i64 (tieR W own size ls a pl k i g).1) ∧ ImgD T base w' D G Wg Og v (tieR W own size ls a pl k i g).2 size own dl ∧ Mod (Two3 Wg Og) w w' := by
  have hb1 := below1 w (.cells #[.int .i64 k, .int .i64 i, .int .i64 g] 37)
  have HL1 := Lib.hid (heap_alloc_new w (.cells #[.int .i64 k, .int .i64 i, .int .i64 g] 37))
  have HF := Lib.hid (dword_any (h.on hb1) hW a pl true hl)
  have HI := Lib.hid (h.on hb1)
  have HB1 := Lib.hid hb1
  clear hb1
  have HMY : Hid (∀ Y, Calls Tryz.prog 61 #[.agg #[.int .i64 k, .int .i64 i, .int .i64 g]] Y fun e w' => e = .returned (.bool (mayLinkB k i g)) ∧ Below Y.heap.size Y w') := Lib.hid (fun Y => reflinkmay_any k i g Y)
  by_cases gw : wordE W own size ls a pl true = 0
  · have hp := placeR_in gw
    rw [gw, hp] at HF
    by_cases gm : mayLinkB k i g = true
    · have HE : Hid (tieR W own size ls a pl k i g = if adE W own size (a + 1 + pl) ≠ 0 then (adE W own size (a + 1 + pl), W) else (0, W.set (a + 1 + pl).toNat (refWordI k i g))) := Lib.hid (by unfold tieR; rw [if_neg (by simpa using gw), if_neg (by rw [gm]; decide)])
      have HWD : Hid (∀ Y, Calls Tryz.prog 62 #[.agg #[.int .i64 k, .int .i64 i, .int .i64 g]] Y fun e w' => e = .returned (.int .u64 (refWordI k i g)) ∧ Below Y.heap.size Y w') := Lib.hid (fun Y => refword_any k i g Y gm)
      rw [gm] at HMY
      clear gw hp h gm
      generalize refWordI k i g = x at *
      generalize a + 1 + pl = at' at *
      have HR : Hid (∀ Y, ImgD T base Y D G Wg Og v W size own dl → Calls Tryz.prog 34 #[.pointer (some ⟨G, 0, none⟩), .int .i64 at'] Y fun e w' => e = .returned (.int .i64 (adE W own size at')) ∧ Y = w') := Lib.hid (fun Y hY => rat_t hY.rf at')
      by_cases g1 : adE W own size at' = 0
      · obtain ⟨m, ha, hm, -⟩ := adE_ok g1
        subst ha
        rw [g1] at HR
        rw [if_neg (by simpa using g1), Int.toNat_natCast] at HE
        clear g1
        have HC : Hid (∀ Y, ImgD T base Y D G Wg Og v W size own dl → Y.cell? ⟨Wg, m, none⟩ = some (.int .u64 (W.getD m 0))) := Lib.hid (fun Y hY => hY.rf.word_cell m hm)
        generalize tieR W own size ls a pl k i g = lr at *
        generalize W.getD m 0 = wd at *
        go_enter Tryz.func31, Tryz.ntmps31
        go_wp2_with fail
        generalize w.alloc (.cells #[.int .i64 k, .int .i64 i, .int .i64 g] 37) = W1 at *
        refine HF.out.mono ?_
        rintro e w2 ⟨rfl, hb2⟩
        have HB2 := Lib.hid (HB1.out.on hb2)
        have hl2 := (hb2.block _ (block_lt HL1.out)).trans HL1.out
        have HI2 := Lib.hid (HI.out.on hb2)
        have k0 := (blk_cells hl2 0).trans rfl
        have k1 := (blk_cells hl2 1).trans rfl
        have k2 := (blk_cells hl2 2).trans rfl
        clear hb2 HI HB1 HF HL1
        go_wp2_with fail
        refine (HMY.out _).mono ?_
        rintro e w3 ⟨rfl, hb3⟩
        have HB3 := Lib.hid (HB2.out.on hb3)
        have hl3 := (hb3.block _ (block_lt hl2)).trans hl2
        have HI3 := Lib.hid (HI2.out.on hb3)
        have c0 := HI3.out.c0
        have r0 := HI3.out.rf.c0
        have q0 := (blk_cells hl3 0).trans rfl
        have q1 := (blk_cells hl3 1).trans rfl
        have q2 := (blk_cells hl3 2).trans rfl
        clear hb3 hl2 hl3 k0 k1 k2 HI2 HB2 HMY
        go_wp2_with fail
        refine (HR.out _ HI3.out).mono ?_
        rintro e w4 ⟨rfl, rfl⟩
        go_wp2_with fail
        go_region_law (go_simp; go_at_call 62; refine (HWD.out _).mono ?_; rintro e w5 ⟨rfl, hb5⟩; have hb6 := (below_drewN (Below.refl _ w3) 1).on hb5; have hI5 := HI3.out.on hb6; have hw := HC.out _ hI5; have ht := blk_thaw hI5.rf.body m; have c0 := hI5.c0; have r0 := hI5.rf.c0)
        all_goals
          have hsw := hI5.rf.setW m x
          have HFIN := Lib.hid (And.intro (hI5.turn hsw.1 (hsw.2.mono fun _ _ e => .inl e)) ((Mod.of_below (HB3.out.on hb6)).trans (hsw.2.mono (S' := Two3 Wg Og) fun _ _ e => .inl e)))
          clear hsw hI5 hb6 hb5
          go_wp2
          go_ret
          refine ⟨by rw [HE.out]; rfl, ?_, HFIN.out.2⟩
          rw [HE.out]
          exact HFIN.out.1
      · rw [if_pos g1] at HE
        generalize tieR W own size ls a pl k i g = lr at *
        generalize adE W own size at' = ad at *
        have g' : (ad == 0) = false := by simpa using g1
        go_enter Tryz.func31, Tryz.ntmps31
        go_wp2_with fail
        generalize w.alloc (.cells #[.int .i64 k, .int .i64 i, .int .i64 g] 37) = W1 at *
        refine HF.out.mono ?_
        rintro e w2 ⟨rfl, hb2⟩
        have HB2 := Lib.hid (HB1.out.on hb2)
        have hl2 := (hb2.block _ (block_lt HL1.out)).trans HL1.out
        have HI2 := Lib.hid (HI.out.on hb2)
        have k0 := (blk_cells hl2 0).trans rfl
        have k1 := (blk_cells hl2 1).trans rfl
        have k2 := (blk_cells hl2 2).trans rfl
        clear hb2 HI HB1 HF HL1
        go_wp2_with fail
        refine (HMY.out _).mono ?_
        rintro e w3 ⟨rfl, hb3⟩
        have HB3 := Lib.hid (HB2.out.on hb3)
        have HI3 := Lib.hid (HI2.out.on hb3)
        have c0 := HI3.out.c0
        clear hb3 hl2 k0 k1 k2 HI2 HB2 HMY
        go_wp2_with fail
        refine (HR.out _ HI3.out).mono ?_
        rintro e w4 ⟨rfl, rfl⟩
        go_wp2
        go_ret
        refine ⟨by rw [HE.out]; rfl, ?_, Mod.of_below HB3.out⟩
        rw [HE.out]
        exact HI3.out
    · have gm' : mayLinkB k i g = false := by simpa using gm
      have HE : Hid (tieR W own size ls a pl k i g = (2, W)) := Lib.hid (by unfold tieR; rw [if_neg (by simpa using gw), if_pos gm'])
      rw [gm'] at HMY
      clear gw hp h gm gm'
      generalize tieR W own size ls a pl k i g = lr at *
      generalize a + 1 + pl = at' at *
      go_enter Tryz.func31, Tryz.ntmps31
      go_wp2_with fail
      generalize w.alloc (.cells #[.int .i64 k, .int .i64 i, .int .i64 g] 37) = W1 at *
      refine HF.out.mono ?_
      rintro e w2 ⟨rfl, hb2⟩
      have HB2 := Lib.hid (HB1.out.on hb2)
      have hl2 := (hb2.block _ (block_lt HL1.out)).trans HL1.out
      have HI2 := Lib.hid (HI.out.on hb2)
      have k0 := (blk_cells hl2 0).trans rfl
      have k1 := (blk_cells hl2 1).trans rfl
      have k2 := (blk_cells hl2 2).trans rfl
      clear hb2 HI HB1 HF HL1
      go_wp2_with fail
      refine (HMY.out _).mono ?_
      rintro e w3 ⟨rfl, hb3⟩
      have HB3 := Lib.hid (HB2.out.on hb3)
      have HI3 := Lib.hid (HI2.out.on hb3)
      clear hb3
      go_wp2
      go_ret
      refine ⟨by rw [HE.out]; rfl, ?_, Mod.of_below HB3.out⟩
      rw [HE.out]
      exact HI3.out
  · have HE : Hid (tieR W own size ls a pl k i g = (wordE W own size ls a pl true, W)) := Lib.hid (by unfold tieR; rw [if_pos gw])
    clear h
    generalize tieR W own size ls a pl k i g = lr at *
    generalize wordE W own size ls a pl true = we at *
    generalize placeR W own size ls a pl true = pr at *
    have g' : (we == 0) = false := by simpa using gw
    go_enter Tryz.func31, Tryz.ntmps31
    go_wp2_with fail
    generalize w.alloc (.cells #[.int .i64 k, .int .i64 i, .int .i64 g] 37) = W1 at *
    refine HF.out.mono ?_
    rintro e w2 ⟨rfl, hb2⟩
    have HB2 := Lib.hid (HB1.out.on hb2)
    have HI2 := Lib.hid (HI.out.on hb2)
    clear hb2
    go_wp2
    go_ret
    refine ⟨by rw [HE.out]; rfl, ?_, Mod.of_below HB2.out⟩
    rw [HE.out]
    exact HI2.out
end Go.Proofs.YtfflacggaebonaaGreatDoor
end
section
namespace Go.Proofs.YtfflacggaebonaaGreatDoor
open Go.RowKit
set_option linter.unusedVariables false
set_option linter.unusedSimpArgs false
variable {w w' base : World} {D G Wg Og size : Nat} {W W' own own' : List Int} {T : Nat → Prop} {v : Value} {dl : List LayR} {ls : List Lay}
theorem okW_snoc {a j : Nat} : okW own size a (j + 1) = (okW own size a j && decide (own.getD ((a + j) / size) 0 ≠ 0)) := by unfold okW; rw [List.range_succ, List.all_append]; simp
theorem okW_less {a j n : Nat} (h : okW own size a n = true) (hj : j ≤ n) : okW own size a j = true := okW_iff.2 fun i hi => okW_iff.1 h i (by omega)
theorem zeroW_len' {a n : Nat} (h : a + n ≤ W.length) : (zeroW W a n).length = W.length := zeroW_length _ _ _ h
theorem adE_at {a j : Nat} (h : a + j < W.length) : adE W own size ((a : Int) + j) = chE own ((a + j) / size) := by
  unfold adE
  rw [if_neg (by omega), show ((a : Int) + j).toNat = a + j by omega]
set_option maxRecDepth 100000 in
set_option maxHeartbeats 2000000 in
theorem dmake_any (h : ImgD T base w D G Wg Og v W size own dl) (a l c s : Int) (hl : ls = dl.map LayR.x) : Calls Tryz.prog 26 #[.pointer (some ⟨D, 0, none⟩), .int .i64 a, .agg #[.int .i64 l, .int .i64 c, .int .i64 s]] w fun e w' => e = .returned (.tuple #[.int .i64 (makeR W own size ls a l c s).1.1, .int .i64 (makeR W own size ls a l c s).1.2]) ∧ ImgD T base w' D G Wg Og v (makeR W own size ls a l c s).2 size own dl ∧ Mod (Two3 Wg Og) w w' := by
  have hb1 := below1 w (.cells #[.int .i64 l, .int .i64 c, .int .i64 s] 32)
  have hl1 := heap_alloc_new w (.cells #[.int .i64 l, .int .i64 c, .int .i64 s] 32)
  have HI := Lib.hid (h.on hb1)
  have HB1 := Lib.hid hb1
  have HL1 := Lib.hid hl1
  have k0 := (blk_cells hl1 0).trans rfl
  have k1 := (blk_cells hl1 1).trans rfl
  have k2 := (blk_cells hl1 2).trans rfl
  have hwl := h.rf.wlen
  have HMY : Hid (∀ Y, Calls Tryz.prog 57 #[.agg #[.int .i64 l, .int .i64 c, .int .i64 s]] Y fun e w' => e = .returned (.bool (mayB l c s)) ∧ Below Y.heap.size Y w') := Lib.hid (fun Y => refmay_any l c s Y)
  clear hb1 hl1 h
  by_cases gm : mayB l c s = true
  · have hlb := mayB_iff.1 gm
    have HZ : Hid (∀ Y, ImgD T base Y D G Wg Og v W size own dl → Calls Tryz.prog 38 #[.pointer (some ⟨D, 0, none⟩), .agg #[.int .i64 l, .int .i64 c, .int .i64 s]] Y fun e w' => e = .returned (.tuple #[.int .i64 (dszN ls l c), .int .i64 (szI ls l c).2]) ∧ Below Y.heap.size Y w') := Lib.hid (fun Y hY => by rw [hl]; exact dsize_any hY l c s hlb.1 hlb.2.1)
    have HEN : Hid (∀ Y, Calls Tryz.prog 58 #[.agg #[.int .i64 l, .int .i64 c, .int .i64 s]] Y fun e w' => e = .returned (.int .u64 (encH l c s)) ∧ Below Y.heap.size Y w') := Lib.hid (fun Y => refenc_any l c s Y gm)
    rw [gm] at HMY
    by_cases gs : (szI ls l c).2 = 0
    · obtain ⟨q1, q2, q3⟩ := szI_ok gs
      obtain ⟨q4, q5, q6, q7, q8, q9⟩ := Lay.size_ok q2
      obtain ⟨r1, r2, r3, r4, r5, r6, r7⟩ := Lay.right_out q4
      have hn0 : 0 ≤ (szI ls l c).1 := by
        rw [q3, q8]
        have : 0 ≤ c * (layI ls l).record := Int.mul_nonneg q5 r3
        omega
      have hn1 : (szI ls l c).1 < 8192 := by rw [q3]; exact q9
      obtain ⟨n, hn⟩ : ∃ n : Nat, (szI ls l c).1 = n := ⟨(szI ls l c).1.toNat, by omega⟩
      have hdz : dszN ls l c = (n : Int) + 1 := by unfold dszN; rw [if_pos gs, hn]
      rw [hdz, gs] at HZ
      rw [hn] at hn1
      by_cases gi : inW W.length a (n + 1)
      · obtain ⟨j1, j2, j3, j4⟩ := id gi
        obtain ⟨m, rfl⟩ : ∃ m : Nat, a = m := ⟨a.toNat, by omega⟩
        have d1 : decide ((m : Int) < 0) = false := decide_eq_false (by omega)
        have d2 : decide ((W.length : Int) < (m : Int)) = false := decide_eq_false (by omega)
        have d2' : decide (W.length < m) = false := decide_eq_false (by omega)
        have d3 : decide ((W.length : Int) - (m : Int) < (n : Int) + 1) = false := decide_eq_false (by omega)
        have wl : IntKind.i64.wrap ((W.length : Int) - m) = W.length - m := by rw [IntKind.wrap_i64]; omega
        have HE : Hid (makeR W own size ls m l c s = if okW own size m (n + 1) = false then ((0, 17), W) else (((n : Int) + 1, 0), (zeroW W m (n + 1)).set m (encH l c s))) := Lib.hid (by
          unfold makeR
          rw [if_neg (by rw [gm]; decide), if_neg (by rw [gs]; decide), hn, if_neg (fun g => g gi), Int.toNat_natCast, show ((n : Int) + 1).toNat = n + 1 by omega])
        have hmn : m + (n + 1) ≤ W.length := by omega
        clear q1 q2 q3 q4 q5 q6 q7 q8 q9 r1 r2 r3 r4 r5 r6 r7 hn0 hdz gs gi j1 j2 j3 j4 gm hlb hn hl
        generalize makeR W own size ls m l c s = mr at *
        generalize encH l c s = en at *
        go_enter Tryz.func26, Tryz.ntmps26
        go_wp2_with fail
        generalize w.alloc (.cells #[.int .i64 l, .int .i64 c, .int .i64 s] 32) = W1 at *
        refine (HMY.out _).mono ?_
        rintro e w2 ⟨rfl, hb2⟩
        have hl2 := (hb2.block _ (block_lt HL1.out)).trans HL1.out
        have HI2 := Lib.hid (HI.out.on hb2)
        have HB2 := Lib.hid (HB1.out.on hb2)
        clear k0 k1 k2
        have k0 := (blk_cells hl2 0).trans rfl
        have k1 := (blk_cells hl2 1).trans rfl
        have k2 := (blk_cells hl2 2).trans rfl
        clear hb2
        go_wp2_with fail
        refine (HZ.out _ HI2.out).mono ?_
        rintro e w3 ⟨rfl, hb3⟩
        have hl3 := (hb3.block _ (block_lt hl2)).trans hl2
        have HI3 := Lib.hid (HI2.out.on hb3)
        have HB3 := Lib.hid (HB2.out.on hb3)
        have c0 := HI3.out.c0
        have r0 := HI3.out.rf.c0
        clear hb3 hl2 HI2 HB2 HI HB1 HZ HMY k0 k1 k2
        go_wp2_with fail
        go_loopw [11] (fun v11 wr => ∃ j : Nat, j ≤ n + 1 ∧ v11 = .int .i64 j ∧ wr = w3 ∧ Hid (okW own size m j = true)) (fun v11 _ => n + 1 - (intOf v11).toNat)
        case atStart => exact ⟨0, by omega, rfl, rfl, Lib.hid rfl⟩
        case round =>
        obtain ⟨j, hj, rfl, rfl, HO⟩ := hrel
        by_cases hlt : j < n + 1
        · have HAJ := Lib.hid (rat_t HI3.out.rf ((m : Int) + j))
          rw [adE_at (by omega)] at HAJ
          have wj : IntKind.i64.wrap ((m : Int) + j) = m + j := by rw [IntKind.wrap_i64]; omega
          by_cases g0 : own.getD ((m + j) / size) 0 = 0
          · have hc1 : chE own ((m + j) / size) = 17 := if_pos g0
            rw [hc1] at HAJ
            have HBAD : Hid (okW own size m (n + 1) = false) := Lib.hid (by
              cases hk : okW own size m (n + 1) with
              | false => rfl
              | true => exact absurd g0 (okW_iff.1 hk j hlt))
            clear g0 hc1
            go_wp2_with fail
            refine HAJ.out.mono ?_
            rintro e w5 ⟨rfl, rfl⟩
            go_wp2
            go_ret2
            refine ⟨by rw [HE.out, if_pos HBAD.out]; rfl, ?_, Mod.of_below HB3.out⟩
            rw [HE.out, if_pos HBAD.out]
            exact HI3.out
          · have hc1 : chE own ((m + j) / size) = 0 := if_neg g0
            rw [hc1] at HAJ
            have HO2 : Hid (okW own size m (j + 1) = true) := Lib.hid (by rw [okW_snoc, HO.out, decide_eq_true g0]; rfl)
            clear g0 hc1
            go_wp2_with fail
            refine HAJ.out.mono ?_
            rintro e w5 ⟨rfl, rfl⟩
            go_wp2
            go_roundw
            case rel => exact ⟨j + 1, by omega, by go_num, trivial, HO2⟩
            case measure => simp [intOf]; omega
        · have hjn : j = n + 1 := by omega
          have HOK : Hid (okW own size m (n + 1) = true) := Lib.hid (hjn ▸ HO.out)
          clear HO hjn
          have HZ0 : Hid (ImgD T base wr D G Wg Og v (zeroW W m 0) size own dl ∧ Mod (Two3 Wg Og) w wr ∧ wr.heap[w.heap.size]? = some (.cells #[.int .i64 l, .int .i64 c, .int .i64 s] 32 (0, 0))) := Lib.hid ⟨by rw [zeroW_zero]; exact HI3.out, Mod.of_below HB3.out, hl3⟩
          have HW : Hid (Wg ≠ w.heap.size) := Lib.hid (ty_ne HI3.out.rf.body hl3 (by decide))
          clear c0 r0 hl3 HI3 HB3
          go_wp2_with fail
          go_loopw [13] (fun v13 wr => ∃ j : Nat, j ≤ n + 1 ∧ v13 = .int .i64 j ∧ Hid (ImgD T base wr D G Wg Og v (zeroW W m j) size own dl ∧ Mod (Two3 Wg Og) w wr ∧ wr.heap[w.heap.size]? = some (.cells #[.int .i64 l, .int .i64 c, .int .i64 s] 32 (0, 0)))) (fun v13 _ => n + 1 - (intOf v13).toNat)
          case atStart => exact ⟨0, by omega, rfl, HZ0⟩
          case round =>
          obtain ⟨j2, hj2, rfl, HJ⟩ := hrel
          clear HZ0
          have hzl : (zeroW W m j2).length = W.length := zeroW_len' (by omega)
          by_cases hlt2 : j2 < n + 1
          · have wj : IntKind.i64.wrap ((m : Int) + j2) = m + j2 := by rw [IntKind.wrap_i64]; omega
            have c0 := HJ.out.1.c0
            have r0 := HJ.out.1.rf.c0
            rw [hzl] at r0
            have hw := HJ.out.1.rf.word_cell (m + j2) (by rw [hzl]; omega)
            have ht := blk_thaw HJ.out.1.rf.body (m + j2)
            have hsw := HJ.out.1.rf.setW (m + j2) 0
            rw [zeroW_step (by omega)] at hsw
            have HJ2 : Hid (ImgD T base (wr.setCell ⟨Wg, m + j2, none⟩ (.int .u64 0)) D G Wg Og v (zeroW W m (j2 + 1)) size own dl ∧ Mod (Two3 Wg Og) w (wr.setCell ⟨Wg, m + j2, none⟩ (.int .u64 0)) ∧ (wr.setCell ⟨Wg, m + j2, none⟩ (.int .u64 0)).heap[w.heap.size]? = some (.cells #[.int .i64 l, .int .i64 c, .int .i64 s] 32 (0, 0))) := Lib.hid ⟨HJ.out.1.turn hsw.1 (hsw.2.mono fun _ _ e => .inl e), HJ.out.2.1.trans (hsw.2.mono fun _ _ e => .inl e), blk_far HJ.out.2.2 _ _ (fun e => HW.out e.symm)⟩
            generalize (zeroW W m j2).getD (m + j2) 0 = wz at *
            clear hsw hzl
            go_wp2
            go_roundw
            case rel => exact ⟨j2 + 1, by omega, by go_num, HJ2⟩
            case measure => simp [intOf]; omega
          · have hjn : j2 = n + 1 := by omega
            have HJN : Hid (ImgD T base wr D G Wg Og v (zeroW W m (n + 1)) size own dl ∧ Mod (Two3 Wg Og) w wr ∧ wr.heap[w.heap.size]? = some (.cells #[.int .i64 l, .int .i64 c, .int .i64 s] 32 (0, 0))) := Lib.hid (hjn ▸ HJ.out)
            have hzl2 : (zeroW W m (n + 1)).length = W.length := zeroW_len' (by omega)
            clear hzl hjn HJ
            have hD := HJN.out.1
            have hhd := HJN.out.2.2
            generalize hZW : zeroW W m (n + 1) = ZW at *
            clear hZW
            have c0 := hD.c0
            have r0 := hD.rf.c0
            rw [hzl2] at r0
            have k0 := (blk_cells hhd 0).trans rfl
            have k1 := (blk_cells hhd 1).trans rfl
            have k2 := (blk_cells hhd 2).trans rfl
            clear hD hhd
            go_wp2_with fail
            have hmw : m < W.length := by omega
            have hmw2 : (m : Int) < (W.length : Int) := by omega
            have hmw3 : (0 : Int) ≤ (m : Int) := by omega
            go_region_law (go_simp; go_at_call 58; refine (HEN.out _).mono ?_; rintro e w5 ⟨rfl, hb5⟩; have hb6 := (below_drewN (Below.refl _ wr) 1).on hb5; have hI5 := HJN.out.1.on hb6; have hw := hI5.rf.word_cell m (by rw [hzl2]; omega); have ht := blk_thaw hI5.rf.body m; have c0 := hI5.c0; have r0 := hI5.rf.c0; rw [hzl2] at r0)
            all_goals
              have hsw := hI5.rf.setW m en
              have HFIN := Lib.hid (And.intro (hI5.turn hsw.1 (hsw.2.mono fun _ _ e => .inl e)) ((HJN.out.2.1.trans (Mod.of_below hb6)).trans (hsw.2.mono (S' := Two3 Wg Og) fun _ _ e => .inl e)))
              clear hsw hI5 hb6 hb5
              go_wp2
              go_ret2
              refine ⟨by rw [HE.out, if_neg (by rw [HOK.out]; decide)]; rfl, ?_, HFIN.out.2⟩
              rw [HE.out, if_neg (by rw [HOK.out]; decide)]
              exact HFIN.out.1
      · have HE : Hid (makeR W own size ls a l c s = ((0, 3), W)) := Lib.hid (by
          unfold makeR
          rw [if_neg (by rw [gm]; decide), if_neg (by rw [gs]; decide), hn, if_pos gi])
        have gi' : a < 0 ∨ (0 ≤ a ∧ (W.length : Int) < a) ∨ (0 ≤ a ∧ a ≤ W.length ∧ (W.length : Int) - a < (n : Int) + 1) := by unfold inW at gi; omega
        clear q1 q2 q3 q4 q5 q6 q7 q8 q9 r1 r2 r3 r4 r5 r6 r7 hn0 hdz gs gi gm hlb hn hl HEN
        generalize makeR W own size ls a l c s = mr at *
        rcases gi' with g1 | ⟨g0, g1⟩ | ⟨g0, g2, g1⟩
        · have d1 : decide (a < 0) = true := decide_eq_true g1
          go_enter Tryz.func26, Tryz.ntmps26
          go_wp2_with fail
          generalize w.alloc (.cells #[.int .i64 l, .int .i64 c, .int .i64 s] 32) = W1 at *
          refine (HMY.out _).mono ?_
          rintro e w2 ⟨rfl, hb2⟩
          have hl2 := (hb2.block _ (block_lt HL1.out)).trans HL1.out
          have HI2 := Lib.hid (HI.out.on hb2)
          have HB2 := Lib.hid (HB1.out.on hb2)
          clear k0 k1 k2
          have k0 := (blk_cells hl2 0).trans rfl
          have k1 := (blk_cells hl2 1).trans rfl
          have k2 := (blk_cells hl2 2).trans rfl
          clear hb2
          go_wp2_with fail
          refine (HZ.out _ HI2.out).mono ?_
          rintro e w3 ⟨rfl, hb3⟩
          have hl3 := (hb3.block _ (block_lt hl2)).trans hl2
          have HI3 := Lib.hid (HI2.out.on hb3)
          have HB3 := Lib.hid (HB2.out.on hb3)
          have c0 := HI3.out.c0
          have r0 := HI3.out.rf.c0
          clear hb3 hl2 HI2 HB2 HI HB1 HZ HMY k0 k1 k2
          clear hl3
          go_wp2
          go_ret2
          refine ⟨by rw [HE.out]; rfl, ?_, Mod.of_below HB3.out⟩
          rw [HE.out]
          exact HI3.out
        · have d1 : decide (a < 0) = false := decide_eq_false (by omega)
          have d2 : decide ((W.length : Int) < a) = true := decide_eq_true g1
          go_enter Tryz.func26, Tryz.ntmps26
          go_wp2_with fail
          generalize w.alloc (.cells #[.int .i64 l, .int .i64 c, .int .i64 s] 32) = W1 at *
          refine (HMY.out _).mono ?_
          rintro e w2 ⟨rfl, hb2⟩
          have hl2 := (hb2.block _ (block_lt HL1.out)).trans HL1.out
          have HI2 := Lib.hid (HI.out.on hb2)
          have HB2 := Lib.hid (HB1.out.on hb2)
          clear k0 k1 k2
          have k0 := (blk_cells hl2 0).trans rfl
          have k1 := (blk_cells hl2 1).trans rfl
          have k2 := (blk_cells hl2 2).trans rfl
          clear hb2
          go_wp2_with fail
          refine (HZ.out _ HI2.out).mono ?_
          rintro e w3 ⟨rfl, hb3⟩
          have hl3 := (hb3.block _ (block_lt hl2)).trans hl2
          have HI3 := Lib.hid (HI2.out.on hb3)
          have HB3 := Lib.hid (HB2.out.on hb3)
          have c0 := HI3.out.c0
          have r0 := HI3.out.rf.c0
          clear hb3 hl2 HI2 HB2 HI HB1 HZ HMY k0 k1 k2
          clear hl3
          go_wp2
          go_ret2
          refine ⟨by rw [HE.out]; rfl, ?_, Mod.of_below HB3.out⟩
          rw [HE.out]
          exact HI3.out
        · have d1 : decide (a < 0) = false := decide_eq_false (by omega)
          have d2 : decide ((W.length : Int) < a) = false := decide_eq_false (by omega)
          have wl : IntKind.i64.wrap ((W.length : Int) - a) = W.length - a := by rw [IntKind.wrap_i64]; omega
          have d3 : decide ((W.length : Int) - a < (n : Int) + 1) = true := decide_eq_true g1
          go_enter Tryz.func26, Tryz.ntmps26
          go_wp2_with fail
          generalize w.alloc (.cells #[.int .i64 l, .int .i64 c, .int .i64 s] 32) = W1 at *
          refine (HMY.out _).mono ?_
          rintro e w2 ⟨rfl, hb2⟩
          have hl2 := (hb2.block _ (block_lt HL1.out)).trans HL1.out
          have HI2 := Lib.hid (HI.out.on hb2)
          have HB2 := Lib.hid (HB1.out.on hb2)
          clear k0 k1 k2
          have k0 := (blk_cells hl2 0).trans rfl
          have k1 := (blk_cells hl2 1).trans rfl
          have k2 := (blk_cells hl2 2).trans rfl
          clear hb2
          go_wp2_with fail
          refine (HZ.out _ HI2.out).mono ?_
          rintro e w3 ⟨rfl, hb3⟩
          have hl3 := (hb3.block _ (block_lt hl2)).trans hl2
          have HI3 := Lib.hid (HI2.out.on hb3)
          have HB3 := Lib.hid (HB2.out.on hb3)
          have c0 := HI3.out.c0
          have r0 := HI3.out.rf.c0
          clear hb3 hl2 HI2 HB2 HI HB1 HZ HMY k0 k1 k2
          clear hl3
          go_wp2
          go_ret2
          refine ⟨by rw [HE.out]; rfl, ?_, Mod.of_below HB3.out⟩
          rw [HE.out]
          exact HI3.out
    · have HE : Hid (makeR W own size ls a l c s = ((0, (szI ls l c).2), W)) := Lib.hid (by unfold makeR; rw [if_neg (by simpa using gm), if_pos gs])
      generalize makeR W own size ls a l c s = mr at *
      generalize dszN ls l c = dz at *
      generalize (szI ls l c).2 = es at *
      have g' : (es == 0) = false := by simpa using gs
      clear gm hlb
      go_enter Tryz.func26, Tryz.ntmps26
      go_wp2_with fail
      generalize w.alloc (.cells #[.int .i64 l, .int .i64 c, .int .i64 s] 32) = W1 at *
      refine (HMY.out _).mono ?_
      rintro e w2 ⟨rfl, hb2⟩
      have hl2 := (hb2.block _ (block_lt HL1.out)).trans HL1.out
      have HI2 := Lib.hid (HI.out.on hb2)
      have HB2 := Lib.hid (HB1.out.on hb2)
      clear k0 k1 k2
      have k0 := (blk_cells hl2 0).trans rfl
      have k1 := (blk_cells hl2 1).trans rfl
      have k2 := (blk_cells hl2 2).trans rfl
      clear hb2 hl2
      go_wp2_with fail
      refine (HZ.out _ HI2.out).mono ?_
      rintro e w3 ⟨rfl, hb3⟩
      have HI3 := Lib.hid (HI2.out.on hb3)
      have HB3 := Lib.hid (HB2.out.on hb3)
      clear hb3 HI2 HB2 HI HB1 HZ HMY k0 k1 k2
      go_wp2
      go_ret2
      refine ⟨by rw [HE.out]; rfl, ?_, Mod.of_below HB3.out⟩
      rw [HE.out]
      exact HI3.out
  · have gm' : mayB l c s = false := by simpa using gm
    have HE : Hid (makeR W own size ls a l c s = ((0, 3), W)) := Lib.hid (by unfold makeR; rw [if_pos gm'])
    rw [gm'] at HMY
    generalize makeR W own size ls a l c s = mr at *
    clear gm gm'
    go_enter Tryz.func26, Tryz.ntmps26
    go_wp2_with fail
    generalize w.alloc (.cells #[.int .i64 l, .int .i64 c, .int .i64 s] 32) = W1 at *
    refine (HMY.out _).mono ?_
    rintro e w2 ⟨rfl, hb2⟩
    have HI2 := Lib.hid (HI.out.on hb2)
    have HB2 := Lib.hid (HB1.out.on hb2)
    clear hb2
    go_wp2
    go_ret2
    refine ⟨by rw [HE.out]; rfl, ?_, Mod.of_below HB2.out⟩
    rw [HE.out]
    exact HI2.out
end Go.Proofs.YtfflacggaebonaaGreatDoor
end
section
namespace Go.Proofs.YtfflacggaebonaaGreatDoor
open Go.RowKit
set_option linter.unusedVariables false
set_option linter.unusedSimpArgs false
variable {w w' w2 base : World} {M B Wb Ob p q P D G Wg Og : Nat} {u : Value} {W W' : List Int} {dl : List LayR}
theorem ImgJ.on (h : ImgJ base w M B Wb Ob p q P D G Wg Og u W dl) (hb : Below w.heap.size w w') : ImgJ base w' M B Wb Ob p q P D G Wg Og u W dl := ⟨h.ip.on hb, h.im.on hb, h.far⟩
/-- The document's images behind the program's call. -/
theorem ImgJ.half (h : ImgJ base w M B Wb Ob p q P D G Wg Og u W dl) (hm : Mod (Four3 Wb Ob p q) w w') : ImgD (Six Wb Ob p q Wg Og) base w' D G Wg Og u W 8 (onesO 5) dl :=
  { h.im with head := hm.keeps h.im.head (fun e => h.im.hD (h.ip.hT _ e)), rf := h.im.rf.mod hm (fun e => (h.far _ (.inr e)).1 rfl) (fun e => (h.far _ (.inr e)).2.1 rfl) (fun e => (h.far _ (.inr e)).2.2 rfl), row := own_mod h.im.row hm (fun k e g => h.im.hv k e (h.ip.hT _ g)), below := hm.below h.im.below (fun k e => h.im.hB k (h.ip.hT _ e)) h.im.below.size }
/-- Both calls behind. -/
theorem ImgJ.done (h : ImgJ base w M B Wb Ob p q P D G Wg Og u W dl) (hi : ImgP (Six Wb Ob p q Wg Og) w' M B Wb Ob p q P W' 8 (onesO 5) (dl.map LayR.x)) (hd : ImgD (Six Wb Ob p q Wg Og) base w2 D G Wg Og u W' 8 (onesO 5) dl) (hm : Mod (Two3 Wg Og) w' w2) : ImgJ base w2 M B Wb Ob p q P D G Wg Og u W' dl :=
  ⟨{ hi with head := hm.keeps hi.head (fun e => hi.hM (h.im.hT _ e)), st := hi.st.mod hm (fun k hk e => by rcases e with e | e; exact (h.far k hk).2.1 e; exact (h.far k hk).2.2 e), bk := hi.bk.mod (hm.mono fun _ _ e => h.im.hT _ e) }, hd, h.far⟩
end Go.Proofs.YtfflacggaebonaaGreatDoor
end
section
namespace Go.Proofs.YtfflacggaebonaaGreatDoor
open Go.RowKit
set_option linter.unusedVariables false
set_option linter.unusedSimpArgs false
variable {w w' base : World} {M B Wb Ob p q P D G Wg Og : Nat} {u : Value} {W W' : List Int} {dl : List LayR}
/-- What an act leaves: both told the same, and both have the same words. -/
def DoP (base w : World) (M B Wb Ob p q P D G Wg Og : Nat) (u : Value) (dl : List LayR) (e : Ending) (w' : World) : Prop := e = .returned (.bool true) ∧ Mod (Six Wb Ob p q Wg Og) w w' ∧ ∃ W', ImgJ base w' M B Wb Ob p q P D G Wg Og u W' dl ∧ Wds W' ∧ W'.length = 48
set_option maxRecDepth 100000 in
set_option maxHeartbeats 1000000 in
theorem do_load (h : ImgJ base w M B Wb Ob p q P D G Wg Og u W dl) (hw : Wds W) (hl : W.length = 48) (aa ap ahl ahc ahs ax alk ali alg : Int) (bs : Option Addr) : Calls Tryz.prog 7 #[.agg #[.int .i64 1, .int .i64 aa, .int .i64 ap, .int .i64 ahl, .int .i64 ahc, .int .i64 ahs, .int .u64 ax, .int .i64 alk, .int .i64 ali, .int .i64 alg], .pointer bs, .pointer (some ⟨M, 0, none⟩), .pointer (some ⟨D, 0, none⟩)] w (DoP base w M B Wb Ob p q P D G Wg Og u dl) := by
  have hb1 := below1 w (.cells #[.int .i64 1, .int .i64 aa, .int .i64 ap, .int .i64 ahl, .int .i64 ahc, .int .i64 ahs, .int .u64 ax, .int .i64 alk, .int .i64 ali, .int .i64 alg] 39)
  have hl1 := heap_alloc_new w (.cells #[.int .i64 1, .int .i64 aa, .int .i64 ap, .int .i64 ahl, .int .i64 ahc, .int .i64 ahs, .int .u64 ax, .int .i64 alk, .int .i64 ali, .int .i64 alg] 39)
  have HJ := Lib.hid (h.on hb1)
  have HB1 := Lib.hid hb1
  have HC := Lib.hid (load_any HJ.out.ip hw aa ap)
  have HD : Hid (∀ Y, ImgJ base Y M B Wb Ob p q P D G Wg Og u W dl → Calls Tryz.prog 27 #[.pointer (some ⟨D, 0, none⟩), .int .i64 aa, .int .i64 ap] Y fun e w' => e = .returned (.tuple #[.int .u64 (loadR W (onesO 5) 8 (dl.map LayR.x) aa ap).1, .int .i64 (loadR W (onesO 5) 8 (dl.map LayR.x) aa ap).2]) ∧ Below Y.heap.size Y w') := Lib.hid (fun Y hY => dload_any (ls := dl.map LayR.x) hY.im hw aa ap rfl)
  generalize loadR W (onesO 5) 8 (dl.map LayR.x) aa ap = lr at *
  obtain ⟨x1, x2⟩ := lr
  have k0 := (blk_cells hl1 0).trans rfl
  have k1 := (blk_cells hl1 1).trans rfl
  have k2 := (blk_cells hl1 2).trans rfl
  have k3 := (blk_cells hl1 3).trans rfl
  have k4 := (blk_cells hl1 4).trans rfl
  have k5 := (blk_cells hl1 5).trans rfl
  have k6 := (blk_cells hl1 6).trans rfl
  have k7 := (blk_cells hl1 7).trans rfl
  have k8 := (blk_cells hl1 8).trans rfl
  have k9 := (blk_cells hl1 9).trans rfl
  clear hb1 h
  go_enter Tryz.func7, Tryz.ntmps7
  go_wp2_with fail
  generalize w.alloc (.cells #[.int .i64 1, .int .i64 aa, .int .i64 ap, .int .i64 ahl, .int .i64 ahc, .int .i64 ahs, .int .u64 ax, .int .i64 alk, .int .i64 ali, .int .i64 alg] 39) = W1 at *
  refine HC.out.mono ?_
  rintro e w2 ⟨rfl, hb2⟩
  have HJ2 := Lib.hid (HJ.out.on hb2)
  have HB2 := Lib.hid (HB1.out.on hb2)
  have hl2 := (hb2.block _ (block_lt hl1)).trans hl1
  clear hb2 hl1 k0 k1 k2 k3 k4 k5 k6 k7 k8 k9 HJ HB1 HC
  have k0 := (blk_cells hl2 0).trans rfl
  have k1 := (blk_cells hl2 1).trans rfl
  have k2 := (blk_cells hl2 2).trans rfl
  have k3 := (blk_cells hl2 3).trans rfl
  have k4 := (blk_cells hl2 4).trans rfl
  have k5 := (blk_cells hl2 5).trans rfl
  have k6 := (blk_cells hl2 6).trans rfl
  have k7 := (blk_cells hl2 7).trans rfl
  have k8 := (blk_cells hl2 8).trans rfl
  have k9 := (blk_cells hl2 9).trans rfl
  go_wp2_with fail
  refine (HD.out _ HJ2.out).mono ?_
  rintro e w3 ⟨rfl, hb3⟩
  have HJ3 := Lib.hid (HJ2.out.on hb3)
  have HB3 := Lib.hid (HB2.out.on hb3)
  clear hb3 hl2 k0 k1 k2 k3 k4 k5 k6 k7 k8 k9 HJ2 HB2 HD
  go_wp2
  go_ret
  exact ⟨rfl, Mod.of_below HB3.out, W, HJ3.out, hw, hl⟩
end Go.Proofs.YtfflacggaebonaaGreatDoor
end
section
namespace Go.Proofs.YtfflacggaebonaaGreatDoor
open Go.RowKit
set_option linter.unusedVariables false
set_option linter.unusedSimpArgs false
variable {w w' base : World} {M B Wb Ob p q P D G Wg Og : Nat} {u : Value} {W W' : List Int} {dl : List LayR}
theorem six_of4 (w w' : World) (hm : Mod (Four3 Wb Ob p q) w w') : Mod (Six Wb Ob p q Wg Og) w w' := hm.mono fun _ _ e => .inl e
theorem six_of2 (w w' : World) (hm : Mod (Two3 Wg Og) w w') : Mod (Six Wb Ob p q Wg Og) w w' := hm.mono fun _ _ e => .inr e
set_option maxRecDepth 100000 in
set_option maxHeartbeats 1000000 in
theorem do_follow (h : ImgJ base w M B Wb Ob p q P D G Wg Og u W dl) (hw : Wds W) (hl : W.length = 48) (aa ap ahl ahc ahs ax alk ali alg : Int) (bs : Option Addr) : Calls Tryz.prog 7 #[.agg #[.int .i64 3, .int .i64 aa, .int .i64 ap, .int .i64 ahl, .int .i64 ahc, .int .i64 ahs, .int .u64 ax, .int .i64 alk, .int .i64 ali, .int .i64 alg], .pointer bs, .pointer (some ⟨M, 0, none⟩), .pointer (some ⟨D, 0, none⟩)] w (DoP base w M B Wb Ob p q P D G Wg Og u dl) := by
  have hb1 := below1 w (.cells #[.int .i64 3, .int .i64 aa, .int .i64 ap, .int .i64 ahl, .int .i64 ahc, .int .i64 ahs, .int .u64 ax, .int .i64 alk, .int .i64 ali, .int .i64 alg] 39)
  have hl1 := heap_alloc_new w (.cells #[.int .i64 3, .int .i64 aa, .int .i64 ap, .int .i64 ahl, .int .i64 ahc, .int .i64 ahs, .int .u64 ax, .int .i64 alk, .int .i64 ali, .int .i64 alg] 39)
  have HJ := Lib.hid (h.on hb1)
  have HB1 := Lib.hid hb1
  have HC := Lib.hid (follow_any HJ.out.ip hw aa ap)
  have HD : Hid (∀ Y, ImgJ base Y M B Wb Ob p q P D G Wg Og u W dl → Calls Tryz.prog 11 #[.pointer (some ⟨D, 0, none⟩), .int .i64 aa, .int .i64 ap] Y fun e w' => e = .returned (.tuple #[.agg #[.int .i64 (followR W (onesO 5) 8 (dl.map LayR.x) aa ap).1, .int .i64 (followR W (onesO 5) 8 (dl.map LayR.x) aa ap).2.1, .int .i64 (followR W (onesO 5) 8 (dl.map LayR.x) aa ap).2.2.1], .int .i64 (followR W (onesO 5) 8 (dl.map LayR.x) aa ap).2.2.2]) ∧ Below Y.heap.size Y w') := Lib.hid (fun Y hY => dfollow_any (ls := dl.map LayR.x) hY.im hw aa ap rfl)
  generalize followR W (onesO 5) 8 (dl.map LayR.x) aa ap = lr at *
  obtain ⟨x1, x2, x3, x4⟩ := lr
  have k0 := (blk_cells hl1 0).trans rfl
  have k1 := (blk_cells hl1 1).trans rfl
  have k2 := (blk_cells hl1 2).trans rfl
  have k3 := (blk_cells hl1 3).trans rfl
  have k4 := (blk_cells hl1 4).trans rfl
  have k5 := (blk_cells hl1 5).trans rfl
  have k6 := (blk_cells hl1 6).trans rfl
  have k7 := (blk_cells hl1 7).trans rfl
  have k8 := (blk_cells hl1 8).trans rfl
  have k9 := (blk_cells hl1 9).trans rfl
  clear hb1 h
  go_enter Tryz.func7, Tryz.ntmps7
  go_wp2_with fail
  generalize w.alloc (.cells #[.int .i64 3, .int .i64 aa, .int .i64 ap, .int .i64 ahl, .int .i64 ahc, .int .i64 ahs, .int .u64 ax, .int .i64 alk, .int .i64 ali, .int .i64 alg] 39) = W1 at *
  refine HC.out.mono ?_
  rintro e w2 ⟨rfl, hb2⟩
  have hb3 := hb2.on (below1 w2 (.cells #[.int .i64 x1, .int .i64 x2, .int .i64 x3] 37))
  have hn3 := heap_alloc_new w2 (.cells #[.int .i64 x1, .int .i64 x2, .int .i64 x3] 37)
  have HJ2 := Lib.hid (HJ.out.on hb3)
  have HB2 := Lib.hid (HB1.out.on hb3)
  have hl2 := (hb3.block _ (block_lt hl1)).trans hl1
  clear hb2 hb3 hl1 k0 k1 k2 k3 k4 k5 k6 k7 k8 k9 HJ HB1 HC
  have k0 := (blk_cells hl2 0).trans rfl
  have k1 := (blk_cells hl2 1).trans rfl
  have k2 := (blk_cells hl2 2).trans rfl
  have k3 := (blk_cells hl2 3).trans rfl
  have k4 := (blk_cells hl2 4).trans rfl
  have k5 := (blk_cells hl2 5).trans rfl
  have k6 := (blk_cells hl2 6).trans rfl
  have k7 := (blk_cells hl2 7).trans rfl
  have k8 := (blk_cells hl2 8).trans rfl
  have k9 := (blk_cells hl2 9).trans rfl
  go_wp2_with fail
  refine (HD.out _ HJ2.out).mono ?_
  rintro e w3 ⟨rfl, hb3⟩
  have hb4 := hb3.on (below1 w3 (.cells #[.int .i64 x1, .int .i64 x2, .int .i64 x3] 37))
  have HJ3 := Lib.hid (HJ2.out.on hb4)
  have HB3 := Lib.hid (HB2.out.on hb4)
  have hn4 := (hb3.block _ (block_lt hn3)).trans hn3
  have hn5 := (hb4.block _ (block_lt hn3)).trans hn3
  have r0 := (blk_cells hn4 0).trans rfl
  have r1 := (blk_cells hn4 1).trans rfl
  have r2 := (blk_cells hn4 2).trans rfl
  have s0 := (blk_cells hn5 0).trans rfl
  have s1 := (blk_cells hn5 1).trans rfl
  have s2 := (blk_cells hn5 2).trans rfl
  have j0 := block_lt hn4
  have j1 : ¬ w3.heap.size = w2.heap.size := by omega
  have j2 : ¬ w2.heap.size = w3.heap.size := by omega
  clear hb3 hb4 hn3 hn4 hn5 hl2 k0 k1 k2 k3 k4 k5 k6 k7 k8 k9 HJ2 HB2 HD
  go_wp2
  go_ret
  exact ⟨rfl, Mod.of_below HB3.out, W, HJ3.out, hw, hl⟩
set_option maxRecDepth 100000 in
set_option maxHeartbeats 1000000 in
theorem do_make (h : ImgJ base w M B Wb Ob p q P D G Wg Og u W dl) (hw : Wds W) (hl : W.length = 48) (aa ap ahl ahc ahs ax alk ali alg : Int) (bs : Option Addr) : Calls Tryz.prog 7 #[.agg #[.int .i64 0, .int .i64 aa, .int .i64 ap, .int .i64 ahl, .int .i64 ahc, .int .i64 ahs, .int .u64 ax, .int .i64 alk, .int .i64 ali, .int .i64 alg], .pointer bs, .pointer (some ⟨M, 0, none⟩), .pointer (some ⟨D, 0, none⟩)] w (DoP base w M B Wb Ob p q P D G Wg Og u dl) := by
  have hb1 := below1 w (.cells #[.int .i64 0, .int .i64 aa, .int .i64 ap, .int .i64 ahl, .int .i64 ahc, .int .i64 ahs, .int .u64 ax, .int .i64 alk, .int .i64 ali, .int .i64 alg] 39)
  have hl1 := heap_alloc_new w (.cells #[.int .i64 0, .int .i64 aa, .int .i64 ap, .int .i64 ahl, .int .i64 ahc, .int .i64 ahs, .int .u64 ax, .int .i64 alk, .int .i64 ali, .int .i64 alg] 39)
  have HJ := Lib.hid (h.on hb1)
  have HB1 := Lib.hid hb1
  have HNB : Hid (¬ Four3 Wb Ob p q w.heap.size) := Lib.hid (fun e => by
    have := (ImgJ.is h hw hl).lt _ e
    omega)
  have HC := Lib.hid (make_any HJ.out.ip aa ahl ahc ahs)
  have HWD := Lib.hid (And.intro (hw.make (own := onesO 5) (size := 8) (ls := dl.map LayR.x) aa ahl ahc ahs) ((make_len (W := W) (own := onesO 5) (size := 8) (ls := dl.map LayR.x) aa ahl ahc ahs).trans hl))
  have HD : Hid (∀ Y, ImgD (Six Wb Ob p q Wg Og) base Y D G Wg Og u W 8 (onesO 5) dl → Calls Tryz.prog 26 #[.pointer (some ⟨D, 0, none⟩), .int .i64 aa, .agg #[.int .i64 ahl, .int .i64 ahc, .int .i64 ahs]] Y fun e w' => e = .returned (.tuple #[.int .i64 (makeR W (onesO 5) 8 (dl.map LayR.x) aa ahl ahc ahs).1.1, .int .i64 (makeR W (onesO 5) 8 (dl.map LayR.x) aa ahl ahc ahs).1.2]) ∧ ImgD (Six Wb Ob p q Wg Og) base w' D G Wg Og u (makeR W (onesO 5) 8 (dl.map LayR.x) aa ahl ahc ahs).2 8 (onesO 5) dl ∧ Mod (Two3 Wg Og) Y w') := Lib.hid (fun Y hY => dmake_any hY aa ahl ahc ahs rfl)
  generalize makeR W (onesO 5) 8 (dl.map LayR.x) aa ahl ahc ahs = lr at *
  obtain ⟨⟨x1, x2⟩, W'⟩ := lr
  have k0 := (blk_cells hl1 0).trans rfl
  have k1 := (blk_cells hl1 1).trans rfl
  have k2 := (blk_cells hl1 2).trans rfl
  have k3 := (blk_cells hl1 3).trans rfl
  have k4 := (blk_cells hl1 4).trans rfl
  have k5 := (blk_cells hl1 5).trans rfl
  have k6 := (blk_cells hl1 6).trans rfl
  have k7 := (blk_cells hl1 7).trans rfl
  have k8 := (blk_cells hl1 8).trans rfl
  have k9 := (blk_cells hl1 9).trans rfl
  clear hb1 h
  go_enter Tryz.func7, Tryz.ntmps7
  go_wp2_with fail
  generalize w.alloc (.cells #[.int .i64 0, .int .i64 aa, .int .i64 ap, .int .i64 ahl, .int .i64 ahc, .int .i64 ahs, .int .u64 ax, .int .i64 alk, .int .i64 ali, .int .i64 alg] 39) = W1 at *
  refine HC.out.mono ?_
  rintro e w2 ⟨rfl, hi2, hm2⟩
  have HI2 := Lib.hid hi2
  have HD2 := Lib.hid (HJ.out.half hm2)
  have HM2 := Lib.hid ((Mod.of_below (S := (Six Wb Ob p q Wg Og)) HB1.out).trans (six_of4 _ _ hm2))
  have hl2 := hm2.keeps hl1 (HNB.out)
  clear hi2 hm2 hl1 k0 k1 k2 k3 k4 k5 k6 k7 k8 k9 HC
  have k0 := (blk_cells hl2 0).trans rfl
  have k1 := (blk_cells hl2 1).trans rfl
  have k2 := (blk_cells hl2 2).trans rfl
  have k3 := (blk_cells hl2 3).trans rfl
  have k4 := (blk_cells hl2 4).trans rfl
  have k5 := (blk_cells hl2 5).trans rfl
  have k6 := (blk_cells hl2 6).trans rfl
  have k7 := (blk_cells hl2 7).trans rfl
  have k8 := (blk_cells hl2 8).trans rfl
  have k9 := (blk_cells hl2 9).trans rfl
  go_wp2_with fail
  refine (HD.out _ HD2.out).mono ?_
  rintro e w3 ⟨rfl, hd3, hm3⟩
  have HJ3 := Lib.hid (HJ.out.done HI2.out hd3 hm3)
  have HM3 := Lib.hid (HM2.out.trans (six_of2 _ _ hm3))
  clear hd3 hm3 hl2 k0 k1 k2 k3 k4 k5 k6 k7 k8 k9 HI2 HD2 HM2 HD
  go_wp2
  go_ret
  exact ⟨rfl, HM3.out, W', HJ3.out, HWD.out.1, HWD.out.2⟩
end Go.Proofs.YtfflacggaebonaaGreatDoor
end
section
namespace Go.Proofs.YtfflacggaebonaaGreatDoor
open Go.RowKit
set_option linter.unusedVariables false
set_option linter.unusedSimpArgs false
variable {w w' base : World} {M B Wb Ob p q P D G Wg Og size : Nat} {u : Value} {W W' own : List Int} {dl : List LayR} {ls : List Lay}
theorem copy_tw3 (W own : List Int) (size : Nat) (t f n : Int) : ∃ y W', CopyTw W own size t f n y W' ∧ (W' = W ∨ ∃ a b m : Nat, a + m ≤ W.length ∧ b + m ≤ W.length ∧ W' = copyW W a b m) := by
  by_cases h1 : inW W.length t n ∧ inW W.length f n
  · obtain ⟨⟨g1, g2, g3, g4⟩, g5, g6, g7, g8⟩ := id h1
    obtain ⟨t, rfl⟩ : ∃ m : Nat, t = m := ⟨t.toNat, by omega⟩
    obtain ⟨f, rfl⟩ : ∃ m : Nat, f = m := ⟨f.toNat, by omega⟩
    obtain ⟨n, rfl⟩ : ∃ m : Nat, n = m := ⟨n.toNat, by omega⟩
    by_cases h2 : okW own size t n = true ∧ okW own size f n = true
    · refine ⟨0, copyW W t f n, ⟨fun Y B Wb Ob p q hs => copy_in hs t f n (by omega) (by omega) h2.1 h2.2, fun Y G Wg Og hr => (rcopy_in hr t f n (by omega) (by omega)).mono fun e Y' h => ?_⟩, .inr ⟨t, f, n, by omega, by omega, rfl⟩⟩
      rcases h with ⟨_, _, h3, h4, h5⟩ | ⟨h3, _⟩
      · exact ⟨h3, h4, h5⟩
      · exact absurd h2 h3
    · refine ⟨17, W, ⟨fun Y B Wb Ob p q hs => (copy_bad hs t f n (fun e => h2 ⟨by simpa using e.2.2.1, by simpa using e.2.2.2⟩)).mono fun e Y' ⟨⟨x, he, hc, hx⟩, hw⟩ => ⟨?_, hw ▸ hs, hw ▸ Mod.refl _ _⟩, fun Y G Wg Og hr => (rcopy_in hr t f n (by omega) (by omega)).mono fun e Y' h => ?_⟩, .inl rfl⟩
      · rcases hc with ⟨h3, h4⟩ | ⟨h3, _⟩ | ⟨h3, _⟩
        · exact absurd h1 (fun e => h4.elim (fun g => g e.1) (fun g => g e.2))
        · rw [he, h3]
        · exact absurd h3 hx
      · rcases h with ⟨h3, h4, _⟩ | ⟨_, h3, h4⟩
        · exact absurd ⟨h3, h4⟩ h2
        · exact ⟨h3, hr.on h4, .of_below h4⟩
  · refine ⟨3, W, ⟨fun Y B Wb Ob p q hs => (copy_bad hs t f n (fun e => h1 ⟨e.1, e.2.1⟩)).mono fun e Y' ⟨⟨x, he, hc, hx⟩, hw⟩ => ⟨?_, hw ▸ hs, hw ▸ Mod.refl _ _⟩, fun Y G Wg Og hr => (rcopy_bad hr t f n h1).mono fun e Y' ⟨he, hw⟩ => ⟨he, hw ▸ hr, hw ▸ Mod.refl _ _⟩⟩, .inl rfl⟩
    rcases hc with ⟨h3, h4⟩ | ⟨h3, h4, h5, _⟩ | ⟨h3, _⟩
    · rw [he, h3]
    · exact absurd ⟨h4, h5⟩ h1
    · exact absurd h3 hx
theorem move_or3 (hw : Wds W) (t f : Int) : ∃ n y W', MoveR W own size ls t f n y W' ∧ Wds W' ∧ W'.length = W.length := by
  by_cases g : findE W own size ls f = 0
  · obtain ⟨c, W', hc, hx⟩ := copy_tw3 W own size t f (atR W own size ls f).2.2.2
    refine ⟨_, _, W', .inr ⟨g, c, hc, rfl, rfl⟩, ?_⟩
    rcases hx with rfl | ⟨a, b, m, h1, h2, rfl⟩
    · exact ⟨hw, rfl⟩
    · exact ⟨hw.copy a b m, length_splice _ _ _ (by simp; omega)⟩
  · exact ⟨_, _, W, .inl ⟨g, rfl, rfl, rfl⟩, hw, rfl⟩
set_option maxRecDepth 100000 in
set_option maxHeartbeats 1000000 in
theorem do_move (h : ImgJ base w M B Wb Ob p q P D G Wg Og u W dl) (hw : Wds W) (hl : W.length = 48) (aa ap ahl ahc ahs ax alk ali alg : Int) (bs : Option Addr) : Calls Tryz.prog 7 #[.agg #[.int .i64 5, .int .i64 aa, .int .i64 ap, .int .i64 ahl, .int .i64 ahc, .int .i64 ahs, .int .u64 ax, .int .i64 alk, .int .i64 ali, .int .i64 alg], .pointer bs, .pointer (some ⟨M, 0, none⟩), .pointer (some ⟨D, 0, none⟩)] w (DoP base w M B Wb Ob p q P D G Wg Og u dl) := by
  have hb1 := below1 w (.cells #[.int .i64 5, .int .i64 aa, .int .i64 ap, .int .i64 ahl, .int .i64 ahc, .int .i64 ahs, .int .u64 ax, .int .i64 alk, .int .i64 ali, .int .i64 alg] 39)
  have hl1 := heap_alloc_new w (.cells #[.int .i64 5, .int .i64 aa, .int .i64 ap, .int .i64 ahl, .int .i64 ahc, .int .i64 ahs, .int .u64 ax, .int .i64 alk, .int .i64 ali, .int .i64 alg] 39)
  have HJ := Lib.hid (h.on hb1)
  have HB1 := Lib.hid hb1
  obtain ⟨n, y, W', hm, hw2, hl2⟩ := move_or3 (own := onesO 5) (size := 8) (ls := dl.map LayR.x) hw aa ap
  have HNB : Hid (¬ Four3 Wb Ob p q w.heap.size) := Lib.hid (fun e => by
    have := (ImgJ.is h hw hl).lt _ e
    omega)
  have HC := Lib.hid (move_any HJ.out.ip hw aa ap n y hm)
  have HWD := Lib.hid (And.intro hw2 (hl2.trans hl))
  have HD : Hid (∀ Y, ImgD (Six Wb Ob p q Wg Og) base Y D G Wg Og u W 8 (onesO 5) dl → Calls Tryz.prog 33 #[.pointer (some ⟨D, 0, none⟩), .int .i64 aa, .int .i64 ap] Y fun e w' => e = .returned (.tuple #[.int .i64 n, .int .i64 y]) ∧ ImgD (Six Wb Ob p q Wg Og) base w' D G Wg Og u W' 8 (onesO 5) dl ∧ Mod (Two3 Wg Og) Y w') := Lib.hid (fun Y hY => dmove_any hY hw aa ap n y rfl hm)
  clear hm hw2 hl2
  have k0 := (blk_cells hl1 0).trans rfl
  have k1 := (blk_cells hl1 1).trans rfl
  have k2 := (blk_cells hl1 2).trans rfl
  have k3 := (blk_cells hl1 3).trans rfl
  have k4 := (blk_cells hl1 4).trans rfl
  have k5 := (blk_cells hl1 5).trans rfl
  have k6 := (blk_cells hl1 6).trans rfl
  have k7 := (blk_cells hl1 7).trans rfl
  have k8 := (blk_cells hl1 8).trans rfl
  have k9 := (blk_cells hl1 9).trans rfl
  clear hb1 h
  go_enter Tryz.func7, Tryz.ntmps7
  go_wp2_with fail
  generalize w.alloc (.cells #[.int .i64 5, .int .i64 aa, .int .i64 ap, .int .i64 ahl, .int .i64 ahc, .int .i64 ahs, .int .u64 ax, .int .i64 alk, .int .i64 ali, .int .i64 alg] 39) = W1 at *
  refine HC.out.mono ?_
  rintro e w2 ⟨rfl, hi2, hm2⟩
  have HI2 := Lib.hid hi2
  have HD2 := Lib.hid (HJ.out.half hm2)
  have HM2 := Lib.hid ((Mod.of_below (S := (Six Wb Ob p q Wg Og)) HB1.out).trans (six_of4 _ _ hm2))
  have hl2 := hm2.keeps hl1 (HNB.out)
  clear hi2 hm2 hl1 k0 k1 k2 k3 k4 k5 k6 k7 k8 k9 HC
  have k0 := (blk_cells hl2 0).trans rfl
  have k1 := (blk_cells hl2 1).trans rfl
  have k2 := (blk_cells hl2 2).trans rfl
  have k3 := (blk_cells hl2 3).trans rfl
  have k4 := (blk_cells hl2 4).trans rfl
  have k5 := (blk_cells hl2 5).trans rfl
  have k6 := (blk_cells hl2 6).trans rfl
  have k7 := (blk_cells hl2 7).trans rfl
  have k8 := (blk_cells hl2 8).trans rfl
  have k9 := (blk_cells hl2 9).trans rfl
  go_wp2_with fail
  refine (HD.out _ HD2.out).mono ?_
  rintro e w3 ⟨rfl, hd3, hm3⟩
  have HJ3 := Lib.hid (HJ.out.done HI2.out hd3 hm3)
  have HM3 := Lib.hid (HM2.out.trans (six_of2 _ _ hm3))
  clear hd3 hm3 hl2 k0 k1 k2 k3 k4 k5 k6 k7 k8 k9 HI2 HD2 HM2 HD
  go_wp2
  go_ret
  exact ⟨rfl, HM3.out, W', HJ3.out, HWD.out.1, HWD.out.2⟩
end Go.Proofs.YtfflacggaebonaaGreatDoor
end
section
namespace Go.Proofs.YtfflacggaebonaaGreatDoor
open Go.RowKit
set_option linter.unusedVariables false
set_option linter.unusedSimpArgs false
variable {w w' base : World} {M B Wb Ob p q P D G Wg Og size : Nat} {u : Value} {W W' own : List Int} {dl : List LayR} {ls : List Lay}
set_option maxRecDepth 100000 in
set_option maxHeartbeats 1000000 in
theorem do_save (h : ImgJ base w M B Wb Ob p q P D G Wg Og u W dl) (hw : Wds W) (hl : W.length = 48) (aa ap ahl ahc ahs ax alk ali alg : Int) (hx0 : 0 ≤ ax) (hx1 : ax < 18446744073709551616) (bs : Option Addr) : Calls Tryz.prog 7 #[.agg #[.int .i64 2, .int .i64 aa, .int .i64 ap, .int .i64 ahl, .int .i64 ahc, .int .i64 ahs, .int .u64 ax, .int .i64 alk, .int .i64 ali, .int .i64 alg], .pointer bs, .pointer (some ⟨M, 0, none⟩), .pointer (some ⟨D, 0, none⟩)] w (DoP base w M B Wb Ob p q P D G Wg Og u dl) := by
  have hb1 := below1 w (.cells #[.int .i64 2, .int .i64 aa, .int .i64 ap, .int .i64 ahl, .int .i64 ahc, .int .i64 ahs, .int .u64 ax, .int .i64 alk, .int .i64 ali, .int .i64 alg] 39)
  have hl1 := heap_alloc_new w (.cells #[.int .i64 2, .int .i64 aa, .int .i64 ap, .int .i64 ahl, .int .i64 ahc, .int .i64 ahs, .int .u64 ax, .int .i64 alk, .int .i64 ali, .int .i64 alg] 39)
  have HJ := Lib.hid (h.on hb1)
  have HB1 := Lib.hid hb1
  have HNS : Hid (¬ Two3 Wg Og w.heap.size) := Lib.hid (fun e => by
    have g1 := block_lt h.im.rf.body
    have g2 := block_lt h.im.rf.owners
    rcases e with e | e <;> omega)
  have HNB : Hid (¬ Four3 Wb Ob p q w.heap.size) := Lib.hid (fun e => by
    have := (ImgJ.is h hw hl).lt _ e
    omega)
  have HC : Hid (∀ Y, ImgJ base Y M B Wb Ob p q P D G Wg Og u W dl → Calls Tryz.prog 28 #[.pointer (some ⟨M, 0, none⟩), .int .i64 aa, .int .i64 ap, .int .u64 ax] Y fun e w' => e = .returned (.int .i64 (saveR W (onesO 5) 8 (dl.map LayR.x) aa ap ax).1) ∧ ImgP (Six Wb Ob p q Wg Og) w' M B Wb Ob p q P (saveR W (onesO 5) 8 (dl.map LayR.x) aa ap ax).2 8 (onesO 5) (dl.map LayR.x) ∧ Mod (Four3 Wb Ob p q) Y w') := Lib.hid (fun Y hY => save_any hY.ip hw aa ap ax)
  have HD : Hid (∀ Y, ImgD (Six Wb Ob p q Wg Og) base Y D G Wg Og u W 8 (onesO 5) dl → Calls Tryz.prog 29 #[.pointer (some ⟨D, 0, none⟩), .int .i64 aa, .int .i64 ap, .int .u64 ax] Y fun e w' => e = .returned (.int .i64 (saveR W (onesO 5) 8 (dl.map LayR.x) aa ap ax).1) ∧ ImgD (Six Wb Ob p q Wg Og) base w' D G Wg Og u (saveR W (onesO 5) 8 (dl.map LayR.x) aa ap ax).2 8 (onesO 5) dl ∧ Mod (Two3 Wg Og) Y w') := Lib.hid (fun Y hY => dsave_any hY hw aa ap ax rfl)
  have HWD := Lib.hid (And.intro (hw.save (own := onesO 5) (size := 8) (ls := dl.map LayR.x) aa ap hx0 hx1) ((save_len (W := W) (own := onesO 5) (size := 8) (ls := dl.map LayR.x) aa ap ax).trans hl))
  generalize saveR W (onesO 5) 8 (dl.map LayR.x) aa ap ax = lr at *
  obtain ⟨x1, W'⟩ := lr
  have k0 := (blk_cells hl1 0).trans rfl
  have k1 := (blk_cells hl1 1).trans rfl
  have k2 := (blk_cells hl1 2).trans rfl
  have k3 := (blk_cells hl1 3).trans rfl
  have k4 := (blk_cells hl1 4).trans rfl
  have k5 := (blk_cells hl1 5).trans rfl
  have k6 := (blk_cells hl1 6).trans rfl
  have k7 := (blk_cells hl1 7).trans rfl
  have k8 := (blk_cells hl1 8).trans rfl
  have k9 := (blk_cells hl1 9).trans rfl
  clear hb1 h
  go_enter Tryz.func7, Tryz.ntmps7
  go_wp2_with fail
  generalize w.alloc (.cells #[.int .i64 2, .int .i64 aa, .int .i64 ap, .int .i64 ahl, .int .i64 ahc, .int .i64 ahs, .int .u64 ax, .int .i64 alk, .int .i64 ali, .int .i64 alg] 39) = W1 at *
  have hbd : Below W1.heap.size W1 W1.drew := Below.drew (Below.refl _ _)
  have HJD := Lib.hid (HJ.out.on hbd)
  have HMD := Lib.hid ((Mod.of_below (S := (Six Wb Ob p q Wg Og)) HB1.out).trans (Mod.of_below (S := (Six Wb Ob p q Wg Og)) hbd))
  have HBXD : Hid (W1.drew.heap[w.heap.size]? = some (.cells #[.int .i64 2, .int .i64 aa, .int .i64 ap, .int .i64 ahl, .int .i64 ahc, .int .i64 ahs, .int .u64 ax, .int .i64 alk, .int .i64 ali, .int .i64 alg] 39 (0, 0))) := Lib.hid hl1
  clear hl1 hbd
  go_region_held3 (fun wk => wk.cell? ⟨w.heap.size, 1, none⟩ = some (.int .i64 aa) ∧ wk.cell? ⟨w.heap.size, 2, none⟩ = some (.int .i64 ap) ∧ wk.cell? ⟨w.heap.size, 6, none⟩ = some (.int .u64 ax)) (first | assumption | exact ⟨k1, k2, k6⟩ | exact ⟨r1, r2, r6⟩ | exact ⟨q1, q2, q6⟩) (first | (go_at_call 28; refine (HC.out _ HJD.out).mono ?_; rintro e w2 ⟨rfl, hi2, hm2⟩; have HI2 := Lib.hid hi2; have HD2 := Lib.hid (HJD.out.half hm2); have HM2 := Lib.hid (HMD.out.trans (six_of4 _ _ hm2)); have hl2 := hm2.keeps HBXD.out HNB.out; have q1 := (blk_cells hl2 1).trans rfl; have q2 := (blk_cells hl2 2).trans rfl; have q6 := (blk_cells hl2 6).trans rfl; have HL2 := Lib.hid hl2; clear hi2 hm2 hl2 HC) | (go_at_call 29; refine (HD.out _ HD2.out).mono ?_; rintro e w3 ⟨rfl, hd3, hm3⟩; have HJ3 := Lib.hid (HJD.out.done HI2.out hd3 hm3); have HM3 := Lib.hid (HM2.out.trans (six_of2 _ _ hm3)); have hl3 := hm3.keeps HL2.out HNS.out; have r1 := (blk_cells hl3 1).trans rfl; have r2 := (blk_cells hl3 2).trans rfl; have r6 := (blk_cells hl3 6).trans rfl; clear hd3 hm3 hl3 HD))
  all_goals
    go_wp2
    go_ret
    exact ⟨rfl, HM3.out, W', HJ3.out, HWD.out.1, HWD.out.2⟩
set_option maxRecDepth 100000 in
set_option maxHeartbeats 1000000 in
theorem do_tie (h : ImgJ base w M B Wb Ob p q P D G Wg Og u W dl) (hw : Wds W) (hl : W.length = 48) (aa ap ahl ahc ahs ax alk ali alg : Int) (bs : Option Addr) : Calls Tryz.prog 7 #[.agg #[.int .i64 4, .int .i64 aa, .int .i64 ap, .int .i64 ahl, .int .i64 ahc, .int .i64 ahs, .int .u64 ax, .int .i64 alk, .int .i64 ali, .int .i64 alg], .pointer bs, .pointer (some ⟨M, 0, none⟩), .pointer (some ⟨D, 0, none⟩)] w (DoP base w M B Wb Ob p q P D G Wg Og u dl) := by
  have hb1 := below1 w (.cells #[.int .i64 4, .int .i64 aa, .int .i64 ap, .int .i64 ahl, .int .i64 ahc, .int .i64 ahs, .int .u64 ax, .int .i64 alk, .int .i64 ali, .int .i64 alg] 39)
  have hl1 := heap_alloc_new w (.cells #[.int .i64 4, .int .i64 aa, .int .i64 ap, .int .i64 ahl, .int .i64 ahc, .int .i64 ahs, .int .u64 ax, .int .i64 alk, .int .i64 ali, .int .i64 alg] 39)
  have HJ := Lib.hid (h.on hb1)
  have HB1 := Lib.hid hb1
  have HNS : Hid (¬ Two3 Wg Og w.heap.size) := Lib.hid (fun e => by
    have g1 := block_lt h.im.rf.body
    have g2 := block_lt h.im.rf.owners
    rcases e with e | e <;> omega)
  have HNB : Hid (¬ Four3 Wb Ob p q w.heap.size) := Lib.hid (fun e => by
    have := (ImgJ.is h hw hl).lt _ e
    omega)
  have HC : Hid (∀ Y, ImgJ base Y M B Wb Ob p q P D G Wg Og u W dl → Calls Tryz.prog 30 #[.pointer (some ⟨M, 0, none⟩), .int .i64 aa, .int .i64 ap, .agg #[.int .i64 alk, .int .i64 ali, .int .i64 alg]] Y fun e w' => e = .returned (.int .i64 (tieR W (onesO 5) 8 (dl.map LayR.x) aa ap alk ali alg).1) ∧ ImgP (Six Wb Ob p q Wg Og) w' M B Wb Ob p q P (tieR W (onesO 5) 8 (dl.map LayR.x) aa ap alk ali alg).2 8 (onesO 5) (dl.map LayR.x) ∧ Mod (Four3 Wb Ob p q) Y w') := Lib.hid (fun Y hY => tie_any hY.ip hw aa ap alk ali alg)
  have HD : Hid (∀ Y, ImgD (Six Wb Ob p q Wg Og) base Y D G Wg Og u W 8 (onesO 5) dl → Calls Tryz.prog 31 #[.pointer (some ⟨D, 0, none⟩), .int .i64 aa, .int .i64 ap, .agg #[.int .i64 alk, .int .i64 ali, .int .i64 alg]] Y fun e w' => e = .returned (.int .i64 (tieR W (onesO 5) 8 (dl.map LayR.x) aa ap alk ali alg).1) ∧ ImgD (Six Wb Ob p q Wg Og) base w' D G Wg Og u (tieR W (onesO 5) 8 (dl.map LayR.x) aa ap alk ali alg).2 8 (onesO 5) dl ∧ Mod (Two3 Wg Og) Y w') := Lib.hid (fun Y hY => dtie_any hY hw aa ap alk ali alg rfl)
  have HWD := Lib.hid (And.intro (hw.tie (own := onesO 5) (size := 8) (ls := dl.map LayR.x) aa ap alk ali alg) ((tie_len (W := W) (own := onesO 5) (size := 8) (ls := dl.map LayR.x) aa ap alk ali alg).trans hl))
  generalize tieR W (onesO 5) 8 (dl.map LayR.x) aa ap alk ali alg = lr at *
  obtain ⟨x1, W'⟩ := lr
  have k0 := (blk_cells hl1 0).trans rfl
  have k1 := (blk_cells hl1 1).trans rfl
  have k2 := (blk_cells hl1 2).trans rfl
  have k3 := (blk_cells hl1 3).trans rfl
  have k4 := (blk_cells hl1 4).trans rfl
  have k5 := (blk_cells hl1 5).trans rfl
  have k6 := (blk_cells hl1 6).trans rfl
  have k7 := (blk_cells hl1 7).trans rfl
  have k8 := (blk_cells hl1 8).trans rfl
  have k9 := (blk_cells hl1 9).trans rfl
  clear hb1 h
  go_enter Tryz.func7, Tryz.ntmps7
  go_wp2_with fail
  generalize w.alloc (.cells #[.int .i64 4, .int .i64 aa, .int .i64 ap, .int .i64 ahl, .int .i64 ahc, .int .i64 ahs, .int .u64 ax, .int .i64 alk, .int .i64 ali, .int .i64 alg] 39) = W1 at *
  have hbd : Below W1.heap.size W1 W1.drew := Below.drew (Below.refl _ _)
  have HJD := Lib.hid (HJ.out.on hbd)
  have HMD := Lib.hid ((Mod.of_below (S := (Six Wb Ob p q Wg Og)) HB1.out).trans (Mod.of_below (S := (Six Wb Ob p q Wg Og)) hbd))
  have HBXD : Hid (W1.drew.heap[w.heap.size]? = some (.cells #[.int .i64 4, .int .i64 aa, .int .i64 ap, .int .i64 ahl, .int .i64 ahc, .int .i64 ahs, .int .u64 ax, .int .i64 alk, .int .i64 ali, .int .i64 alg] 39 (0, 0))) := Lib.hid hl1
  clear hl1 hbd
  go_region_held3 (fun wk => wk.cell? ⟨w.heap.size, 1, none⟩ = some (.int .i64 aa) ∧ wk.cell? ⟨w.heap.size, 2, none⟩ = some (.int .i64 ap) ∧ wk.cell? ⟨w.heap.size, 7, none⟩ = some (.int .i64 alk) ∧ wk.cell? ⟨w.heap.size, 8, none⟩ = some (.int .i64 ali) ∧ wk.cell? ⟨w.heap.size, 9, none⟩ = some (.int .i64 alg)) (first | assumption | exact ⟨k1, k2, k7, k8, k9⟩ | exact ⟨r1, r2, r7, r8, r9⟩ | exact ⟨q1, q2, q7, q8, q9⟩) (first | (go_at_call 30; refine (HC.out _ HJD.out).mono ?_; rintro e w2 ⟨rfl, hi2, hm2⟩; have HI2 := Lib.hid hi2; have HD2 := Lib.hid (HJD.out.half hm2); have HM2 := Lib.hid (HMD.out.trans (six_of4 _ _ hm2)); have hl2 := hm2.keeps HBXD.out HNB.out; have q1 := (blk_cells hl2 1).trans rfl; have q2 := (blk_cells hl2 2).trans rfl; have q7 := (blk_cells hl2 7).trans rfl; have q8 := (blk_cells hl2 8).trans rfl; have q9 := (blk_cells hl2 9).trans rfl; have HL2 := Lib.hid hl2; clear hi2 hm2 hl2 HC) | (go_at_call 31; refine (HD.out _ HD2.out).mono ?_; rintro e w3 ⟨rfl, hd3, hm3⟩; have HJ3 := Lib.hid (HJD.out.done HI2.out hd3 hm3); have HM3 := Lib.hid (HM2.out.trans (six_of2 _ _ hm3)); have hl3 := hm3.keeps HL2.out HNS.out; have r1 := (blk_cells hl3 1).trans rfl; have r2 := (blk_cells hl3 2).trans rfl; have r7 := (blk_cells hl3 7).trans rfl; have r8 := (blk_cells hl3 8).trans rfl; have r9 := (blk_cells hl3 9).trans rfl; clear hd3 hm3 hl3 HD))
  all_goals
    go_wp2
    go_ret
    exact ⟨rfl, HM3.out, W', HJ3.out, HWD.out.1, HWD.out.2⟩
end Go.Proofs.YtfflacggaebonaaGreatDoor
end
section
namespace Go.Proofs.YtfflacggaebonaaGreatDoor
open Go.RowKit
set_option linter.unusedVariables false
set_option linter.unusedSimpArgs false
variable {w w' base : World} {M B Wb Ob p q P D G Wg Og size : Nat} {u : Value} {W W' own : List Int} {dl : List LayR} {ls : List Lay}
set_option maxRecDepth 100000 in
set_option maxHeartbeats 1000000 in
theorem do_write_out (h : ImgJ base w M B Wb Ob p q P D G Wg Og u W dl) (hw : Wds W) (hl : W.length = 48) (aa ap ahl ahc ahs ax alk ali alg : Int) (hg : adE W (onesO 5) 8 aa ≠ 0) (bs : Option Addr) : Calls Tryz.prog 7 #[.agg #[.int .i64 6, .int .i64 aa, .int .i64 ap, .int .i64 ahl, .int .i64 ahc, .int .i64 ahs, .int .u64 ax, .int .i64 alk, .int .i64 ali, .int .i64 alg], .pointer bs, .pointer (some ⟨M, 0, none⟩), .pointer (some ⟨D, 0, none⟩)] w (DoP base w M B Wb Ob p q P D G Wg Og u dl) := by
  have hb1 := below1 w (.cells #[.int .i64 6, .int .i64 aa, .int .i64 ap, .int .i64 ahl, .int .i64 ahc, .int .i64 ahs, .int .u64 ax, .int .i64 alk, .int .i64 ali, .int .i64 alg] 39)
  have hl1 := heap_alloc_new w (.cells #[.int .i64 6, .int .i64 aa, .int .i64 ap, .int .i64 ahl, .int .i64 ahc, .int .i64 ahs, .int .u64 ax, .int .i64 alk, .int .i64 ali, .int .i64 alg] 39)
  have HJ := Lib.hid (h.on hb1)
  have HB1 := Lib.hid hb1
  have k0 := (blk_cells hl1 0).trans rfl
  have k1 := (blk_cells hl1 1).trans rfl
  have k2 := (blk_cells hl1 2).trans rfl
  have k3 := (blk_cells hl1 3).trans rfl
  have k4 := (blk_cells hl1 4).trans rfl
  have k5 := (blk_cells hl1 5).trans rfl
  have k6 := (blk_cells hl1 6).trans rfl
  have k7 := (blk_cells hl1 7).trans rfl
  have k8 := (blk_cells hl1 8).trans rfl
  have k9 := (blk_cells hl1 9).trans rfl
  clear hb1 h
  go_enter Tryz.func7, Tryz.ntmps7
  go_wp2_with fail
  generalize w.alloc (.cells #[.int .i64 6, .int .i64 aa, .int .i64 ap, .int .i64 ahl, .int .i64 ahc, .int .i64 ahs, .int .u64 ax, .int .i64 alk, .int .i64 ali, .int .i64 alg] 39) = W1 at *
  have hbd : Below W1.heap.size W1 W1.drew := Below.drew (Below.refl _ _)
  have HJD := Lib.hid (HJ.out.on hbd)
  have HMD := Lib.hid ((Mod.of_below (S := (Six Wb Ob p q Wg Og)) HB1.out).trans (Mod.of_below (S := (Six Wb Ob p q Wg Og)) hbd))
  have d0 := HJD.out.im.c0
  have HAT := Lib.hid (rat_t HJD.out.im.rf aa)
  clear hbd
  have HL1 := Lib.hid hl1
  clear hl1
  generalize adE W (onesO 5) 8 aa = ad at *
  have g' : (ad == 0) = false := by simpa using hg
  have HG := Lib.hid hg
  clear hg
  go_region_held3 (fun wk => wk.cell? ⟨w.heap.size, 1, none⟩ = some (.int .i64 aa) ∧ wk.cell? ⟨D, 0, none⟩ = some (.pointer (some ⟨G, 0, none⟩))) (first | assumption | exact ⟨k1, d0⟩) ((go_at_call 34; refine HAT.out.mono ?_; rintro e w2 ⟨rfl, rfl⟩))
  all_goals
    go_wp2
    go_ret
    exact ⟨rfl, HMD.out, W, HJD.out, hw, hl⟩
set_option maxRecDepth 100000 in
set_option maxHeartbeats 1000000 in
theorem do_write_in (h : ImgJ base w M B Wb Ob p q P D G Wg Og u W dl) (hw : Wds W) (hl : W.length = 48) (aa ap ahl ahc ahs ax alk ali alg : Int) (m : Nat) (ha : aa = m) (hm : m < 48) (hg : adE W (onesO 5) 8 m = 0) (hx0 : 0 ≤ ax) (hx1 : ax < 18446744073709551616) : Calls Tryz.prog 7 #[.agg #[.int .i64 6, .int .i64 aa, .int .i64 ap, .int .i64 ahl, .int .i64 ahc, .int .i64 ahs, .int .u64 ax, .int .i64 alk, .int .i64 ali, .int .i64 alg], .pointer (some ⟨B, 0, none⟩), .pointer (some ⟨M, 0, none⟩), .pointer (some ⟨D, 0, none⟩)] w (DoP base w M B Wb Ob p q P D G Wg Og u dl) := by
  subst ha
  have hb1 := below1 w (.cells #[.int .i64 6, .int .i64 (m : Nat), .int .i64 ap, .int .i64 ahl, .int .i64 ahc, .int .i64 ahs, .int .u64 ax, .int .i64 alk, .int .i64 ali, .int .i64 alg] 39)
  have hl1 := heap_alloc_new w (.cells #[.int .i64 6, .int .i64 (m : Nat), .int .i64 ap, .int .i64 ahl, .int .i64 ahc, .int .i64 ahs, .int .u64 ax, .int .i64 alk, .int .i64 ali, .int .i64 alg] 39)
  have HJ := Lib.hid (h.on hb1)
  have HB1 := Lib.hid hb1
  have HNB : Hid (¬ Four3 Wb Ob p q w.heap.size) := Lib.hid (fun e => by
    have := (ImgJ.is h hw hl).lt _ e
    omega)
  have HWR : Hid (wrW W (onesO 5) 8 m ax = W.set m ax) := Lib.hid (by unfold wrW; rw [if_pos hg, Int.toNat_natCast])
  have HWD := Lib.hid (And.intro (hw.set m hx0 hx1) (show (W.set m ax).length = 48 by rw [List.length_set, hl]))
  have HK : Hid (m < W.length) := Lib.hid (by omega)
  have kb0 : (0 : Int) ≤ (m : Int) := by omega
  have kb1 : (m : Int) < 48 := by omega
  clear hm
  have k0 := (blk_cells hl1 0).trans rfl
  have k1 := (blk_cells hl1 1).trans rfl
  have k2 := (blk_cells hl1 2).trans rfl
  have k3 := (blk_cells hl1 3).trans rfl
  have k4 := (blk_cells hl1 4).trans rfl
  have k5 := (blk_cells hl1 5).trans rfl
  have k6 := (blk_cells hl1 6).trans rfl
  have k7 := (blk_cells hl1 7).trans rfl
  have k8 := (blk_cells hl1 8).trans rfl
  have k9 := (blk_cells hl1 9).trans rfl
  clear hb1 h
  go_enter Tryz.func7, Tryz.ntmps7
  go_wp2_with fail
  generalize w.alloc (.cells #[.int .i64 6, .int .i64 (m : Nat), .int .i64 ap, .int .i64 ahl, .int .i64 ahc, .int .i64 ahs, .int .u64 ax, .int .i64 alk, .int .i64 ali, .int .i64 alg] 39) = W1 at *
  have hbd : Below W1.heap.size W1 W1.drew := Below.drew (Below.refl _ _)
  have HJD := Lib.hid (HJ.out.on hbd)
  have HMD := Lib.hid ((Mod.of_below (S := (Six Wb Ob p q Wg Og)) HB1.out).trans (Mod.of_below (S := (Six Wb Ob p q Wg Og)) hbd))
  have d0 := HJD.out.im.c0
  have HAT := Lib.hid (rat_t HJD.out.im.rf m)
  clear hbd
  have HL1 : Hid (W1.drew.heap[w.heap.size]? = some (.cells #[.int .i64 6, .int .i64 (m : Nat), .int .i64 ap, .int .i64 ahl, .int .i64 ahc, .int .i64 ahs, .int .u64 ax, .int .i64 alk, .int .i64 ali, .int .i64 alg] 39 (0, 0))) := Lib.hid hl1
  clear hl1
  rw [hg] at HAT
  clear hg
  have HC := Lib.hid (write_t HJD.out.ip.st m ax)
  rw [HWR.out] at HC
  have HLEN := Lib.hid hl
  clear hl
  go_region_held3 (fun wk => wk.cell? ⟨w.heap.size, 1, none⟩ = some (.int .i64 (m : Nat)) ∧ wk.cell? ⟨D, 0, none⟩ = some (.pointer (some ⟨G, 0, none⟩))) (first | assumption | exact ⟨k1, d0⟩) ((go_at_call 34; refine HAT.out.mono ?_; rintro e w2 ⟨rfl, rfl⟩))
  go_wp2_with fail
  refine HC.out.mono ?_
  rintro e w3 ⟨hE, hS3, hm3⟩
  have hi3 := HJD.out.ip.turn hS3 hm3
  have hd3 := HJD.out.half hm3
  have hl3 := hm3.keeps HL1.out HNB.out
  have q1 := (blk_cells hl3 1).trans rfl
  have q6 := (blk_cells hl3 6).trans rfl
  have c0 := hd3.c0
  have r0 := hd3.rf.c0
  rw [HLEN.out] at r0
  have hwc := hd3.rf.word_cell m HK.out
  have hth := blk_thaw hd3.rf.body m
  have hsw := (hd3.rf.on (Below.drew (Below.refl _ w3))).setW m ax
  have HD3 := Lib.hid ((hd3.on (Below.drew (Below.refl _ w3))).turn hsw.1 (hsw.2.mono fun _ _ e => .inl e))
  have HI3 := Lib.hid hi3
  have HMS : Hid (Mod (Two3 Wg Og) w3 (w3.drew.setCell ⟨Wg, m, none⟩ (.int .u64 ax))) := Lib.hid ((Mod.of_below (Below.drew (Below.refl _ w3))).trans (hsw.2.mono fun _ _ e => .inl e))
  have HM3 := Lib.hid (HMD.out.trans (six_of4 _ _ hm3))
  generalize W.getD m 0 = wd at *
  subst hE
  clear hi3 hd3 hl3 hm3 hS3 hsw k0 k1 k2 k3 k4 k5 k6 k7 k8 k9 d0
  go_wp2_with fail
  go_still_tail 12, (by kernel_rfl)
  go_wp2
  go_ret
  exact ⟨rfl, HM3.out.trans (six_of2 _ _ HMS.out), _, HJD.out.done HI3.out HD3.out HMS.out, HWD.out.1, HWD.out.2⟩
set_option maxRecDepth 100000 in
set_option maxHeartbeats 1000000 in
theorem do_none (h : ImgJ base w M B Wb Ob p q P D G Wg Og u W dl) (hw : Wds W) (hl : W.length = 48) (aa ap ahl ahc ahs ax alk ali alg : Int) (k : Int) (n0 : (k == 0) = false) (n1 : (k == 1) = false) (n2 : (k == 2) = false) (n3 : (k == 3) = false) (n4 : (k == 4) = false) (n5 : (k == 5) = false) (n6 : (k == 6) = false) (bs : Option Addr) : Calls Tryz.prog 7 #[.agg #[.int .i64 k, .int .i64 aa, .int .i64 ap, .int .i64 ahl, .int .i64 ahc, .int .i64 ahs, .int .u64 ax, .int .i64 alk, .int .i64 ali, .int .i64 alg], .pointer bs, .pointer (some ⟨M, 0, none⟩), .pointer (some ⟨D, 0, none⟩)] w (DoP base w M B Wb Ob p q P D G Wg Og u dl) := by
  have hb1 := below1 w (.cells #[.int .i64 k, .int .i64 aa, .int .i64 ap, .int .i64 ahl, .int .i64 ahc, .int .i64 ahs, .int .u64 ax, .int .i64 alk, .int .i64 ali, .int .i64 alg] 39)
  have hl1 := heap_alloc_new w (.cells #[.int .i64 k, .int .i64 aa, .int .i64 ap, .int .i64 ahl, .int .i64 ahc, .int .i64 ahs, .int .u64 ax, .int .i64 alk, .int .i64 ali, .int .i64 alg] 39)
  have HJ := Lib.hid (h.on hb1)
  have HB1 := Lib.hid hb1
  have k0 := (blk_cells hl1 0).trans rfl
  have k1 := (blk_cells hl1 1).trans rfl
  have k2 := (blk_cells hl1 2).trans rfl
  have k3 := (blk_cells hl1 3).trans rfl
  have k4 := (blk_cells hl1 4).trans rfl
  have k5 := (blk_cells hl1 5).trans rfl
  have k6 := (blk_cells hl1 6).trans rfl
  have k7 := (blk_cells hl1 7).trans rfl
  have k8 := (blk_cells hl1 8).trans rfl
  have k9 := (blk_cells hl1 9).trans rfl
  clear hb1 h
  go_enter Tryz.func7, Tryz.ntmps7
  go_wp2_with fail
  generalize w.alloc (.cells #[.int .i64 k, .int .i64 aa, .int .i64 ap, .int .i64 ahl, .int .i64 ahc, .int .i64 ahs, .int .u64 ax, .int .i64 alk, .int .i64 ali, .int .i64 alg] 39) = W1 at *
  clear hl1
  go_wp2
  go_ret
  exact ⟨rfl, Mod.of_below HB1.out, W, HJ.out, hw, hl⟩
theorem do_any (h : ImgJ base w M B Wb Ob p q P D G Wg Og u W dl) (hw : Wds W) (hl : W.length = 48) (a : A12) (hg : good12 a) : Calls Tryz.prog 7 #[.agg #[.int .i64 a.k, .int .i64 a.a, .int .i64 a.p, .int .i64 a.hl, .int .i64 a.hc, .int .i64 a.hs, .int .u64 a.x, .int .i64 a.lk, .int .i64 a.li, .int .i64 a.lg], .pointer (some ⟨B, 0, none⟩), .pointer (some ⟨M, 0, none⟩), .pointer (some ⟨D, 0, none⟩)] w (DoP base w M B Wb Ob p q P D G Wg Og u dl) := by
  obtain ⟨k, aa, ap, ahl, ahc, ahs, ax, alk, ali, alg⟩ := a
  obtain ⟨h0, h1⟩ := hg
  dsimp only at h0 h1 ⊢
  by_cases e0 : k = 0
  · subst e0; exact do_make h hw hl aa ap ahl ahc ahs ax alk ali alg _
  by_cases e1 : k = 1
  · subst e1; exact do_load h hw hl aa ap ahl ahc ahs ax alk ali alg _
  by_cases e2 : k = 2
  · subst e2; exact do_save h hw hl aa ap ahl ahc ahs ax alk ali alg h0 h1 _
  by_cases e3 : k = 3
  · subst e3; exact do_follow h hw hl aa ap ahl ahc ahs ax alk ali alg _
  by_cases e4 : k = 4
  · subst e4; exact do_tie h hw hl aa ap ahl ahc ahs ax alk ali alg _
  by_cases e5 : k = 5
  · subst e5; exact do_move h hw hl aa ap ahl ahc ahs ax alk ali alg _
  by_cases e6 : k = 6
  · subst e6
    by_cases g : adE W (onesO 5) 8 aa = 0
    · obtain ⟨m, ha, hm, -⟩ := adE_ok g
      exact do_write_in h hw hl aa ap ahl ahc ahs ax alk ali alg m ha (by omega) (ha ▸ g) h0 h1
    · exact do_write_out h hw hl aa ap ahl ahc ahs ax alk ali alg g _
  · exact do_none h hw hl aa ap ahl ahc ahs ax alk ali alg k (by simpa using e0) (by simpa using e1) (by simpa using e2) (by simpa using e3) (by simpa using e4) (by simpa using e5) (by simpa using e6) _
end Go.Proofs.YtfflacggaebonaaGreatDoor
end
section
namespace Go.Proofs.YtfflacggaebonaaGreatDoor
open Go.RowKit Go.Shelf
set_option linter.unusedVariables false
set_option linter.unusedSimpArgs false
attribute [local go_sem] Oper.semAt_some
variable {w w' : World} {x : Lay} {A1 A2 : Option Addr} {c1 c2 : Nat}
/-- What the iterator captured. -/
structure SlM (W : World) (b1 b2 : Nat) (x : Lay) (A1 : Option Addr) (c1 : Nat) (A2 : Option Addr) (c2 : Nat) (c : Int) : Prop where
  lay : W.heap[b1]? = some (.cells (layCells x A1 c1 A2 c2) 64 (0, 0))
  cnt : W.heap[b2]? = some (.cells #[.int .i64 c] 3 (0, 0))
  is : LayIs W x A1 c1 A2 c2
theorem SlM.on {W W' : World} {b1 b2 : Nat} {c : Int} (h : SlM W b1 b2 x A1 c1 A2 c2 c) (hb : Below W.heap.size W W') : SlM W' b1 b2 x A1 c1 A2 c2 c := ⟨(hb.block _ (block_lt h.lay)).trans h.lay, (hb.block _ (block_lt h.cnt)).trans h.cnt, h.is.on hb⟩
/-- Where the places lie. -/
def LayB (x : Lay) (A1 A2 : Option Addr) (b o : Nat) : Prop := A1 = some ⟨b, o, none⟩ ∧ x.refs ≠ [] ∨ A2 = some ⟨b, o, none⟩ ∧ x.recs ≠ []
theorem slice_lt {A : Option Addr} {l : List Int} (h : SliceOf w A 1 encI 0 l) {b o : Nat} (hA : A = some ⟨b, o, none⟩) (hl : l ≠ []) : b < w.heap.size := by
  obtain ⟨b', o', e, hc⟩ := h 0 (by cases l with | nil => exact absurd rfl hl | cons => simp)
  rw [hA] at e
  cases e
  exact lt_of_cell (hc 0 _ rfl)
theorem LayIs.lt (h : LayIs w x A1 c1 A2 c2) {b o : Nat} (hb : LayB x A1 A2 b o) : b < w.heap.size := by
  rcases hb with ⟨h1, h2⟩ | ⟨h1, h2⟩
  · exact slice_lt h.h1 h1 h2
  · exact slice_lt h.h2 h1 h2
theorem SlM.mod {S : Nat → Prop} {W W' : World} {b1 b2 : Nat} {c : Int} (h : SlM W b1 b2 x A1 c1 A2 c2 c) (hm : Mod S W W') (n1 : ¬ S b1) (n2 : ¬ S b2) (nA : ∀ b o, LayB x A1 A2 b o → ¬ S b) : SlM W' b1 b2 x A1 c1 A2 c2 c := ⟨hm.keeps h.lay n1, hm.keeps h.cnt n2, { h.is with h1 := slice_mod h.is.h1 hm (fun b o e hl => nA b o (.inl ⟨e, hl⟩)), h2 := slice_mod h.is.h2 hm (fun b o e hl => nA b o (.inr ⟨e, hl⟩)) }⟩
set_option maxRecDepth 100000 in
set_option maxHeartbeats 1000000 in
theorem slots_gives (n : Nat) (hn : 1 ≤ n) (b1 b2 c0 : Nat) (S : Nat → Prop) (c : Int) (hS : SlM w b1 b2 x A1 c1 A2 c2 c) (n1 : ¬ S b1) (n2 : ¬ S b2) (nA : ∀ b o, LayB x A1 A2 b o → ¬ S b) :
    Gives 0 Fence.wide n Tryz.prog 68 #[.pointer (some ⟨b1, 0, none⟩), .pointer (some ⟨b2, 0, none⟩)] (fun y : Int => #[Value.int .i64 y]) S (x.told c) c0 w := by
  intro l J W hW hcs hJ hY h0
  obtain ⟨xs, hxs⟩ : ∃ xs, xs = x.told c := ⟨_, rfl⟩
  rw [← hxs] at hY ⊢
  have HC0 : Hid (c0 + 0 ≤ W.heap.size) := Lib.hid (by omega)
  have hS := hS.on hW
  have NN := Lib.hid (And.intro n1 (And.intro n2 nA))
  clear hW hcs n1 n2 nA
  have hA : Hid (∀ X, LayIs X x A1 c1 A2 c2 → Calls Tryz.prog 69 #[.agg #[.int .i64 x.fixed, .slice A1 x.refs.length c1, .int .i64 x.record, .slice A2 x.recs.length c2], .int .i64 c] X fun e w' => e = .returned (.tuple #[.int .i64 (x.size c).1, .int .i64 (x.size c).2]) ∧ Below X.heap.size X w') := Lib.hid (fun X hX => size_any _ _ _ _ _ _ X hX)
  have HS := Lib.hid hS
  have hlay := hS.lay
  unfold layCells at hlay
  have e0 := (blk_cells hlay 0).trans rfl
  have e1 := (blk_cells hlay 1).trans rfl
  have e2 := (blk_cells hlay 2).trans rfl
  have e3 := (blk_cells hlay 3).trans rfl
  have e4 := (blk_cells hS.cnt 0).trans rfl
  clear hS hlay
  refine callsIn_of_wp Tryz.func68 rfl trivial ?_ rfl
  simp only [Tryz.ntmps68, List.size_toArray, List.length_cons, List.length_nil, Nat.reduceAdd, Nat.reduceSub, Array.replicate_succ, Array.replicate_zero, List.push_toArray, List.append_toArray, List.nil_append, List.cons_append]
  gi_wp2_with fail
  refine ⟨trivial, (callsIn_wide.2 (hA.out _ HS.out.is)).mono ?_⟩
  rintro e w1 ⟨rfl, hb⟩
  have HS1 := Lib.hid (HS.out.on hb)
  have hJ1 : J [] w1 := hJ _ _ _ h0 (Mod.of_below hb)
  have HC1 : Hid (c0 + 0 ≤ w1.heap.size) := Lib.hid (Nat.le_trans HC0.out hb.size)
  have g0 := cell_on hb e0
  have g1 := cell_on hb e1
  have g2 := cell_on hb e2
  have g3 := cell_on hb e3
  clear hb e0 e1 e2 e3 e4 hA HS HC0
  unfold Lay.told at hxs
  by_cases hz : (x.size c).2 = 0
  · rw [if_pos hz] at hxs
    have hok := Lay.size_ok hz
    have hr := Lay.right_out hok.1
    have hl1 := rise_len hr.2.2.2.2.2.1 hr.1
    have hl2 := rise_len hr.2.2.2.2.2.2 hr.2.2.1
    have hmul : 0 ≤ c * x.record := Int.mul_nonneg hok.2.1 hr.2.2.1
    obtain ⟨cn, rfl⟩ : ∃ cn : Nat, c = cn := ⟨c.toNat, by omega⟩
    rw [Int.toNat_natCast] at hxs
    rw [hz, hok.2.2.2.2.1]
    have hn8 : x.fixed + cn * x.record < 8192 := by have := hok.2.2.2.2.2; omega
    have HRP := Lib.hid hok.2.2.2.1
    have HRR := Lib.hid (rise_all hr.2.2.2.2.2.2).2
    have hF0 := hr.1
    have hF1 := hr.2.1
    have hR0 := hr.2.2.1
    have hR1 := hr.2.2.2.1
    have HX := Lib.hid hxs
    clear hz hok hr hxs
    gi_wp2_with fail
    gi_loopw [22] (fun v22 wr => ∃ k : Nat, k ≤ x.refs.length ∧ v22 = .int .i64 k ∧ Hid (SlM wr b1 b2 x A1 c1 A2 c2 cn) ∧ Hid (c0 + 0 ≤ wr.heap.size) ∧ J (x.refs.take k) wr) (fun v22 _ => x.refs.length - (intOf v22).toNat)
    case atStart => exact ⟨0, by omega, rfl, HS1, HC1, by simpa using hJ1⟩
    case round =>
      obtain ⟨k, hk, rfl, HSk, HCk, hJk⟩ := hrel
      clear g0 g1 g2 g3 HS1 hJ1 HC1
      have hlay := HSk.out.lay
      unfold layCells at hlay
      have g0 := (blk_cells hlay 0).trans rfl
      have g1 := (blk_cells hlay 1).trans rfl
      have g2 := (blk_cells hlay 2).trans rfl
      have g3 := (blk_cells hlay 3).trans rfl
      clear hlay
      by_cases hlt : k < x.refs.length
      · obtain ⟨b, o, rfl, hx⟩ := intsY_at HSk.out.is.h1 k hlt
        have hpre : (x.refs.take k ++ [x.refs.getD k 0]) <+: xs := by rw [← take_snoc hlt, HX.out]; exact Lay.refs_pre x _ _
        obtain ⟨fn, tmps, assign, body, hy, hR⟩ := hY (x.refs.take k) (x.refs.getD k 0) wr HCk.out hJk hpre
        rw [← take_snoc hlt] at hR hpre
        generalize x.refs.getD k 0 = p at *
        gi_wp2
        refine hR.mono ?_
        rintro e W3 ⟨rfl, hJ3, hk3⟩
        have HS3 := Lib.hid (HSk.out.mod hk3 NN.out.1 NN.out.2.1 NN.out.2.2)
        have HC3 : Hid (c0 + 0 ≤ W3.heap.size) := Lib.hid (Nat.le_trans HCk.out hk3.size)
        clear hk3 g0 g1 g2 g3
        gi_wp2
        go_roundw
        case rel => exact ⟨k + 1, by omega, by go_num, HS3, HC3, hJ3⟩
        case measure => simp [intOf]; omega
      · obtain rfl : k = x.refs.length := by omega
        rw [List.take_length, ← Lay.slots_zero x] at hJk
        gi_wp2_with fail
        gi_loopw [8] (fun v8 wr => ∃ r : Nat, r ≤ cn ∧ v8 = .int .i64 (x.fixed + r * x.record) ∧ Hid (SlM wr b1 b2 x A1 c1 A2 c2 cn) ∧ Hid (c0 + 0 ≤ wr.heap.size) ∧ J (x.slots r) wr) (fun v8 _ => (x.fixed + cn * x.record - intOf v8).toNat)
        case atStart => exact ⟨0, by omega, by simp, HSk, HCk, hJk⟩
        case round =>
          obtain ⟨r, hr, rfl, HSr, HCr, hJr⟩ := hrel
          clear g0 g1 g2 g3 HSk hJk HCk
          have hlay := HSr.out.lay
          unfold layCells at hlay
          have g0 := (blk_cells hlay 0).trans rfl
          have g1 := (blk_cells hlay 1).trans rfl
          have g2 := (blk_cells hlay 2).trans rfl
          have g3 := (blk_cells hlay 3).trans rfl
          clear hlay
          by_cases hrc : r < cn
          · have hRpos : 0 < x.record := HRP.out (by omega)
            have hstep := mul_step r x.record
            have hle : ((r + 1 : Nat) : Int) * x.record ≤ cn * x.record := Int.mul_le_mul_of_nonneg_right (by omega) hR0
            have hr0 : 0 ≤ (r : Int) * x.record := Int.mul_nonneg (by omega) hR0
            obtain ⟨fr, hfr⟩ : ∃ fr, fr = x.fixed + r * x.record := ⟨_, rfl⟩
            have HFR := Lib.hid hfr
            rw [← hfr]
            have d0 : decide (fr < x.fixed + cn * x.record) = true := decide_eq_true (by omega)
            have hfr0 : 0 ≤ fr := by omega
            have hfr1 : fr < 8192 := by omega
            have hnx : fr + x.record = x.fixed + ((r + 1 : Nat) : Int) * x.record := by rw [hstep]; omega
            have HNX := Lib.hid hnx
            have HLT : Hid (fr < x.fixed + cn * x.record ∧ fr < x.fixed + ((r + 1 : Nat) : Int) * x.record) := Lib.hid ⟨by omega, by rw [hstep]; omega⟩
            clear hfr hstep hle hr0 hnx
            gi_wp2_with fail
            gi_loopw [43] (fun v43 wr => ∃ k : Nat, k ≤ x.recs.length ∧ v43 = .int .i64 k ∧ Hid (SlM wr b1 b2 x A1 c1 A2 c2 cn) ∧ Hid (c0 + 0 ≤ wr.heap.size) ∧ J (x.partTo r k) wr) (fun v43 _ => x.recs.length - (intOf v43).toNat)
            case atStart => exact ⟨0, by omega, rfl, HSr, HCr, by rw [Lay.partTo_zero]; exact hJr⟩
            case round =>
              obtain ⟨k, hk, rfl, HSk, HCk, hJk⟩ := hrel
              clear g0 g1 g2 g3 HSr hJr HCr
              have hlay := HSk.out.lay
              unfold layCells at hlay
              have g0 := (blk_cells hlay 0).trans rfl
              have g1 := (blk_cells hlay 1).trans rfl
              have g2 := (blk_cells hlay 2).trans rfl
              have g3 := (blk_cells hlay 3).trans rfl
              clear hlay
              by_cases hlt : k < x.recs.length
              · obtain ⟨b, o, rfl, hx⟩ := intsY_at HSk.out.is.h2 k hlt
                have hq := HRR.out _ (mem_getD hlt)
                have hpre : (x.partTo r k ++ [fr + x.recs.getD k 0]) <+: xs := by rw [HFR.out, ← Lay.partTo_snoc x r hlt, HX.out]; exact Lay.partTo_pre x hrc
                obtain ⟨fn, tmps, assign, body, hy, hR⟩ := hY (x.partTo r k) (fr + x.recs.getD k 0) wr HCk.out hJk hpre
                have hsn := Lay.partTo_snoc x r hlt
                rw [← HFR.out] at hsn
                rw [← hsn] at hR hpre
                clear hsn
                generalize x.recs.getD k 0 = p at *
                have hw : wrap64 (fr + p) = fr + p := by unfold wrap64; omega
                gi_wp2
                refine hR.mono ?_
                rintro e W3 ⟨rfl, hJ3, hk3⟩
                have HS3 := Lib.hid (HSk.out.mod hk3 NN.out.1 NN.out.2.1 NN.out.2.2)
                have HC3 : Hid (c0 + 0 ≤ W3.heap.size) := Lib.hid (Nat.le_trans HCk.out hk3.size)
                clear hk3 g0 g1 g2 g3
                gi_wp2
                go_roundw
                case rel => exact ⟨k + 1, by omega, by go_num, HS3, HC3, hJ3⟩
                case measure => simp [intOf]; omega
              · obtain rfl : k = x.recs.length := by omega
                rw [Lay.partTo_all] at hJk
                gi_wp2_with fail
                go_roundw
                case rel => exact ⟨r + 1, by omega, by rw [← HNX.out], HSk, HCk, hJk⟩
                case measure =>
                  have := HLT.out.1
                  simp only [intOf]; omega
          · obtain rfl : r = cn := by omega
            rw [← HX.out] at hJr
            gi_wp2
            go_end0
            exact ⟨⟨_, rfl⟩, hJr⟩
  · rw [if_neg hz] at hxs
    have d : ((x.size c).2 != 0) = true := by simpa using hz
    generalize (x.size c).2 = s2 at *
    generalize (x.size c).1 = s1 at *
    clear hz
    subst hxs
    gi_wp2
    refine bodyPost_ret (results_none rfl _ _ _) rfl ?_
    exact ⟨⟨_, rfl⟩, hJ1⟩
end Go.Proofs.YtfflacggaebonaaGreatDoor
end
section
namespace Go.Proofs.YtfflacggaebonaaGreatDoor
open Go.RowKit
set_option linter.unusedVariables false
/-- What rounds may turn: some blocks, and all from r on. -/
def orUp (S : Nat → Prop) (r k : Nat) : Prop := S k ∨ r ≤ k
/-- The iterator hands out just these, in this order; its own blocks lie from c on, below an r that it tells at its first round; rounds turn blocks of S, and those from r on. -/
def Gives2 {α : Type} (F : Fence) (n : Nat) (P : Program) (g : Nat) (lb : Array Value) (encs : α → Array Value) (S : Nat → Prop) (xs : List α) (c : Nat) (w : World) : Prop :=
  ∀ (l : Nat) (J : Nat → List α → World → Prop) (W : World), Below w.heap.size w W → W.heap.size = c → (∀ r s A B, c ≤ r → J r s A → Mod (fun k => c ≤ k ∧ k < r) A B → J r s B) →
    (∀ r pre x W1, c ≤ r → r ≤ W1.heap.size → J r pre W1 → (pre ++ [x]) <+: xs → YieldAt F (n - 1) P l (encs x) W1 fun e W' => e = .returned (.bool true) ∧ J r (pre ++ [x]) W' ∧ Mod (orUp S r) W1 W') →
    (∀ r W', c ≤ r → Below W.heap.size W W' → J r [] W') → CallsIn F n P g (#[.func (.yield l) #[] #[]] ++ lb) W fun e W' => (∃ v, e = .returned v) ∧ ∃ r, c ≤ r ∧ J r xs W'
theorem range_up {F : Fence} {n : Nat} {P : Program} {α : Type} {g : Operand} {ps : Array Tmp} {assign body : Code} {Q : Exit → Act → World → Prop} {a : Act} {w : World}
    (hro : F.round = none) (h1 : 1 ≤ n) {gf : Nat} {lb : Array Value} (hg : a.eval g = .func (.func gf) #[] lb) (hFg : F.fn gf) (eg : ∀ args w, (callFunc gf args).run P w = .ok (.enter gf args) w)
    {encs : α → Array Value} {xs : List α} (S : Nat → Prop) (hS : ∀ k, S k → k < w.heap.size)
    (hseq : Gives2 F (n - 1) P gf lb encs (fun k => S k ∨ k = w.heap.size + 1) xs (w.heap.size + 2) w) (hps : ∀ x, (encs x).size = ps.size)
    (I : Nat → List α → World → Prop) (hI : ∀ r s A B, w.heap.size + 2 ≤ r → I r s A → Mod (fun k => w.heap.size ≤ k ∧ k < r) A B → I r s B) (h0 : ∀ r W', w.heap.size + 2 ≤ r → Below w.heap.size w W' → I r [] W')
    {β : Type} (Ax : Nat → List α → α → β → World → Prop) (hAx : ∀ r s x b A B, w.heap.size + 2 ≤ r → Ax r s x b A → Mod (fun k => k = w.heap.size + 1) A B → Ax r s x b B) (a₁ : α → β → Act)
    (hassign : ∀ (l r : Nat) (pre : List α) (x : α) (W : World), w.heap.size + 2 ≤ r → r ≤ W.heap.size → I r pre W → (pre ++ [x]) <+: xs →
      assign.wpIn (F.inRound l) (n - 1 - 1) P (Exit.then (fun a' W' => ∃ b, a' = a₁ x b ∧ Mod (orUp S r) W W' ∧ Ax r pre x b W') (fun _ _ _ => False)) { tmps := (ps.zip (encs x)).foldl (fun t (p, v) => t.setIfInBounds p v) a.tmps, defers := [] } W)
    (hbody : ∀ (l r : Nat) (pre : List α) (x : α) (b : β) (W : World), w.heap.size + 2 ≤ r → r ≤ W.heap.size → Ax r pre x b W → (pre ++ [x]) <+: xs → body.wpIn (F.inRound l) (n - 1 - 1) P (goesOn (orUp S r) W (I r (pre ++ [x]))) (a₁ x b) W)
    (hdone : ∀ (r : Nat) (W : World), w.heap.size + 2 ≤ r → I r xs W → W.heap[w.heap.size]? = some (.deferred (some [])) → w.heap.size + 2 ≤ W.heap.size → Q .normal { a with defers := { target := .collected w.heap.size, args := #[] } :: a.defers } W) :
    (Code.rangeFunc g ps assign body).wpIn F n P Q a w := by
  refine wpIn_rangeFunc fun fn hfn => ?_
  rw [hro]
  obtain ⟨rc, hrc⟩ : ∃ rc : LoopState → Loop, rc = fun st => { state := st, pending := none, fn, tmps := a.tmps, params := ps, assign, body, defers := w.heap.size } := ⟨_, rfl⟩
  have hnS1 : ∀ r, w.heap.size + 2 ≤ r → ¬ orUp S r (w.heap.size + 1) := fun r hr e => e.elim (fun e => by have := hS _ e; omega) (fun e => by omega)
  have hnS0 : ∀ r, w.heap.size + 2 ≤ r → ¬ orUp S r w.heap.size := fun r hr e => e.elim (fun e => by have := hS _ e; omega) (fun e => by omega)
  have hsz : ((w.alloc (.deferred (some []))).alloc (.loop (rc .ready))).heap.size = w.heap.size + 2 := by simp
  have hM1 : Below w.heap.size w ((w.alloc (.deferred (some []))).alloc (.loop (rc .ready))) := ((Below.refl _ w).alloc (Nat.le_refl _) _).alloc (by simp) _
  have hL1 : ((w.alloc (.deferred (some []))).alloc (.loop (rc .ready))).heap[w.heap.size + 1]? = some (.loop (rc .ready)) := by
    have := World.alloc_heap_new (w.alloc (.deferred (some []))) (.loop (rc .ready))
    rwa [World.size_alloc] at this
  have hK1 : ((w.alloc (.deferred (some []))).alloc (.loop (rc .ready))).heap[w.heap.size]? = some (.deferred (some [])) :=
    (Below.heap_alloc _ _ _ (by simp)).trans (World.alloc_heap_new w _)
  have hrun := run_enterLoop_outer (P := P) (w := w) fn a.tmps ps assign body
  rw [show ({ state := .ready, pending := none, fn, tmps := a.tmps, params := ps, assign, body, defers := w.heap.size } : Loop) = rc .ready by rw [hrc]] at hrun
  generalize (w.alloc (.deferred (some []))).alloc (.loop (rc .ready)) = W1 at *
  refine ⟨w.heap.size + 1, _, W1, { target := .fn (.func gf) lb, args := #[.func (.yield (w.heap.size + 1)) #[] #[]] }, W1, gf, #[.func (.yield (w.heap.size + 1)) #[] #[]] ++ lb, W1, hrun, ?_, ?_, ?_, fun _ => h1, ?_⟩
  · simp only [resolve, hg]
    simp [go_sem]
  · intro f' hf'
    simp [Target.leads] at hf'
    subst hf'
    exact hFg
  · simp [invoke, go_sem, eg]
  · refine (hseq (w.heap.size + 1) (fun r s W => I r s W ∧ W.heap[w.heap.size + 1]? = some (.loop (rc .ready)) ∧ W.heap[w.heap.size]? = some (.deferred (some []))) W1 hM1 hsz ?stab ?yield (fun r W' hr hb => ⟨h0 r W' hr (hM1.on hb), (hb.block _ (block_lt hL1)).trans hL1, (hb.block _ (block_lt hK1)).trans hK1⟩)).mono ?post
    case stab =>
      rintro r s A B hr ⟨h1, h2, h3⟩ hm
      exact ⟨hI _ _ _ _ hr h1 (hm.mono (fun k _ e => by have e' : w.heap.size + 2 ≤ k ∧ k < r := e; show w.heap.size ≤ k ∧ k < r; omega)), hm.keeps h2 (fun e => by have e' : w.heap.size + 2 ≤ w.heap.size + 1 ∧ _ := e; omega), hm.keeps h3 (fun e => by have e' : w.heap.size + 2 ≤ w.heap.size ∧ _ := e; omega)⟩
    case yield =>
      rintro r pre x W hr hcm ⟨hi, hl, hk⟩ hpre
      have hy := run_yield (P := P) (args := encs x) hl (by rw [hrc]; exact hps x)
      have hlt := block_lt hl
      refine ⟨_, _, _, _, hy, roundIn_of_wpIn (by rw [hrc]; exact hfn) ?_⟩
      have has := hassign (w.heap.size + 1) r pre x W hr hcm hi hpre
      rw [hrc]
      refine wpIn_mono has ?_
      intro e a' W' he
      cases e with
      | normal =>
        obtain ⟨b, rfl, hm, hax⟩ := he
        have hl' := hm.keeps hl (hnS1 r hr)
        have hk' := hm.keeps hk (hnS0 r hr)
        have hlt' := block_lt hl'
        refine ⟨_, run_beginRound hl' (by rw [hrc]), ?_⟩
        have hm2 := Mod.putObj (fun k => k = w.heap.size + 1) W' (w.heap.size + 1) (.loop { rc .ready with state := .busy }) rfl
        have hl2 : (W'.putObj (w.heap.size + 1) (.loop { rc .ready with state := .busy })).heap[w.heap.size + 1]? = some (.loop { rc .ready with state := .busy }) := World.putObj_heap_same hlt'
        have hk2 := hm2.keeps hk' (by show ¬ w.heap.size = w.heap.size + 1; omega)
        refine wpIn_mono (hbody _ r pre x b _ hr (Nat.le_trans (Nat.le_trans hcm hm.size) hm2.size) (hAx _ _ _ _ _ _ hr hax hm2) hpre) ?_
        intro e a3 W3 he
        cases e with
        | normal =>
          obtain ⟨hm3, hi3⟩ := he
          have hl3 := hm3.keeps hl2 (hnS1 r hr)
          have hk3 := hm3.keeps hk2 (hnS0 r hr)
          have hlt3 := block_lt hl3
          have hm4 := Mod.putObj (fun k => k = w.heap.size + 1) W3 (w.heap.size + 1) (.loop { { rc .ready with state := .busy } with state := .ready, pending := none }) rfl
          refine ⟨_, _, run_endRound none hl3, rfl, ⟨hI _ _ _ _ hr hi3 (hm4.mono (fun k _ e => by have e' : k = w.heap.size + 1 := e; show w.heap.size ≤ k ∧ k < r; omega)), ?_, hm4.keeps hk3 (by show ¬ w.heap.size = w.heap.size + 1; omega)⟩, ?_⟩
          · exact (World.putObj_heap_same hlt3).trans (by rw [hrc]; rfl)
          · exact (((hm.mono (fun _ _ e => e.elim (fun e => .inl (.inl e)) .inr)).trans (hm2.mono (fun _ _ e => .inl (.inr e)))).trans (hm3.mono (fun _ _ e => e.elim (fun e => .inl (.inl e)) .inr))).trans (hm4.mono (fun _ _ e => .inl (.inr e)))
        | _ => exact he.elim
      | _ => exact he.elim
    case post =>
      rintro e W2 ⟨⟨v, rfl⟩, r, hr, hi, hl, hk⟩
      have hlt := block_lt hl
      have hm4 := Mod.putObj (fun k => k = w.heap.size + 1) W2 (w.heap.size + 1) (.loop { rc .ready with state := .exhausted }) rfl
      refine ⟨none, _, ?_, hdone r _ hr (hI _ _ _ _ hr hi (hm4.mono (fun k _ e => by have e' : k = w.heap.size + 1 := e; show w.heap.size ≤ k ∧ k < r; omega))) (hm4.keeps hk (by show ¬ w.heap.size = w.heap.size + 1; omega)) (by have := hm4.size; omega)⟩
      have := run_endLoop (P := P) hl (by rw [hrc]; simp)
      rw [this, hrc]
/-- Where the loop variables are boxed. -/
theorem range_up2 {F : Fence} {n : Nat} {P : Program} {α : Type} {g : Operand} {ps : Array Tmp} {assign body : Code} {Q : Exit → Act → World → Prop} {a : Act} {w : World}
    (hro : F.round = none) (h1 : 1 ≤ n) {gf : Nat} {lb : Array Value} (hg : a.eval g = .func (.func gf) #[] lb) (hFg : F.fn gf) (eg : ∀ args w, (callFunc gf args).run P w = .ok (.enter gf args) w)
    {encs : α → Array Value} {xs : List α} (S : Nat → Prop) (hS : ∀ k, S k → k < w.heap.size)
    (hseq : Gives2 F (n - 1) P gf lb encs (fun k => S k ∨ k = w.heap.size + 1) xs (w.heap.size + 2) w) (hps : ∀ x, (encs x).size = ps.size)
    (I : Nat → List α → World → Prop) (hI : ∀ r s A B, w.heap.size + 2 ≤ r → I r s A → Mod (fun k => w.heap.size ≤ k ∧ k < r) A B → I r s B) (h0 : ∀ r W', w.heap.size + 2 ≤ r → Below w.heap.size w W' → I r [] W')
    {β : Type} (Ax : Nat → List α → α → β → World → Prop) (hAx : ∀ r s x b A B, w.heap.size + 2 ≤ r → Ax r s x b A → Mod (fun k => k = w.heap.size + 1) A B → Ax r s x b B) (a₁ : α → β → Act)
    (hassign : ∀ (l r : Nat) (pre : List α) (x : α) (W : World) (K : Act → World → Prop), w.heap.size + 2 ≤ r → r ≤ W.heap.size → I r pre W → (pre ++ [x]) <+: xs → (∀ b W', Mod (orUp S r) W W' → Ax r pre x b W' → K (a₁ x b) W') →
      assign.wpIn (F.inRound l) (n - 1 - 1) P (Exit.then K (fun _ _ _ => False)) { tmps := (ps.zip (encs x)).foldl (fun t (p, v) => t.setIfInBounds p v) a.tmps, defers := [] } W)
    (hbody : ∀ (l r : Nat) (pre : List α) (x : α) (b : β) (W : World), w.heap.size + 2 ≤ r → r ≤ W.heap.size → Ax r pre x b W → (pre ++ [x]) <+: xs → body.wpIn (F.inRound l) (n - 1 - 1) P (goesOn (orUp S r) W (I r (pre ++ [x]))) (a₁ x b) W)
    (hdone : ∀ (r : Nat) (W : World), w.heap.size + 2 ≤ r → I r xs W → W.heap[w.heap.size]? = some (.deferred (some [])) → w.heap.size + 2 ≤ W.heap.size → Q .normal { a with defers := { target := .collected w.heap.size, args := #[] } :: a.defers } W) :
    (Code.rangeFunc g ps assign body).wpIn F n P Q a w :=
  range_up hro h1 hg hFg eg S hS hseq hps I hI h0 Ax hAx a₁
    (fun l r pre x W h1 h2 h3 h4 => hassign l r pre x W _ h1 h2 h3 h4 (fun b W' hm ha => ⟨b, rfl, hm, ha⟩)) hbody hdone
end Go.Proofs.YtfflacggaebonaaGreatDoor
end
section
namespace Go.Proofs.YtfflacggaebonaaGreatDoor
open Go.RowKit Go.Shelf
set_option linter.unusedVariables false
set_option linter.unusedSimpArgs false
attribute [local go_sem] Oper.semAt_some
variable {w w' : World} {M B Wb Ob p q P size : Nat} {W W' own : List Int} {ls : List Lay} {T : Nat → Prop}
def linkOf (W own : List Int) (size : Nat) (ls : List Lay) (a y : Int) : Int × Int × Int × Int := (y, (followR W own size ls a y).1, (followR W own size ls a y).2.1, (followR W own size ls a y).2.2.1)
/-- What Links hands out. -/
def linksR (W own : List Int) (size : Nat) (ls : List Lay) (a : Int) : List (Int × Int × Int × Int) :=
  if findE W own size ls a = 0 then ((layI ls (hdI W a).1).told (hdI W a).2.1).map (linkOf W own size ls a) else []
def linkE (x : Int × Int × Int × Int) : Array Value := #[.int .i64 x.1, .agg #[.int .i64 x.2.1, .int .i64 x.2.2.1, .int .i64 x.2.2.2]]
theorem links_none {a : Int} (h : findE W own size ls a ≠ 0) : linksR W own size ls a = [] := by unfold linksR; rw [if_neg h]
theorem ObjAt.links {a l c s n : Int} {x : Lay} (h : ObjAt W own size ls a l c s x n) : linksR W own size ls a = (x.told c).map (linkOf W own size ls a) := by
  have e : hdI W a = (l, c, s, 0) := h.dec
  unfold linksR
  rw [if_pos h.find, e]
  dsimp only
  rw [h.lay]
theorem links_in (n : Nat) (m : Option Addr) (a : Int) (w : World) : CallsIn Fence.wide n Tryz.prog 10 #[.pointer m, .int .i64 a] w fun e w' => e = .returned (.func (.func 39) #[] #[.pointer (some ⟨w.heap.size, 0, none⟩), .pointer (some ⟨w.heap.size + 1, 0, none⟩)]) ∧ w' = (w.alloc (.cells #[.pointer m] 27)).alloc (.cells #[.int .i64 a] 3) := by
  refine callsIn_of_wp Tryz.func10 rfl trivial ?_ rfl
  simp only [Tryz.ntmps10, List.size_toArray, List.length_cons, List.length_nil, Nat.reduceAdd, Nat.reduceSub, Array.replicate_succ, Array.replicate_zero, List.push_toArray, List.append_toArray, List.nil_append, List.cons_append]
  gi_wp2
  go_ret
  exact ⟨rfl, rfl⟩
theorem map_pre {f : Int → Int × Int × Int × Int} {pre xs : List Int} {y : Int} (h : (pre ++ [y]) <+: xs) : (pre.map f ++ [f y]) <+: xs.map f := by
  obtain ⟨r, hr⟩ := h
  exact ⟨r.map f, by rw [← hr]; simp⟩
theorem yield_wide {m : Nat} (m' : Nat) {P : Program} {l : Nat} {args : Array Value} {W : World} {R : Ending → World → Prop} (h : YieldAt Fence.wide m P l args W R) : YieldAt Fence.wide m' P l args W R := by
  obtain ⟨fn, tmps, assign, body, hy, h1, h2⟩ := h
  exact ⟨fn, tmps, assign, body, hy, h1, fun c cs _ => h2 c cs (room_wide _)⟩
set_option maxRecDepth 100000 in
set_option maxHeartbeats 2000000 in
theorem links_gives (n : Nat) (hn : 6 ≤ n) (Mb Ab c : Nat) (D : Nat → Prop) (w0 : World) (a : Int) (h : ImgP T w0 M B Wb Ob p q P W size own ls) (hW : Wds W) (hb0 : Below w0.heap.size w0 w) (bM : Boxed w Mb 27 (.pointer (some ⟨M, 0, none⟩))) (bA : Boxed w Ab 3 (.int .i64 a)) (hD : ∀ k, D k → w0.heap.size ≤ k ∧ k < c ∧ k ≠ Mb ∧ k ≠ Ab) :
    Gives2 Fence.wide n Tryz.prog 39 #[.pointer (some ⟨Mb, 0, none⟩), .pointer (some ⟨Ab, 0, none⟩)] linkE D (linksR W own size ls a) c w := by
  intro lo J V hV hcV hJ hY hJ0
  subst hcV
  obtain ⟨xs, hxs⟩ : ∃ xs, xs = linksR W own size ls a := ⟨_, rfl⟩
  rw [← hxs] at hY ⊢
  have bM : Boxed V Mb 27 (.pointer (some ⟨M, 0, none⟩)) := (hV.block Mb bM.lt).trans bM
  have bA : Boxed V Ab 3 (.int .i64 a) := (hV.block Ab bA.lt).trans bA
  have hbV := hb0.on hV
  have HI : Hid (∀ Y, Below w0.heap.size w0 Y → ImgP T Y M B Wb Ob p q P W size own ls) := Lib.hid (fun Y hY => h.on hY)
  have hw0 : w0.heap.size ≤ V.heap.size := hbV.size
  clear hV hb0 h
  have bY := Boxed.new V 97 (.func (.yield lo) #[] #[])
  have hb1 := below1 V (.cells #[.func (.yield lo) #[] #[]] 97)
  have bM1 : Boxed _ Mb 27 (.pointer (some ⟨M, 0, none⟩)) := bM.alloc (.cells #[.func (.yield lo) #[] #[]] 97)
  have bA1 : Boxed _ Ab 3 (.int .i64 a) := bA.alloc (.cells #[.func (.yield lo) #[] #[]] 97)
  have cM := bM1.cell
  have cA := bA1.cell
  have hsz1 : (V.alloc (.cells #[.func (.yield lo) #[] #[]] 97)).heap.size = V.heap.size + 1 := World.size_alloc _ _
  have HF := Lib.hid (find_any (HI.out _ (hbV.on hb1)) hW a)
  refine callsIn_of_wp_marks Tryz.func39 rfl trivial ?_ rfl
  simp only [Tryz.ntmps39, List.size_toArray, List.length_cons, List.length_nil, Nat.reduceAdd, Nat.reduceSub, Array.replicate_succ, Array.replicate_zero, List.push_toArray, List.append_toArray, List.nil_append, List.cons_append]
  gi_wp2_with fail
  refine ⟨trivial, fun _ => by omega, (callsIn_wide.2 HF.out).mono ?_⟩
  rintro e w2 ⟨l, cc, s, x, A1, c1, A2, c2, nn, rfl, hf, hb2⟩
  have hbw := hbV.on (hb1.on hb2)
  have HBV := Lib.hid (hb1.on hb2)
  have bY2 : Boxed w2 V.heap.size 97 (.func (.yield lo) #[] #[]) := (hb2.block _ bY.lt).trans bY
  have bM2 : Boxed w2 Mb 27 (.pointer (some ⟨M, 0, none⟩)) := (hb2.block _ bM1.lt).trans bM1
  have bA2 : Boxed w2 Ab 3 (.int .i64 a) := (hb2.block _ bA1.lt).trans bA1
  have hz2 := hb2.size
  rw [hsz1] at hz2
  clear bY bM bA bM1 bA1 cM cA hb1
  by_cases g : findE W own size ls a = 0
  · obtain ⟨ho, hli, hlf⟩ := hf g
    rw [g]
    have HO := Lib.hid ho
    have HL2 := Lib.hid hli
    have HLF := Lib.hid hlf
    have HB2 := Lib.hid hb2
    rw [ho.links] at hxs
    have HX := Lib.hid hxs
    clear hf g ho hli hlf hb2 hxs
    gi_wp2_with fail
    refine ⟨trivial, fun _ => by omega, (slots_in _ x _ _ _ _ _ _).mono ?_⟩
    rintro e w' ⟨rfl, rfl⟩
    have hb3 := (below1 w2 (.cells #[.int .i64 l, .int .i64 cc, .int .i64 s] 32)).on (below1 _ (.cells #[.int .i64 x.fixed, .slice A1 x.refs.length c1, .int .i64 x.record, .slice A2 x.recs.length c2] 64))
    generalize (w2.alloc (.cells #[.int .i64 l, .int .i64 cc, .int .i64 s] 32)).alloc (.cells #[.int .i64 x.fixed, .slice A1 x.refs.length c1, .int .i64 x.record, .slice A2 x.recs.length c2] 64) = w3 at *
    have hb4 := (below1 w3 (.cells #[.int .i64 x.fixed, .slice A1 x.refs.length c1, .int .i64 x.record, .slice A2 x.recs.length c2] 64))
    have hl4 := heap_alloc_new w3 (.cells #[.int .i64 x.fixed, .slice A1 x.refs.length c1, .int .i64 x.record, .slice A2 x.recs.length c2] 64)
    have hz4 : (w3.alloc (.cells #[.int .i64 x.fixed, .slice A1 x.refs.length c1, .int .i64 x.record, .slice A2 x.recs.length c2] 64)).heap.size = w3.heap.size + 1 := World.size_alloc _ _
    generalize w3.alloc (.cells #[.int .i64 x.fixed, .slice A1 x.refs.length c1, .int .i64 x.record, .slice A2 x.recs.length c2] 64) = w4 at *
    have hb5 := below1 w4 (.cells #[.int .i64 cc] 3)
    have hl5 := heap_alloc_new w4 (.cells #[.int .i64 cc] 3)
    have hz5 : (w4.alloc (.cells #[.int .i64 cc] 3)).heap.size = w4.heap.size + 1 := World.size_alloc _ _
    rw [hz4] at hl5
    generalize w4.alloc (.cells #[.int .i64 cc] 3) = w5 at *
    have hbb := hb3.on (hb4.on hb5)
    have hz3 := hb3.size
    have hSl : SlM w5 w3.heap.size (w3.heap.size + 1) x A1 c1 A2 c2 cc := ⟨(hb5.block _ (block_lt hl4)).trans hl4, hl5, HL2.out.on hbb⟩
    have bY5 : Boxed w5 V.heap.size 97 (.func (.yield lo) #[] #[]) := (hbb.block _ bY2.lt).trans bY2
    have bM5 : Boxed w5 Mb 27 (.pointer (some ⟨M, 0, none⟩)) := (hbb.block _ bM2.lt).trans bM2
    have bA5 : Boxed w5 Ab 3 (.int .i64 a) := (hbb.block _ bA2.lt).trans bA2
    have hbw5 := hbw.on hbb
    have hbv5 := HBV.out.on hbb
    have hMl := bM2.lt
    have hAl := bA2.lt
    have hsz5 : w5.heap.size = w3.heap.size + 2 := by omega
    have hYl : V.heap.size < w2.heap.size := by omega
    clear hb3 hb4 hb5 hl4 hl5 bY2 bM2 bA2 HL2 hbw HBV hbb
    gi_wp2_with fail
    refine range_all1 (m := 0) rfl (by omega) (gf := 68) (lb := #[.pointer (some ⟨w3.heap.size, 0, none⟩), .pointer (some ⟨w3.heap.size + 1, 0, none⟩)]) rfl trivial (enters_of Tryz.func68 (by kernel_rfl) rfl)
      (orUp D (w5.heap.size + 2)) (fun k e => e.elim (fun e => by have := hD k e; omega) (fun e => by omega))
      (slots_gives (n - 1) (by omega) _ _ _ _ cc hSl (fun e => e.elim (fun e => e.elim (fun e => by have := hD _ e; omega) (fun e => by omega)) (fun e => by omega)) (fun e => e.elim (fun e => e.elim (fun e => by have := hD _ e; omega) (fun e => by omega)) (fun e => by omega))
        (fun b o hb e => by
          have h1 := hSl.is.lt hb
          have h2 := HLF.out b o (hb.elim (fun e => .inl e.1) (fun e => .inr e.1))
          rw [hsz1] at h2
          exact e.elim (fun e => e.elim (fun e => by have := hD _ e; omega) (fun e => by omega)) (fun e => by omega)))
      (fun _ => rfl)
      (fun s X => J (w5.heap.size + 2) (s.map (linkOf W own size ls a)) X ∧ Mod (fun k => D k ∨ w5.heap.size ≤ k) w5 X)
      (fun s A B ⟨hj, hm⟩ hab => ⟨hJ _ _ _ _ (by omega) hj (hab.mono (fun k _ e => by have e' : w5.heap.size ≤ k ∧ k < w5.heap.size + 2 + 0 := e; show V.heap.size ≤ k ∧ k < w5.heap.size + 2; omega)), hm.trans (hab.mono (fun k _ e => .inr e.1))⟩)
      ⟨hJ0 _ _ (by omega) hbv5, Mod.refl _ _⟩
      (fun s y X => J (w5.heap.size + 2) (s.map (linkOf W own size ls a)) X ∧ Mod (fun k => D k ∨ w5.heap.size ≤ k) w5 X)
      (fun s y A B ⟨hj, hm⟩ hab => ⟨hJ _ _ _ _ (by omega) hj (hab.mono (fun k _ e => by have e' : k = w5.heap.size + 1 := e; show V.heap.size ≤ k ∧ k < w5.heap.size + 2; omega)), hm.trans (hab.mono (fun k _ e => .inr (by have e' : k = w5.heap.size + 1 := e; omega)))⟩)
      ?a1 ?assign ?body ?done
    case assign =>
      intro lp pre y X K hsz hi hpre hK
      gi_wp2
      exact hK _ (Mod.refl _ _) hi
    case done =>
      rintro X ⟨hj, hm⟩ hK hsz
      gi_wp2
      refine ⟨by simp, .inl ⟨_, _, rfl, run_takeDeferred hK, ?_⟩⟩
      refine ⟨_, results_none rfl _ _ _, ⟨_, rfl⟩, w5.heap.size + 2, by omega, ?_⟩
      rw [HX.out]
      exact hJ _ _ _ _ (by omega) hj (Mod.putObj _ _ _ _ (by show V.heap.size ≤ w5.heap.size ∧ w5.heap.size < w5.heap.size + 2; omega))
    case body =>
      rintro lp pre y X hsz ⟨hj, hm⟩ hpre
      have hnl : ∀ k, k < w5.heap.size → ¬ D k → ¬ (D k ∨ w5.heap.size ≤ k) := fun k h1 h2 e => e.elim h2 (fun e => by omega)
      have bYX : Boxed X V.heap.size 97 (.func (.yield lo) #[] #[]) := hm.keeps bY5 (hnl _ (by omega) (fun e => by have := hD _ e; omega))
      have bMX : Boxed X Mb 27 (.pointer (some ⟨M, 0, none⟩)) := hm.keeps bM5 (hnl _ (by omega) (fun e => by have := hD _ e; omega))
      have bAX : Boxed X Ab 3 (.int .i64 a) := hm.keeps bA5 (hnl _ (by omega) (fun e => by have := hD _ e; omega))
      have cM := bMX.cell
      have cA := bAX.cell
      have hbX : Below w0.heap.size w0 X := hm.below hbw5 (fun k e => e.elim (fun e => (hD k e).1) (fun e => by omega)) hbw5.size
      have HFO := Lib.hid (follow_any (HI.out X hbX) hW a y)
      have hpp := map_pre (f := linkOf W own size ls a) hpre
      have hsn : (pre ++ [y]).map (linkOf W own size ls a) = pre.map (linkOf W own size ls a) ++ [linkOf W own size ls a y] := by simp
      gi_wp2_with fail
      refine ⟨trivial, fun _ => by omega, ((callsIn_wide.2 HFO.out).inRound lp).mono ?_⟩
      rintro e X1 ⟨rfl, hb⟩
      have hfy : linkOf W own size ls a y = (y, (followR W own size ls a y).1, (followR W own size ls a y).2.1, (followR W own size ls a y).2.2.1) := rfl
      rw [hfy] at hpp hsn
      generalize followR W own size ls a y = fr at *
      obtain ⟨f1, f2, f3, f4⟩ := fr
      have hbb := hb.on (below1 X1 (.cells #[.int .i64 f1, .int .i64 f2, .int .i64 f3] 37))
      have bY3 : Boxed _ V.heap.size 97 (.func (.yield lo) #[] #[]) := (hbb.block _ bYX.lt).trans bYX
      have cY := bY3.cell
      have hlk := heap_alloc_new X1 (.cells #[.int .i64 f1, .int .i64 f2, .int .i64 f3] 37)
      have k0 := (blk_cells hlk 0).trans rfl
      have k1 := (blk_cells hlk 1).trans rfl
      have k2 := (blk_cells hlk 2).trans rfl
      have hyl := bYX.lt
      have hszb := hbb.size
      have hj2 := hJ _ _ _ _ (by omega) hj (Mod.of_below hbb)
      have hmx := (Mod.of_below (S := orUp D (w5.heap.size + 2)) hbb)
      obtain ⟨fn, tmps, assign, body, hy, hR⟩ := yield_wide (n - 1 - 1 - 1) (hY _ _ (y, f1, f2, f3) _ (by omega) (Nat.le_trans hsz hszb) hj2 (by rw [HX.out]; exact hpp))
      clear hlk cM cA bMX bAX hfy hpp hY hj2 hbb hszb hJ0
      unfold linkE at hy
      dsimp only at hy
      have hd : 1 ≤ n - 1 - 1 := by omega
      gi_wp2_with (refine hR.mono ?_; rintro e W3 ⟨rfl, hJ3, hk3⟩)
      refine ⟨hmx.trans hk3, ?_⟩
      rw [hsn]
      exact ⟨hJ3, hm.trans ((hmx.trans hk3).mono (fun k _ e => e.elim .inl (fun e => .inr (by omega))))⟩
  · rw [links_none g] at hxs
    have g' : (findE W own size ls a == 0) = false := by simpa using g
    generalize findE W own size ls a = fe at *
    have hJf := hJ0 V.heap.size
    have HX := Lib.hid hxs
    clear hf g hxs
    gi_wp2_with fail
    refine ⟨_, results_none rfl _ _ _, ⟨_, rfl⟩, V.heap.size, Nat.le_refl _, ?_⟩
    rw [HX.out]
    exact hJf _ (Nat.le_refl _) (HBV.out.on ((below1 w2 _).on (below1 _ _)))
end Go.Proofs.YtfflacggaebonaaGreatDoor
end
section
namespace Go.Proofs.YtfflacggaebonaaGreatDoor
open Go.RowKit
set_option linter.unusedVariables false
set_option linter.unusedSimpArgs false
variable {w w' base : World} {D G Wg Og size : Nat} {W W' own own' : List Int} {T : Nat → Prop} {v : Value} {dl : List LayR} {ls : List Lay}
/-- The places that are references, of what is at an address. -/
def slotsR (W own : List Int) (size : Nat) (ls : List Lay) (a : Int) : List Int := if findE W own size ls a = 0 then (layI ls (hdI W a).1).told (hdI W a).2.1 else []
theorem ObjAt.slots {a l c s n : Int} {x : Lay} (h : ObjAt W own size ls a l c s x n) : slotsR W own size ls a = x.told c := by
  have e : hdI W a = (l, c, s, 0) := h.dec
  unfold slotsR
  rw [if_pos h.find, e]
  dsimp only
  rw [h.lay]
def DSl (l : List Int) (w : World) (e : Ending) (w' : World) : Prop := ∃ v, e = .returned v ∧ IntsY w' v l ∧ Below w.heap.size w w'
set_option maxRecDepth 100000 in
set_option maxHeartbeats 1000000 in
theorem dslots_any (h : ImgD T base w D G Wg Og v W size own dl) (hW : Wds W) (a : Int) (hl : ls = dl.map LayR.x) : Calls Tryz.prog 14 #[.pointer (some ⟨D, 0, none⟩), .int .i64 a] w (DSl (slotsR W own size ls a) w) := by
  have HA := Lib.hid (dat_any h hW a)
  rw [← hl] at HA
  have HI := Lib.hid h
  clear h
  by_cases g : findE W own size ls a = 0
  · obtain ⟨l, c, s, x, n, ho⟩ := obj_of hW g
    rw [ho.atR, g] at HA
    have HP := Lib.hid ho.slots
    generalize slotsR W own size ls a = sr at *
    obtain ⟨n0, n1, -⟩ := ho.n0
    have hl1 := ho.l1
    have hl64 := (mayB_iff.1 ho.may).2.1
    have hll := ho.ll
    have hlay := ho.lay
    have hsz := ho.sz
    clear g ho
    obtain ⟨Au, cu, hu, hcu, hsl⟩ := own_slice layREnc layR0 (fun _ => rfl) HI.out.row
    have hln : ls.length = dl.length := by rw [hl, List.length_map]
    obtain ⟨m, rfl⟩ : ∃ m : Nat, l = (m : Int) + 1 := ⟨(l - 1).toNat, by omega⟩
    have gl : m < dl.length := by omega
    have HGL := Lib.hid gl
    obtain ⟨b, o, hA, hc⟩ := hsl m gl
    have hmem : dl.getD m layR0 ∈ dl := by
      have : dl.getD m layR0 = dl[m] := by unfold List.getD; rw [List.getElem?_eq_getElem gl]; rfl
      rw [this]; exact List.getElem_mem gl
    have HLY := Lib.hid ((HI.out.arg _ hmem).on HI.out.below)
    have hx := layI_get (dl := dl) (l := (m : Int) + 1)
    rw [show ((m : Int) + 1 - 1).toNat = m by omega, ← hl, hlay] at hx
    have c1 := HI.out.c1
    generalize dl.getD m layR0 = r at *
    have HX : Hid (∀ Y, Below w.heap.size w Y → Calls Tryz.prog 44 #[.agg #[.int .i64 r.x.fixed, .slice r.A1 r.x.refs.length r.c1, .int .i64 r.x.record, .slice r.A2 r.x.recs.length r.c2], .int .i64 c] Y fun e w' => ∃ v, e = .returned v ∧ IntsY w' v (x.told c) ∧ Below Y.heap.size Y w') := Lib.hid (fun Y hY => by
      rw [← hx]
      have h1 : (r.x.size c).2 = 0 := by rw [hx, hsz]
      have h2 := refslots_any r.x c r.A1 r.c1 r.A2 r.c2 Y (HLY.out.on hY) h1
      rw [← Lay.told_upTo h1] at h2
      exact h2)
    have d0 := hc 0 _ rfl
    have e1 := hc 1 _ rfl
    have e2 := hc 2 _ rfl
    have e3 := hc 3 _ rfl
    rw [Nat.add_zero] at d0
    subst hA
    subst hu
    have wm : IntKind.i64.wrap (m : Int) = m := by rw [IntKind.wrap_i64]; omega
    have hD := hcu
    clear hx hsz hlay hc hmem hsl hll hln hl1 gl
    generalize x.told c = tc at *
    go_enter Tryz.func14, Tryz.ntmps14
    go_wp2_with fail
    refine HA.out.mono ?_
    rintro e w2 ⟨rfl, hb2⟩
    have hb3 := hb2.on (below1 w2 (.cells #[.int .i64 ((m : Int) + 1), .int .i64 c, .int .i64 s] 32))
    have hn3 := heap_alloc_new w2 (.cells #[.int .i64 ((m : Int) + 1), .int .i64 c, .int .i64 s] 32)
    have HB3 := Lib.hid hb3
    have f0 := cell_on hb3 d0
    have f1 := cell_on hb3 e1
    have f2 := cell_on hb3 e2
    have f3 := cell_on hb3 e3
    have f4 := cell_on hb3 c1
    have k0 := (blk_cells hn3 0).trans rfl
    have k1 := (blk_cells hn3 1).trans rfl
    clear hb2 hb3 d0 e1 e2 e3 c1
    go_wp2_with fail
    generalize w2.alloc (.cells #[.int .i64 ((m : Int) + 1), .int .i64 c, .int .i64 s] 32) = W3 at *
    generalize w2.heap.size = nb at *
    have hgl : m < dl.length := by have := HGL.out; omega
    go_region_law (go_simp; go_at_call 44; refine (HX.out _ (HB3.out.on (below_drewN (Below.refl _ W3) 1))).mono ?_; rintro e w4 ⟨vr, rfl, hir, hb4⟩)
    all_goals
      have HB4 := Lib.hid ((HB3.out.on (below_drewN (Below.refl _ W3) 1)).on hb4)
      clear hb4
      go_wp2
      go_ret
      exact ⟨vr, rfl, by rw [HP.out]; exact hir, HB4.out⟩
  · have HP : Hid (slotsR W own size ls a = []) := Lib.hid (by unfold slotsR; rw [if_neg g])
    rw [atR_none g] at HA
    generalize slotsR W own size ls a = sr at *
    generalize findE W own size ls a = fe at *
    have g' : (fe == 0) = false := by simpa using g
    go_enter Tryz.func14, Tryz.ntmps14
    go_wp2_with fail
    refine HA.out.mono ?_
    rintro e w2 ⟨rfl, hb2⟩
    have HB2 := Lib.hid (hb2.on (below1 w2 (.cells #[.int .i64 0, .int .i64 0, .int .i64 0] 32)))
    clear hb2
    go_wp2
    go_ret
    exact ⟨_, rfl, by rw [HP.out]; exact ⟨none, 0, rfl, Nat.le_refl _, by simp, fun i hi => absurd hi (Nat.not_lt_zero _)⟩, HB2.out⟩
end Go.Proofs.YtfflacggaebonaaGreatDoor
end
section
namespace Go.Proofs.YtfflacggaebonaaGreatDoor
open Go.RowKit Go.Shelf
set_option linter.unusedVariables false
set_option linter.unusedSimpArgs false
section
variable {W0 X X' : World} {pb r n : Nat} {v u : Value} {xs : List Value} {S : Nat → Prop}
theorem links_le (W own : List Int) (size : Nat) (ls : List Lay) (a : Int) : (linksR W own size ls a).length ≤ 8192 := by
  unfold linksR
  split
  · rw [List.length_map]; exact Lay.told_le _ _
  · simp
theorem links_mem {W own : List Int} {size : Nat} {ls : List Lay} {a : Int} {x : Int × Int × Int × Int} (h : x ∈ linksR W own size ls a) : x = linkOf W own size ls a x.1 := by
  unfold linksR at h
  split at h
  · obtain ⟨y, -, rfl⟩ := List.mem_map.1 h
    rfl
  · cases h
theorem links_places (W own : List Int) (size : Nat) (ls : List Lay) (a : Int) : (linksR W own size ls a).map Prod.fst = slotsR W own size ls a := by
  unfold linksR slotsR
  split
  · rw [List.map_map]
    exact (List.map_congr_left (fun y _ => rfl)).trans (List.map_id _)
  · rfl
def plC (x : Int × Int × Int × Int) : List Value := [.int .i64 x.1]
theorem plC_map (s : List (Int × Int × Int × Int)) : s.flatMap plC = (s.map Prod.fst).flatMap encI := by
  induction s with
  | nil => rfl
  | cons x s ih => simp only [List.flatMap_cons, List.map_cons, ih]; rfl
structure L1 (W0 : World) (pb r : Nat) (v u : Value) (n : Nat) (xs : List Value) (X : World) : Prop where
  b : Boxed X pb 42 v
  row : X.ownsRow r 3 1 u n xs
  below : Below W0.heap.size W0 X
  l0 : W0.heap.size ≤ pb
  l1 : pb < r
theorem L1.mod (h : L1 W0 pb r v u n xs X) (hm : Mod S X X') (h1 : ¬ S pb) (h3 : ∀ k, S k → W0.heap.size ≤ k ∧ k < r) : L1 W0 pb r v u n xs X' :=
  { h with b := hm.keeps h.b h1, row := own_mod h.row hm (fun k e g => by have := (h.row.lt k e).1; have := h3 k g; omega), below := hm.below h.below (fun k e => (h3 k e).1) h.below.size }
theorem L1.on (h : L1 W0 pb r v u n xs X) (hb : Below X.heap.size X X') : L1 W0 pb r v u n xs X' := h.mod (S := fun _ => False) (.of_below hb) (fun x => x) (fun _ x => x.elim)
theorem L1.app {u' : Value} {n' : Nat} {xs' : List Value} (h : L1 W0 pb r v u n xs X) (hg : X.grownBy X' u.ownBlock) (hr : X'.ownsRow r 3 1 u' n' xs') : L1 W0 pb r v u' n' xs' X' :=
  { h with
    b := h.b.kept hg (fun e => by have := (h.row.lt _ e.symm).1; have := h.l1; omega)
    row := hr
    below := h.below.grown hg h.below.size (fun k e => by have := (h.row.lt k e).1; have := h.l0; have := h.l1; omega) }
theorem L1.set (h : L1 W0 pb r v u n xs X) (v' : Value) : L1 W0 pb r v' u n xs (X.setCell ⟨pb, 0, none⟩ v') :=
  { h with
    b := h.b.set v'
    row := h.row.kept (grownBy_setCell' X pb v') (.inr (fun e => by have := (h.row.lt _ e).1; have := h.l1; omega))
    below := h.below.setCell (p := ⟨pb, 0, none⟩) h.l0 v' }
theorem L1.up (h : L1 W0 pb r v u n xs X) (hg : X.grownBy X' u.ownBlock) : Mod (orUp (fun k => k = pb) r) X X' :=
  ⟨hg.os, hg.tape, hg.output, hg.size, fun k hk hn => hg.block k hk (fun e => hn (.inr (h.row.lt _ e.symm).1))⟩
end
section
variable {F : Fence} {n : Nat} {P : Program} {fn : Func} {tmps : Array Value} {R : Ending → World → Prop}
/-- A mark that a loop over an iterator leaves behind. -/
def mark (r : Nat) : Deferred := { target := .collected r, args := #[] }
/-- Marks that are there, each once, from a block on; nothing is deferred at them. -/
def Marks (n0 : Nat) (rs : List Nat) (w : World) : Prop := rs.Nodup ∧ ∀ r ∈ rs, n0 ≤ r ∧ w.heap[r]? = some (.deferred (some []))
theorem Marks.on {n0 : Nat} {rs : List Nat} {w w' : World} (h : Marks n0 rs w) (hb : Below w.heap.size w w') : Marks n0 rs w' := ⟨h.1, fun r hr => ⟨(h.2 r hr).1, (hb.block _ (block_lt (h.2 r hr).2)).trans (h.2 r hr).2⟩⟩
theorem Marks.mod {n0 : Nat} {rs : List Nat} {w w' : World} {S : Nat → Prop} (h : Marks n0 rs w) (hm : Mod S w w') (hS : ∀ k, k < w.heap.size → S k → w.heap[k]? ≠ some (.deferred (some []))) : Marks n0 rs w' :=
  ⟨h.1, fun r hr => ⟨(h.2 r hr).1, hm.keeps (h.2 r hr).2 (fun e => hS r (block_lt (h.2 r hr).2) e (h.2 r hr).2)⟩⟩
theorem Marks.cons {n0 k : Nat} {rs : List Nat} {w : World} (h : Marks n0 rs w) (h1 : n0 ≤ k) (h2 : w.heap[k]? = some (.deferred (some []))) (h3 : k ∉ rs) : Marks n0 (k :: rs) w :=
  ⟨List.nodup_cons.2 ⟨h3, h.1⟩, fun r hr => by rcases List.mem_cons.1 hr with rfl | hr; exact ⟨h1, h2⟩; exact h.2 r hr⟩
theorem leaves_marks {n0 : Nat} : ∀ (rs : List Nat) (w : World), Marks n0 rs w → (∀ w', Mod (fun k => n0 ≤ k) w w' → (∀ k, k ∉ rs → w'.heap[k]? = w.heap[k]?) → LeavesInM F n P fn tmps R [] .returning w') → LeavesInM F n P fn tmps R (rs.map mark) .returning w
  | [], w, _, h => h w (Mod.refl _ _) (fun _ _ => rfl)
  | r :: rs, w, hm, h => by
    obtain ⟨h1, h2⟩ := List.nodup_cons.1 hm.1
    have hr := hm.2 r (List.mem_cons_self ..)
    have hmo := Mod.putObj (fun k => n0 ≤ k) w r (.deferred none) hr.1
    refine ⟨by simp, .inl ⟨r, _, rfl, run_takeDeferred hr.2, leaves_marks rs _ ⟨h2, fun k hk => ?_⟩ (fun w' hw' ho => h w' (hmo.trans hw') (fun k hk => ?_))⟩⟩
    · have hk' := hm.2 k (List.mem_cons_of_mem _ hk)
      exact ⟨hk'.1, (World.putObj_heap_other (fun e => by subst e; exact h1 hk)).trans hk'.2⟩
    · exact (ho k (fun e => hk (List.mem_cons_of_mem _ e))).trans (World.putObj_heap_other (fun e => hk (by rw [e]; exact List.mem_cons_self ..)))
end
theorem same_true {w : World} {v1 v2 : Value} {l : List Int} (h1 : IntsY w v1 l) (h2 : IntsY w v2 l) : Calls Tryz.prog 13 #[v1, v2] w fun e w' => e = .returned (.bool true) ∧ Below w.heap.size w w' := by
  have := sameY_any h1 h2
  simpa using this
end Go.Proofs.YtfflacggaebonaaGreatDoor
end
section
namespace Go.Proofs.YtfflacggaebonaaGreatDoor
open Go.RowKit
set_option linter.unusedVariables false
section
variable {P : Program} {ops : Array Oper} {md : Region.Mode} {w : World} {l0 n : Nat} {Q : Exit → Act → World → Prop}
def noDefer (o : Oper) : Bool := match o.op with
  | .defer _ => false
  | _ => true
theorem noDefer_spec {o : Oper} (h : noDefer o = true) : ∀ c, o.op ≠ .defer c := fun c e => by
  unfold noDefer at h
  rw [e] at h
  cases h
/-- It goes on; no panic. -/
def calmQ (Q : Exit → Act → World → Prop) : Exit → Act → World → Prop
  | .normal, a, w => Q .normal a w
  | _, _, _ => False
theorem wpOpIn_of_wpOp {i : Nat} {a : Act} {K K' : Act → World → Prop} (hnd : ops.all noDefer = true) (h : ∀ a w, K a w → K' a w) (hh : wpOp P ops (calmQ Q) i K a w) : wpOpIn (Fence.wide.inRound l0) n P ops Q i K' a w := by
  unfold wpOp at hh
  unfold wpOpIn
  split
  · rename_i ho; simp only [ho] at hh; exact h _ _ hh
  · rename_i o ho
    simp only [ho] at hh
    have hd : ∀ c, o.op ≠ .defer c := noDefer_spec (Array.all_eq_true'.1 hnd o (Array.mem_of_getElem? ho))
    split
    · rename_i hw
      simp only [hw, if_true] at hh
      refine ⟨fun _ _ => trivial, ?_⟩
      rw [show (Fence.wide.inRound l0).round = some l0 from rfl, Oper.semAt_some l0 _ _ hd]
      rcases hh with hh | ⟨_, _, _, hh⟩
      · unfold Oper.wp at hh
        generalize (execOp a.eval o).run P w = r at *
        cases r with
        | ok x w' =>
          cases x <;> simp only [Oper.upon] at hh <;> simp only [Oper.uponIn]
          case value v => exact h _ _ hh
          case skip => exact h _ _ hh
          case defer d => exact h _ _ hh
          case enter f args =>
            refine ⟨fun e => (by cases e), ((callsIn_wide.2 hh).inRound l0).mono ?_⟩
            intro e w'' he
            cases e with
            | returned v => exact h _ _ he
            | panicked c => exact he.elim
            | outgrown => obtain ⟨_, _, he⟩ := he; exact he.elim
          case row row args => exact ⟨fun e => (by cases e), fun c cs _ => let ⟨v, w', r, s⟩ := hh c cs; ⟨v, w', h _ _ r, stepsIn_wide.2 s⟩⟩
        | halt x w' => cases x <;> simp only [Oper.upon] at hh; exact hh.elim
      · exact hh.elim
    · rename_i hw
      simp only [hw] at hh
      exact ⟨fun _ _ => trivial, h _ _ hh⟩
theorem wpAnyIn_of_wpAny (hnd : ops.all noDefer = true) : ∀ (f : Nat) (listed : Array Bool) (a : Act) (w : World), wpAny P md ops (calmQ Q) f listed a w → wpAnyIn (Fence.wide.inRound l0) n P md ops Q f listed a w
  | 0, listed, a, w, h => h
  | f + 1, listed, a, w, h => ⟨h.1, fun i hi => wpOpIn_of_wpOp hnd (fun a' w' h' => wpAnyIn_of_wpAny hnd f _ a' w' h') (h.2 i hi)⟩
/-- Whatever order is picked; behind each operation i from w to w' stands 'Pr i w w''. -/
def wpAnyP (P : Program) (md : Region.Mode) (ops : Array Oper) (Q : Exit → Act → World → Prop) (Pr : Nat → World → World → Prop) : Nat → Array Bool → Act → World → Prop
  | 0, listed, a, w => Region.ready md ops listed = [] ∧ Q .normal a w
  | fuel + 1, listed, a, w =>
    (Region.ready md ops listed = [] → Q .normal a w) ∧
    ∀ i ∈ Region.ready md ops listed, wpOp P ops Q i (fun a' w' => Pr i w w' ∧ wpAnyP P md ops Q Pr fuel (listed.setIfInBounds i true) a' w') a w
variable {S : World → Prop} {Pr : Nat → World → World → Prop}
theorem wpAny_of_P : ∀ (fuel : Nat) (listed : Array Bool) (a : Act) (w : World), wpAnyP P md ops Q Pr fuel listed a w → wpAny P md ops Q fuel listed a w
  | 0, _, _, _, h => h
  | fuel + 1, _, _, _, h => ⟨h.1, fun i hi => wpOp_mono (fun a' w' h' => wpAny_of_P fuel _ a' w' h'.2) (h.2 i hi)⟩
/-- No edge to i. -/
def noWait (md : Region.Mode) (i : Nat) (o : Oper) : Prop := ∀ e ∈ o.after, Region.binds md e = true → e.on ≠ i
theorem wpAnyP_first {i : Nat} {oi : Oper} {v : Value} (hi : ops[i]? = some oi) (hsel : ∀ (j : Nat) (o : Oper) cs b, ops[j]? = some o → o.op ≠ .select cs b)
    (hQ : ∀ c a w, Q (.panic c) (a.put oi.dst v) w → Q (.panic c) a w) (hPi : ∀ w, Pr i w w) (hPS : ∀ j oj w w', ops[j]? = some oj → noWait md i oj → Pr j w w' → S w → S w') :
    ∀ (fuel : Nat) (listed : Array Bool) (a : Act) (w : World),
      (∀ j oj, ops[j]? = some oj → j ≠ i → listed.getD j true = false → (∀ e ∈ oj.after, Region.binds md e = true → e.on ≠ i) → oi.apart ops oj = true) →
      i ∈ Region.ready md ops listed → YieldsIf P ops S oi v a → S w →
      wpAnyP P md ops Q Pr fuel (listed.setIfInBounds i true) (a.put oi.dst v) w → wpAnyP P md ops Q Pr (fuel + 1) listed a w := by
  intro fuel
  induction fuel with
  | zero =>
    intro listed a w _ hr hy hS H
    refine ⟨fun h => (by rw [h] at hr; cases hr), fun j hj => ?_⟩
    by_cases hji : j = i
    · subst hji; exact hy.wpOp hi hS ⟨hPi w, H⟩
    · have := ready_mono hj hji
      rw [H.1] at this
      cases this
  | succ fuel ih =>
    intro listed a w hfree hr hy hS H
    refine ⟨fun h => (by rw [h] at hr; cases hr), fun j hj => ?_⟩
    by_cases hji : j = i
    · subst hji; exact hy.wpOp hi hS ⟨hPi w, H⟩
    · have h1 := H.2 j (ready_mono hj hji)
      obtain ⟨hjun, oj, hoj, hall⟩ := mem_ready.1 hj
      have hnot : ∀ e ∈ oj.after, Region.binds md e = true → e.on ≠ i := fun e he hb heq => by
        have g1 := hall e he hb
        have g0 := (mem_ready.1 hr).1
        rw [heq] at g1
        rcases Nat.lt_or_ge i listed.size with h' | h'
        · simp [h'] at g0 g1; rw [g0] at g1; cases g1
        · simp [Array.getElem?_eq_none h'] at g1
      have h2 := wpOp_putIf hoj (hfree j oj hoj hji hjun hnot) (fun cs b => hsel i oi cs b hi) (fun cs b => hsel j oj cs b hoj) hQ hy h1
      have hfree' : ∀ k ok, ops[k]? = some ok → k ≠ i → (listed.setIfInBounds j true).getD k true = false →
          (∀ e ∈ ok.after, Region.binds md e = true → e.on ≠ i) → oi.apart ops ok = true := fun k ok hk hki hun hno => by
        refine hfree k ok hk hki ?_ hno
        by_cases hjk : j = k
        · subst hjk; exact hjun
        · rw [getD_set_ne true hjk] at hun; exact hun
      refine wpOp_mono (fun a' w' h3 => ⟨h3.2.1, ih (listed.setIfInBounds j true) a' w' hfree' (ready_mono hr (Ne.symm hji)) h3.1 (hPS j oj w w' hoj hnot h3.2.1 hS) ?_⟩) h2
      rw [Array.setIfInBounds_comm _ _ hji]
      exact h3.2.2
/-- Is there an edge to i, from each operation that does not keep what i reads? -/
def keepsB (md : Region.Mode) (ops : Array Oper) (i : Nat) (late : List Nat) : Bool := late.all fun j => match ops[j]? with
  | some o => o.after.any fun e => Region.binds md e && e.on == i
  | none => true
theorem keepsB_spec {i : Nat} {late : List Nat} (h : keepsB md ops i late = true) {j : Nat} {oj : Oper} (hj : ops[j]? = some oj) (hn : noWait md i oj) : j ∉ late := fun hm => by
  have := List.all_eq_true.1 h j hm
  rw [hj] at this
  obtain ⟨k, hk, e⟩ := Array.any_eq_true.1 this
  simp only [Bool.and_eq_true, beq_iff_eq] at e
  exact hn _ (Array.getElem_mem hk) e.1 e.2
theorem wpAnyP_take {i : Nat} {oi : Oper} {v : Value} {fuel : Nat} {listed : Array Bool} {a : Act} {w : World} (S : World → Prop) (late : List Nat) (hi : ops[i]? = some oi)
    (hs : Region.noSelect ops = true) (hf : Region.free md ops listed i = true) (hr : (Region.ready md ops listed).contains i = true) (hk : keepsB md ops i late = true)
    (hQ : ∀ c a w, Q (.panic c) (a.put oi.dst v) w → Q (.panic c) a w) (hPi : ∀ w, Pr i w w) (hPS : ∀ j w w', j ∉ late → Pr j w w' → S w → S w') (hy : YieldsIf P ops S oi v a) (hS : S w)
    (h : wpAnyP P md ops Q Pr fuel (listed.setIfInBounds i true) (a.put oi.dst v) w) : wpAnyP P md ops Q Pr (fuel + 1) listed a w :=
  wpAnyP_first hi (Region.noSelect_spec hs) hQ hPi (fun j oj w w' hj hn => hPS j w w' (keepsB_spec hk hj hn)) fuel listed a w (Region.free_spec hi hf) (by simpa using hr) hy hS h
/-- Its temporary told ahead: so that the state is laid out behind it. -/
theorem wpAnyP_take2 {i : Nat} {oi : Oper} {v : Value} {fuel : Nat} {listed : Array Bool} {a : Act} {w : World} (dst : Option Tmp) (S : World → Prop) (late : List Nat) (hi : ops[i]? = some oi) (hd : oi.dst = dst)
    (hs : Region.noSelect ops = true) (hf : Region.free md ops listed i = true) (hr : (Region.ready md ops listed).contains i = true) (hk : keepsB md ops i late = true)
    (hQ : ∀ c a w, Q (.panic c) (a.put oi.dst v) w → Q (.panic c) a w) (hPi : ∀ w, Pr i w w) (hPS : ∀ j w w', j ∉ late → Pr j w w' → S w → S w') (hy : YieldsIf P ops S oi v a) (hS : S w)
    (h : wpAnyP P md ops Q Pr fuel (listed.setIfInBounds i true) (a.put dst v) w) : wpAnyP P md ops Q Pr (fuel + 1) listed a w :=
  wpAnyP_take S late hi hs hf hr hk hQ hPi hPS hy hS (hd.symm ▸ h)
theorem wpAnyP_done {listed : Array Bool} {a : Act} {w : World} (hr : Region.ready md ops listed = []) (h : Q .normal a w) :
    ∀ fuel, wpAnyP P md ops Q Pr fuel listed a w
  | 0 => ⟨hr, h⟩
  | _ + 1 => ⟨fun _ => h, by rw [hr]; simp⟩
/-- Those of some that may come up. -/
def ReadyP (P : Program) (md : Region.Mode) (ops : Array Oper) (Q : Exit → Act → World → Prop) (Pr : Nat → World → World → Prop) (fuel : Nat) (listed : Array Bool) (a : Act) (w : World) (rs : List Nat) : Prop :=
  ∀ i ∈ rs, wpOp P ops Q i (fun a' w' => Pr i w w' ∧ wpAnyP P md ops Q Pr fuel (listed.setIfInBounds i true) a' w') a w
theorem ReadyP.nil {fuel : Nat} {listed : Array Bool} {a : Act} {w : World} : ReadyP P md ops Q Pr fuel listed a w [] := fun _ h => by cases h
theorem ReadyP.cons {fuel : Nat} {listed : Array Bool} {a : Act} {w : World} {i : Nat} {o : Oper} {rs : List Nat} (ho : ops[i]? = some o)
    (h : ∀ K : Act → World → Prop, Hid (∀ a' w', Pr i w w' → wpAnyP P md ops Q Pr fuel (listed.setIfInBounds i true) a' w' → K a' w') → if Region.wanted o (yielded ops a.tmps) = true then Oper.wp P o a w K Q else K (a.put o.dst undef) w)
    (hs : ReadyP P md ops Q Pr fuel listed a w rs) : ReadyP P md ops Q Pr fuel listed a w (i :: rs) := fun j hj => by
  rcases List.mem_cons.1 hj with rfl | hj
  · exact wpOp_step ho (fun K hK => h K (Lib.hid fun a' w' h1 h2 => hK a' w' ⟨h1, h2⟩))
  · exact hs j hj
theorem wpAnyP_ready {rs : List Nat} {fuel : Nat} {listed : Array Bool} {a : Act} {w : World} (hr : Region.ready md ops listed = rs) (hne : rs ≠ [])
    (h : ReadyP P md ops Q Pr fuel listed a w rs) : wpAnyP P md ops Q Pr (fuel + 1) listed a w := ⟨fun h0 => absurd (hr ▸ h0) hne, hr ▸ h⟩
/-- A region in a round, by what the plain calculus says of its order. -/
theorem round_pres {id : Nat} {a : Act} {l : List Oper} (Pr : Nat → World → World → Prop) (hm : P.follows .mixedOrders = true) (hnd : l.toArray.all noDefer = true)
    (h : wpAnyP P .any l.toArray (calmQ Q) Pr l.toArray.size (Array.replicate l.toArray.size false) a w.drew) : (Code.region id l.toArray true).wpIn (Fence.wide.inRound l0) n P Q a w :=
  wpIn_region_any hm (wpAnyIn_of_wpAny hnd _ _ _ _ (wpAny_of_P _ _ _ _ h))
/-- A region of its own. -/
theorem region_pres {id : Nat} {a : Act} {l : List Oper} (Pr : Nat → World → World → Prop) (hm : P.follows .mixedOrders = true)
    (h : wpAnyP P .any l.toArray Q Pr l.toArray.size (Array.replicate l.toArray.size false) a w.drew) : (Code.region id l.toArray true).wp P Q a w :=
  wp_region_any hm (wpAny_of_P _ _ _ _ h)
end
end Go.Proofs.YtfflacggaebonaaGreatDoor
end
section
namespace Go.Proofs.YtfflacggaebonaaGreatDoor
open Go.RowKit Go.Shelf
set_option linter.unusedVariables false
set_option linter.unusedSimpArgs false
attribute [local go_sem] Oper.semAt_some
variable {w w' base : World} {M B Wb Ob p q P D G Wg Og size : Nat} {W W' own : List Int} {u : Value} {dl : List LayR}
/-- Both images in the midst of a law. -/
structure AJ (base w : World) (M B Wb Ob p q P D G Wg Og : Nat) (u : Value) (W : List Int) (dl : List LayR) : Prop where
  j : ImgJ base w M B Wb Ob p q P D G Wg Og u W dl
  wd : Wds W
  len : W.length = 48
theorem AJ.on (h : AJ base w M B Wb Ob p q P D G Wg Og u W dl) (hb : Below w.heap.size w w') : AJ base w' M B Wb Ob p q P D G Wg Og u W dl := { h with j := h.j.on hb }
theorem a12_cells2 {A : Option Addr} {al : List A12} (h : SliceOf w A 10 a12Enc a120 al) (k : Nat) (hk : k < al.length) : ∃ b o, A = some ⟨b, o, none⟩ ∧ ∀ j u, (a12Enc (al.getD k a120))[j]? = some u → w.cell? ⟨b, o + k * 10 + j, none⟩ = some u := h k hk
theorem AJ.lt (h : AJ base w M B Wb Ob p q P D G Wg Og u W dl) : ∀ k, Six Wb Ob p q Wg Og k → k < w.heap.size := fun k e => by
  rcases e with e | e | e
  · exact (ImgJ.is h.j h.wd h.len).lt _ e
  · rw [e]; exact block_lt h.j.im.rf.body
  · rw [e]; exact block_lt h.j.im.rf.owners
set_option maxRecDepth 100000 in
set_option maxHeartbeats 4000000 in
theorem iacts_walk (A0 : Option Addr) (rl : List LayR) (cap0 : Nat) (A1 : Option Addr) (al : List A12) (cap1 : Nat) (hc0 : rl.length ≤ cap0) (hm0 : rl.length ≤ maxLen) (hs0 : SliceOf w A0 4 layREnc layR0 rl) (hg0 : ∀ r ∈ rl, LayIs w r.x r.A1 r.c1 r.A2 r.c2) (hc1 : al.length ≤ cap1) (hs1 : SliceOf w A1 10 a12Enc a120 al) (hg1 : ∀ a ∈ al, good12 a) (hT : Tab w) :
    Calls Tryz.prog 3 #[.slice A0 rl.length cap0, .slice A1 al.length cap1] w fun e w' => e = .returned (.bool true) ∧ Below w.heap.size w w' := by
  have h0 : 0 < w.heap.size := lt_of_cell (hT 0 (by decide))
  have HAL : Hid (∀ w1, Below w.heap.size w w1 → Calls Tryz.prog 4 #[] w1 fun e w' => e = .returned (.bool true) ∧ Below w1.heap.size w1 w') := Lib.hid (fun w1 hb => alive12_any w1 (hT.below hb h0))
  have HTB : Hid (∀ w1, Below w.heap.size w w1 → Tab w1) := Lib.hid (fun w1 hb => hT.below hb h0)
  have HGR : Hid (∀ w1, Below w.heap.size w w1 → Calls Tryz.prog 5 #[.slice A0 rl.length cap0] w1 fun e w' => e = .returned (.bool (rl.any bigR)) ∧ Below w1.heap.size w1 w') := Lib.hid (fun w1 hb => great12_any A0 rl cap0 w1 (hs0.on hb) (by omega))
  have HMD : Hid (∀ w1, Below w.heap.size w w1 → Calls Tryz.prog 6 #[.slice A0 rl.length cap0] w1 (MadeI w1 rl)) := Lib.hid (fun w1 hb => imade_any A0 rl cap0 w1 (hs0.on hb) (fun r hr => (hg0 r hr).on hb) hc0 hm0 (hT.below hb h0))
  have HSA := Lib.hid hs1
  have HGA := Lib.hid hg1
  have HC1 := Lib.hid hc1
  clear hT hs0 hg0 hs1 hg1 h0 hc1 hc0 hm0
  refine (callsIn_wide (n := 12)).1 ?_
  refine callsIn_of_wp_marks Tryz.func3 rfl trivial ?_ rfl
  simp only [Tryz.ntmps3, List.size_toArray, List.length_cons, List.length_nil, Nat.reduceAdd, Nat.reduceSub, Array.replicate_succ, Array.replicate_zero, List.push_toArray, List.append_toArray, List.nil_append, List.cons_append]
  refine wpIn_wide.2 ?_
  have hb0 := below1 w (.cells #[.bool false] 4)
  have br0 := Boxed.new w 4 (.bool false)
  have hrb : w.heap.size < (w.alloc (.cells #[.bool false] 4)).heap.size := by rw [World.size_alloc]; omega
  have HA0 := Lib.hid (HAL.out _ hb0)
  generalize hgg : rl.any bigR = gg at *
  clear hgg
  go_wp2_with fail
  generalize w.alloc (.cells #[.bool false] 4) = w00 at *
  refine HA0.out.mono ?_
  rintro e w1 ⟨rfl, hb1⟩
  have HB1 := Lib.hid (hb0.on hb1)
  have br1 : Boxed w1 w.heap.size 4 (.bool false) := (hb1.block _ br0.lt).trans br0
  have HG1 := Lib.hid (HGR.out _ HB1.out)
  clear hb1 HA0 HGR hb0 br0
  by_cases gl : gg = true ∨ 60 < al.length
  · cases gg with
    | true =>
      go_wp2_with fail
      refine HG1.out.mono ?_
      rintro e w2 ⟨rfl, hb2⟩
      have HB2 := Lib.hid (HB1.out.on hb2)
      have HA2 := Lib.hid (HAL.out _ HB2.out)
      have br2 : Boxed w2 w.heap.size 4 (.bool false) := (hb2.block _ br1.lt).trans br1
      clear hb2 gl
      go_wp2_with fail
      refine HA2.out.mono ?_
      rintro e w3 ⟨rfl, hb3⟩
      have HB3 := Lib.hid (HB2.out.on hb3)
      have br3 : Boxed w3 w.heap.size 4 (.bool false) := (hb3.block _ br2.lt).trans br2
      have q1 := br3.cell
      have q2 := br3.frozen
      clear hb3
      go_wp2
      have hc := (br3.set (.bool true)).cell
      refine ⟨_, (by rw [results_cell1 rfl]; go_simp), rfl, HB3.out.setCell (p := ⟨w.heap.size, 0, none⟩) (Nat.le_refl _) _⟩
    | false =>
      have g2 : 60 < al.length := gl.resolve_left (by decide)
      have d1 : decide ((60 : Int) < (al.length : Int)) = true := decide_eq_true (by omega)
      clear gl
      go_wp2_with fail
      refine HG1.out.mono ?_
      rintro e w2 ⟨rfl, hb2⟩
      have HB2 := Lib.hid (HB1.out.on hb2)
      have HA2 := Lib.hid (HAL.out _ HB2.out)
      have br2 : Boxed w2 w.heap.size 4 (.bool false) := (hb2.block _ br1.lt).trans br1
      clear hb2
      go_wp2_with fail
      refine HA2.out.mono ?_
      rintro e w3 ⟨rfl, hb3⟩
      have HB3 := Lib.hid (HB2.out.on hb3)
      have br3 : Boxed w3 w.heap.size 4 (.bool false) := (hb3.block _ br2.lt).trans br2
      have q1 := br3.cell
      have q2 := br3.frozen
      clear hb3
      go_wp2
      have hc := (br3.set (.bool true)).cell
      refine ⟨_, (by rw [results_cell1 rfl]; go_simp), rfl, HB3.out.setCell (p := ⟨w.heap.size, 0, none⟩) (Nat.le_refl _) _⟩
  · have hgf : gg = false := by cases gg <;> simp_all
    subst hgf
    have g2 : al.length ≤ 60 := by omega
    have d1 : decide ((60 : Int) < (al.length : Int)) = false := decide_eq_false (by omega)
    clear gl
    go_wp2_with fail
    refine HG1.out.mono ?_
    rintro e w2 ⟨rfl, hb2⟩
    have HB2 := Lib.hid (HB1.out.on hb2)
    have HM2 := Lib.hid (HMD.out _ HB2.out)
    have br2 : Boxed w2 w.heap.size 4 (.bool false) := (hb2.block _ br1.lt).trans br1
    clear hb2 HMD HG1 HB1 HAL HTB br1
    go_wp2_with fail
    refine HM2.out.mono ?_
    rintro e w3 ⟨B, Wb, Ob, p, q, P, M, D, G, Wg, Og, u, rfl, hj⟩
    generalize keptR rl = dl at *
    have HJ : Hid (AJ w2 w3 M B Wb Ob p q P D G Wg Og u zerosW dl) := Lib.hid ⟨hj, zerosW_words, zerosW_len⟩
    have HNR : Hid (¬ Six Wb Ob p q Wg Og w.heap.size) := Lib.hid (fun e => by have := hj.im.hB _ e; have := br2.lt; omega)
    have HNM : Hid (¬ Six Wb Ob p q Wg Og w3.heap.size) := Lib.hid (fun e => Nat.lt_irrefl _ (HJ.out.lt _ e))
    have br3 : Boxed w3 w.heap.size 4 (.bool false) := (hj.im.below.block _ br2.lt).trans br2
    have hb4 := below1 w3 (.cells #[.pointer (some ⟨D, 0, none⟩)] 28)
    have bm4 := Boxed.new w3 28 (.pointer (some ⟨D, 0, none⟩))
    have br4 : Boxed _ w.heap.size 4 (.bool false) := (hb4.block _ br3.lt).trans br3
    have HJ4 := Lib.hid (HJ.out.on hb4)
    clear hj HM2 br2 br3 HJ hb4
    go_wp2_with fail
    generalize w3.alloc (.cells #[.pointer (some ⟨D, 0, none⟩)] 28) = w4 at *
    generalize w3.heap.size = mb at *
    have BR4 := Lib.hid br4
    have BM4 := Lib.hid bm4
    clear br4 bm4
    go_wp2_with fail
    go_loopw [47] (fun v47 wr => ∃ (j : Nat) (W' : List Int), j ≤ al.length ∧ v47 = .int .i64 j ∧ Hid (AJ w2 wr M B Wb Ob p q P D G Wg Og u W' dl) ∧ Hid (Boxed wr w.heap.size 4 (.bool false)) ∧ Hid (Boxed wr mb 28 (.pointer (some ⟨D, 0, none⟩)))) (fun v47 _ => al.length - (intOf v47).toNat)
    case atStart => exact ⟨0, zerosW, by omega, rfl, HJ4, BR4, BM4⟩
    case round =>
    obtain ⟨j, WJ, hj, rfl, HJ2, BR2, BM2⟩ := hrel
    clear HJ4 BR4 BM4
    by_cases hlt : j < al.length
    · obtain ⟨b, o, hA, hcx⟩ := a12_cells2 HSA.out j hlt
      subst hA
      have hga := HGA.out (al.getD j a120) (by
        have : al.getD j a120 = al[j] := by simp [List.getD, hlt]
        rw [this]; exact List.getElem_mem hlt)
      generalize al.getD j a120 = x at *
      have hbw := HB2.out.trans ((HJ2.out.j.im.below).mono HB2.out.size)
      have d0 : wr.cell? ⟨b, o + j * 10 + 0, none⟩ = some (.int .i64 x.k) := (hbw.cell (p := ⟨b, o + j * 10 + 0, none⟩) (lt_of_cell (hcx 0 _ rfl))).trans (hcx 0 _ rfl)
      have d1' : wr.cell? ⟨b, o + j * 10 + 1, none⟩ = some (.int .i64 x.a) := (hbw.cell (p := ⟨b, o + j * 10 + 1, none⟩) (lt_of_cell (hcx 1 _ rfl))).trans (hcx 1 _ rfl)
      have d2 : wr.cell? ⟨b, o + j * 10 + 2, none⟩ = some (.int .i64 x.p) := (hbw.cell (p := ⟨b, o + j * 10 + 2, none⟩) (lt_of_cell (hcx 2 _ rfl))).trans (hcx 2 _ rfl)
      have d3 : wr.cell? ⟨b, o + j * 10 + 3, none⟩ = some (.int .i64 x.hl) := (hbw.cell (p := ⟨b, o + j * 10 + 3, none⟩) (lt_of_cell (hcx 3 _ rfl))).trans (hcx 3 _ rfl)
      have d4 : wr.cell? ⟨b, o + j * 10 + 4, none⟩ = some (.int .i64 x.hc) := (hbw.cell (p := ⟨b, o + j * 10 + 4, none⟩) (lt_of_cell (hcx 4 _ rfl))).trans (hcx 4 _ rfl)
      have d5 : wr.cell? ⟨b, o + j * 10 + 5, none⟩ = some (.int .i64 x.hs) := (hbw.cell (p := ⟨b, o + j * 10 + 5, none⟩) (lt_of_cell (hcx 5 _ rfl))).trans (hcx 5 _ rfl)
      have d6 : wr.cell? ⟨b, o + j * 10 + 6, none⟩ = some (.int .u64 x.x) := (hbw.cell (p := ⟨b, o + j * 10 + 6, none⟩) (lt_of_cell (hcx 6 _ rfl))).trans (hcx 6 _ rfl)
      have d7 : wr.cell? ⟨b, o + j * 10 + 7, none⟩ = some (.int .i64 x.lk) := (hbw.cell (p := ⟨b, o + j * 10 + 7, none⟩) (lt_of_cell (hcx 7 _ rfl))).trans (hcx 7 _ rfl)
      have d8 : wr.cell? ⟨b, o + j * 10 + 8, none⟩ = some (.int .i64 x.li) := (hbw.cell (p := ⟨b, o + j * 10 + 8, none⟩) (lt_of_cell (hcx 8 _ rfl))).trans (hcx 8 _ rfl)
      have d9 : wr.cell? ⟨b, o + j * 10 + 9, none⟩ = some (.int .i64 x.lg) := (hbw.cell (p := ⟨b, o + j * 10 + 9, none⟩) (lt_of_cell (hcx 9 _ rfl))).trans (hcx 9 _ rfl)
      rw [Nat.add_zero] at d0
      have hbA := below1 wr (.cells #[.int .i64 x.k, .int .i64 x.a, .int .i64 x.p, .int .i64 x.hl, .int .i64 x.hc, .int .i64 x.hs, .int .u64 x.x, .int .i64 x.lk, .int .i64 x.li, .int .i64 x.lg] 39)
      have hnA := heap_alloc_new wr (.cells #[.int .i64 x.k, .int .i64 x.a, .int .i64 x.p, .int .i64 x.hl, .int .i64 x.hc, .int .i64 x.hs, .int .u64 x.x, .int .i64 x.lk, .int .i64 x.li, .int .i64 x.lg] 39)
      have hmx := BM2.out.cell
      have bmA : Boxed _ mb 28 (.pointer (some ⟨D, 0, none⟩)) := (hbA.block _ BM2.out.lt).trans BM2.out
      have brA : Boxed _ w.heap.size 4 (.bool false) := (hbA.block _ BR2.out.lt).trans BR2.out
      have hmc := bmA.cell
      have HDO := Lib.hid (do_any (HJ2.out.j.on hbA) HJ2.out.wd HJ2.out.len x hga)
      have k0 := (blk_cells hnA 0).trans rfl
      have k1 := (blk_cells hnA 1).trans rfl
      have k2 := (blk_cells hnA 2).trans rfl
      have k3 := (blk_cells hnA 3).trans rfl
      have k4 := (blk_cells hnA 4).trans rfl
      have k5 := (blk_cells hnA 5).trans rfl
      have k6 := (blk_cells hnA 6).trans rfl
      have k7 := (blk_cells hnA 7).trans rfl
      have k8 := (blk_cells hnA 8).trans rfl
      have k9 := (blk_cells hnA 9).trans rfl
      clear hcx hga hbw hnA hbA
      go_wp2_with fail
      generalize wr.alloc (.cells #[.int .i64 x.k, .int .i64 x.a, .int .i64 x.p, .int .i64 x.hl, .int .i64 x.hc, .int .i64 x.hs, .int .u64 x.x, .int .i64 x.lk, .int .i64 x.li, .int .i64 x.lg] 39) = WC at *
      clear d0 d1' d2 d3 d4 d5 d6 d7 d8 d9
      refine HDO.out.mono ?_
      rintro e w5 ⟨rfl, hm5, W', hj5, hw5, hl5⟩
      have BM5 : Hid (Boxed w5 mb 28 (.pointer (some ⟨D, 0, none⟩))) := Lib.hid (hm5.keeps bmA HNM.out)
      have BR5 : Hid (Boxed w5 w.heap.size 4 (.bool false)) := Lib.hid (hm5.keeps brA HNR.out)
      have HJ5 : Hid (AJ w2 w5 M B Wb Ob p q P D G Wg Og u W' dl) := Lib.hid ⟨hj5, hw5, hl5⟩
      clear hm5 hj5 hw5 hl5 HDO HJ2 bmA brA hmc hmx BM2 BR2 k0 k1 k2 k3 k4 k5 k6 k7 k8 k9
      go_wp2
      go_roundw
      case rel => exact ⟨j + 1, W', by omega, by go_num, HJ5, BR5, BM5⟩
      case measure => simp [intOf]; omega
    · clear HSA HGA HC1 hj
      have hmc := BM2.out.cell
      have hdc := HJ2.out.j.im.c0
      have hgc := HJ2.out.j.im.rf.c0
      rw [HJ2.out.len] at hgc
      generalize hwo : wr = wo at *
      clear hwo
      have HAJ : Hid (∀ Y, Below wo.heap.size wo Y → AJ w2 Y M B Wb Ob p q P D G Wg Og u WJ dl) := Lib.hid (fun Y hY => HJ2.out.on hY)
      have HBX : Hid (∀ Y, Below wo.heap.size wo Y → Boxed Y w.heap.size 4 (.bool false) ∧ Boxed Y mb 28 (.pointer (some ⟨D, 0, none⟩))) := Lib.hid (fun Y hY => ⟨(hY.block _ BR2.out.lt).trans BR2.out, (hY.block _ BM2.out.lt).trans BM2.out⟩)
      have HBW : Hid (∀ Y, Below wo.heap.size wo Y → Below w.heap.size w Y) := Lib.hid (fun Y hY => HB2.out.trans ((HJ2.out.j.im.below.on hY).mono HB2.out.size))
      have hlr : w.heap.size < wo.heap.size := BR2.out.lt
      have hlm : mb < wo.heap.size := BM2.out.lt
      have HWD := Lib.hid HJ2.out.wd
      have HLEN := Lib.hid HJ2.out.len
      clear HJ2 BR2 BM2 HB2 HNR HNM
      go_wp2_with fail
      clear hmc hdc hgc
      refine wp_loop_ghost_k (fun k a X => ∃ x0 x1 x2 x3 x8 x9 x10 x11 x12 x13 x14 x15 x16 x17 x18 x19 x20 x21 x22 x23 x24 x25 x26 x27 x28 x29 x30 x31 x32 x33 x34 x35 x36 x37 x38 x39 x40 x41 x42 x43 x44 x45 x46 x47 x48 x49 x50 x51 x52 x53 x54 x55 x56 x57 x58 x59 x60 x61 x62 x63 x66 x67 x68 x69 x70 x71 x72 x73 x74 x75 x76 x77 x78 x79 x80 x81 x82 x83 x84 x85 x86 x87 x88 x89 x90 x91 x92 x93 x94 x95 x96 x97 x98 x99 x100 x101 x102 x103 x104 x105 x106 x107 x108 x109 x110 x111 x112 x113 x114 x115 x116 x117 x118 x119 x120 x121 x122 x123 x124 x125 x126 x127 x128 x129 x130 x131 x132 x133 x134 x135 x136 x137 x138 : Value, ∃ (ds : List Deferred), (∃ (j : Nat) (rs : List Nat), j + k = 48 ∧ x66 = .int .i64 j ∧ ds = rs.map mark ∧ Hid (Below wo.heap.size wo X) ∧ Hid (Marks wo.heap.size rs X)) ∧ a = { tmps := #[x0, x1, x2, x3, .pointer (some ⟨w.heap.size, 0, none⟩), .pointer (some ⟨B, 0, none⟩), .pointer (some ⟨M, 0, none⟩), .pointer (some ⟨mb, 0, none⟩), x8, x9, x10, x11, x12, x13, x14, x15, x16, x17, x18, x19, x20, x21, x22, x23, x24, x25, x26, x27, x28, x29, x30, x31, x32, x33, x34, x35, x36, x37, x38, x39, x40, x41, x42, x43, x44, x45, x46, x47, x48, x49, x50, x51, x52, x53, x54, x55, x56, x57, x58, x59, x60, x61, x62, x63, .slice (some ⟨Wg, 0, none⟩) 48 48, .int .i64 48, x66, x67, x68, x69, x70, x71, x72, x73, x74, x75, x76, x77, x78, x79, x80, x81, x82, x83, x84, x85, x86, x87, x88, x89, x90, x91, x92, x93, x94, x95, x96, x97, x98, x99, x100, x101, x102, x103, x104, x105, x106, x107, x108, x109, x110, x111, x112, x113, x114, x115, x116, x117, x118, x119, x120, x121, x122, x123, x124, x125, x126, x127, x128, x129, x130, x131, x132, x133, x134, x135, x136, x137, x138], defers := ds }) 48 ?_ ?_
      · (repeat apply Exists.intro)
        refine ⟨?_, rfl⟩
        exact ⟨0, [], rfl, rfl, rfl, Lib.hid (Below.refl _ _), Lib.hid ⟨List.nodup_nil, fun r hr => absurd hr (List.not_mem_nil)⟩⟩
      intro gk _ X hinv
      obtain ⟨x0, hinv⟩ := hinv; obtain ⟨x1, hinv⟩ := hinv; obtain ⟨x2, hinv⟩ := hinv; obtain ⟨x3, hinv⟩ := hinv; obtain ⟨x8, hinv⟩ := hinv; obtain ⟨x9, hinv⟩ := hinv; obtain ⟨x10, hinv⟩ := hinv; obtain ⟨x11, hinv⟩ := hinv; obtain ⟨x12, hinv⟩ := hinv; obtain ⟨x13, hinv⟩ := hinv; obtain ⟨x14, hinv⟩ := hinv; obtain ⟨x15, hinv⟩ := hinv
      obtain ⟨x16, hinv⟩ := hinv; obtain ⟨x17, hinv⟩ := hinv; obtain ⟨x18, hinv⟩ := hinv; obtain ⟨x19, hinv⟩ := hinv; obtain ⟨x20, hinv⟩ := hinv; obtain ⟨x21, hinv⟩ := hinv; obtain ⟨x22, hinv⟩ := hinv; obtain ⟨x23, hinv⟩ := hinv; obtain ⟨x24, hinv⟩ := hinv; obtain ⟨x25, hinv⟩ := hinv; obtain ⟨x26, hinv⟩ := hinv; obtain ⟨x27, hinv⟩ := hinv
      obtain ⟨x28, hinv⟩ := hinv; obtain ⟨x29, hinv⟩ := hinv; obtain ⟨x30, hinv⟩ := hinv; obtain ⟨x31, hinv⟩ := hinv; obtain ⟨x32, hinv⟩ := hinv; obtain ⟨x33, hinv⟩ := hinv; obtain ⟨x34, hinv⟩ := hinv; obtain ⟨x35, hinv⟩ := hinv; obtain ⟨x36, hinv⟩ := hinv; obtain ⟨x37, hinv⟩ := hinv; obtain ⟨x38, hinv⟩ := hinv; obtain ⟨x39, hinv⟩ := hinv
      obtain ⟨x40, hinv⟩ := hinv; obtain ⟨x41, hinv⟩ := hinv; obtain ⟨x42, hinv⟩ := hinv; obtain ⟨x43, hinv⟩ := hinv; obtain ⟨x44, hinv⟩ := hinv; obtain ⟨x45, hinv⟩ := hinv; obtain ⟨x46, hinv⟩ := hinv; obtain ⟨x47, hinv⟩ := hinv; obtain ⟨x48, hinv⟩ := hinv; obtain ⟨x49, hinv⟩ := hinv; obtain ⟨x50, hinv⟩ := hinv; obtain ⟨x51, hinv⟩ := hinv
      obtain ⟨x52, hinv⟩ := hinv; obtain ⟨x53, hinv⟩ := hinv; obtain ⟨x54, hinv⟩ := hinv; obtain ⟨x55, hinv⟩ := hinv; obtain ⟨x56, hinv⟩ := hinv; obtain ⟨x57, hinv⟩ := hinv; obtain ⟨x58, hinv⟩ := hinv; obtain ⟨x59, hinv⟩ := hinv; obtain ⟨x60, hinv⟩ := hinv; obtain ⟨x61, hinv⟩ := hinv; obtain ⟨x62, hinv⟩ := hinv; obtain ⟨x63, hinv⟩ := hinv
      obtain ⟨x66, hinv⟩ := hinv; obtain ⟨x67, hinv⟩ := hinv; obtain ⟨x68, hinv⟩ := hinv; obtain ⟨x69, hinv⟩ := hinv; obtain ⟨x70, hinv⟩ := hinv; obtain ⟨x71, hinv⟩ := hinv; obtain ⟨x72, hinv⟩ := hinv; obtain ⟨x73, hinv⟩ := hinv; obtain ⟨x74, hinv⟩ := hinv; obtain ⟨x75, hinv⟩ := hinv; obtain ⟨x76, hinv⟩ := hinv; obtain ⟨x77, hinv⟩ := hinv
      obtain ⟨x78, hinv⟩ := hinv; obtain ⟨x79, hinv⟩ := hinv; obtain ⟨x80, hinv⟩ := hinv; obtain ⟨x81, hinv⟩ := hinv; obtain ⟨x82, hinv⟩ := hinv; obtain ⟨x83, hinv⟩ := hinv; obtain ⟨x84, hinv⟩ := hinv; obtain ⟨x85, hinv⟩ := hinv; obtain ⟨x86, hinv⟩ := hinv; obtain ⟨x87, hinv⟩ := hinv; obtain ⟨x88, hinv⟩ := hinv; obtain ⟨x89, hinv⟩ := hinv
      obtain ⟨x90, hinv⟩ := hinv; obtain ⟨x91, hinv⟩ := hinv; obtain ⟨x92, hinv⟩ := hinv; obtain ⟨x93, hinv⟩ := hinv; obtain ⟨x94, hinv⟩ := hinv; obtain ⟨x95, hinv⟩ := hinv; obtain ⟨x96, hinv⟩ := hinv; obtain ⟨x97, hinv⟩ := hinv; obtain ⟨x98, hinv⟩ := hinv; obtain ⟨x99, hinv⟩ := hinv; obtain ⟨x100, hinv⟩ := hinv; obtain ⟨x101, hinv⟩ := hinv
      obtain ⟨x102, hinv⟩ := hinv; obtain ⟨x103, hinv⟩ := hinv; obtain ⟨x104, hinv⟩ := hinv; obtain ⟨x105, hinv⟩ := hinv; obtain ⟨x106, hinv⟩ := hinv; obtain ⟨x107, hinv⟩ := hinv; obtain ⟨x108, hinv⟩ := hinv; obtain ⟨x109, hinv⟩ := hinv; obtain ⟨x110, hinv⟩ := hinv; obtain ⟨x111, hinv⟩ := hinv; obtain ⟨x112, hinv⟩ := hinv; obtain ⟨x113, hinv⟩ := hinv
      obtain ⟨x114, hinv⟩ := hinv; obtain ⟨x115, hinv⟩ := hinv; obtain ⟨x116, hinv⟩ := hinv; obtain ⟨x117, hinv⟩ := hinv; obtain ⟨x118, hinv⟩ := hinv; obtain ⟨x119, hinv⟩ := hinv; obtain ⟨x120, hinv⟩ := hinv; obtain ⟨x121, hinv⟩ := hinv; obtain ⟨x122, hinv⟩ := hinv; obtain ⟨x123, hinv⟩ := hinv; obtain ⟨x124, hinv⟩ := hinv; obtain ⟨x125, hinv⟩ := hinv
      obtain ⟨x126, hinv⟩ := hinv; obtain ⟨x127, hinv⟩ := hinv; obtain ⟨x128, hinv⟩ := hinv; obtain ⟨x129, hinv⟩ := hinv; obtain ⟨x130, hinv⟩ := hinv; obtain ⟨x131, hinv⟩ := hinv; obtain ⟨x132, hinv⟩ := hinv; obtain ⟨x133, hinv⟩ := hinv; obtain ⟨x134, hinv⟩ := hinv; obtain ⟨x135, hinv⟩ := hinv; obtain ⟨x136, hinv⟩ := hinv; obtain ⟨x137, hinv⟩ := hinv
      obtain ⟨x138, hinv⟩ := hinv
      obtain ⟨ds, ⟨j, rs, hjk, hj66, hds, HBO, HMK⟩, ha⟩ := hinv
      subst ha
      subst hj66
      dsimp only
      intro _ _ _ _
      have HDS := Lib.hid hds
      clear hds
      by_cases hlt : j < 48
      · have hk0 : (0 : Int) ≤ (j : Int) := by omega
        have hk1 : (j : Int) < 48 := by omega
        have HK := Lib.hid hjk
        have HAJX := Lib.hid (HAJ.out X HBO.out)
        have hwc := HAJX.out.j.im.rf.word_cell j (by rw [HLEN.out]; exact hlt)
        have HXS := Lib.hid (links_places WJ (onesO 5) 8 (dl.map LayR.x) j)
        have HXM : Hid (∀ x ∈ linksR WJ (onesO 5) 8 (dl.map LayR.x) j, x = linkOf WJ (onesO 5) 8 (dl.map LayR.x) j x.1) := Lib.hid (fun x hx => links_mem hx)
        have HXL := Lib.hid (links_le WJ (onesO 5) 8 (dl.map LayR.x) j)
        have HAT : Hid (∀ Y, Below wo.heap.size wo Y → Calls Tryz.prog 8 #[.pointer (some ⟨M, 0, none⟩), .int .i64 j] Y fun e w' => e = .returned (.tuple #[.agg #[.int .i64 (atR WJ (onesO 5) 8 (dl.map LayR.x) j).1, .int .i64 (atR WJ (onesO 5) 8 (dl.map LayR.x) j).2.1, .int .i64 (atR WJ (onesO 5) 8 (dl.map LayR.x) j).2.2.1], .int .i64 (atR WJ (onesO 5) 8 (dl.map LayR.x) j).2.2.2, .int .i64 (findE WJ (onesO 5) 8 (dl.map LayR.x) j)]) ∧ Below Y.heap.size Y w') := Lib.hid (fun Y hY => iat_any (HAJ.out Y hY).j.ip HWD.out j)
        have HDT : Hid (∀ Y, Below wo.heap.size wo Y → Calls Tryz.prog 9 #[.pointer (some ⟨D, 0, none⟩), .int .i64 j] Y fun e w' => e = .returned (.tuple #[.agg #[.int .i64 (atR WJ (onesO 5) 8 (dl.map LayR.x) j).1, .int .i64 (atR WJ (onesO 5) 8 (dl.map LayR.x) j).2.1, .int .i64 (atR WJ (onesO 5) 8 (dl.map LayR.x) j).2.2.1], .int .i64 (atR WJ (onesO 5) 8 (dl.map LayR.x) j).2.2.2, .int .i64 (findE WJ (onesO 5) 8 (dl.map LayR.x) j)]) ∧ Below Y.heap.size Y w') := Lib.hid (fun Y hY => dat_any (HAJ.out Y hY).j.im HWD.out j)
        have HRV : Hid (adE WJ (onesO 5) 8 (j : Int) = 0 → rdV WJ (onesO 5) 8 (j : Int) = WJ.getD j 0) := Lib.hid (fun e => by unfold rdV; rw [if_pos e, Int.toNat_natCast])
        generalize WJ.getD j 0 = wd at *
        generalize atR WJ (onesO 5) 8 (dl.map LayR.x) j = at4 at *
        obtain ⟨a1, a2, a3, a4⟩ := at4
        generalize findE WJ (onesO 5) 8 (dl.map LayR.x) j = fe at *
        have hjb := Boxed.new X 3 (.int .i64 j)
        have hb1 := below1 X (.cells #[.int .i64 j] 3)
        have HB1 := Lib.hid (HBO.out.on hb1)
        have HMK1 := Lib.hid (HMK.out.on hb1)
        have hjl : X.heap.size < (X.alloc (.cells #[.int .i64 j] 3)).heap.size := by rw [World.size_alloc]; omega
        have hjo : wo.heap.size ≤ X.heap.size := HBO.out.size
        clear hb1 HBO HMK HAJX hjk
        go_wp2_with fail
        generalize X.alloc (.cells #[.int .i64 j] 3) = X1 at *
        generalize X.heap.size = jb at *
        refine (HAT.out _ HB1.out).mono ?_
        rintro e X2 ⟨rfl, hb2⟩
        have hn2 := heap_alloc_new X2 (.cells #[.int .i64 a1, .int .i64 a2, .int .i64 a3] 32)
        have hb3 := hb2.on (below1 X2 (.cells #[.int .i64 a1, .int .i64 a2, .int .i64 a3] 32))
        have hl2 : X2.heap.size < (X2.alloc (.cells #[.int .i64 a1, .int .i64 a2, .int .i64 a3] 32)).heap.size := by rw [World.size_alloc]; omega
        have hjb3 : Boxed _ jb 3 (.int .i64 j) := (hb3.block _ hjb.lt).trans hjb
        have HB3 := Lib.hid (HB1.out.on hb3)
        have HMK3 := Lib.hid (HMK1.out.on hb3)
        have hmc := (HBX.out _ HB3.out).2.cell
        have hjc := hjb3.cell
        have hjl3 := hjb3.lt
        clear hb2 hb3 HB1 HMK1 HAT hjb hwc
        go_wp2_with fail
        generalize X2.alloc (.cells #[.int .i64 a1, .int .i64 a2, .int .i64 a3] 32) = X3 at *
        generalize X2.heap.size = h1 at *
        refine (HDT.out _ HB3.out).mono ?_
        rintro e X4 ⟨rfl, hb4⟩
        have hb5 := hb4.on (below1 X4 (.cells #[.int .i64 a1, .int .i64 a2, .int .i64 a3] 32))
        have hn5 := (hb5.block _ (block_lt hn2)).trans hn2
        have hm5 := heap_alloc_new X4 (.cells #[.int .i64 a1, .int .i64 a2, .int .i64 a3] 32)
        have hjb5 : Boxed _ jb 3 (.int .i64 j) := (hb5.block _ hjb3.lt).trans hjb3
        have HB5 := Lib.hid (HB3.out.on hb5)
        have HMK5 := Lib.hid (HMK3.out.on hb5)
        have k0 := (blk_cells hn5 0).trans rfl
        have k1 := (blk_cells hn5 1).trans rfl
        have k2 := (blk_cells hn5 2).trans rfl
        have l0 := (blk_cells hm5 0).trans rfl
        have l1 := (blk_cells hm5 1).trans rfl
        have l2 := (blk_cells hm5 2).trans rfl
        have hjc := hjb5.cell
        clear hb4 hb5 HB3 HMK3 HDT hjb3 hn2 hn5 hm5 hl2 hmc
        have hb6 := below1 (X4.alloc (.cells #[.int .i64 a1, .int .i64 a2, .int .i64 a3] 32)) (.cells #[.slice none 0 0] 42)
        have hpb := Boxed.new (X4.alloc (.cells #[.int .i64 a1, .int .i64 a2, .int .i64 a3] 32)) 42 (.slice none 0 0)
        have hz6 : ((X4.alloc (.cells #[.int .i64 a1, .int .i64 a2, .int .i64 a3] 32)).alloc (.cells #[.slice none 0 0] 42)).heap.size = (X4.alloc (.cells #[.int .i64 a1, .int .i64 a2, .int .i64 a3] 32)).heap.size + 1 := World.size_alloc _ _
        have hjb6 : Boxed _ jb 3 (.int .i64 j) := (hb6.block _ hjb5.lt).trans hjb5
        have hjc6 := hjb6.cell
        have hjl6 := hjb5.lt
        go_wp2_with fail
        have hx54 : (X4.alloc (.cells #[.int .i64 a1, .int .i64 a2, .int .i64 a3] 32)).heap.size = X4.heap.size + 1 := World.size_alloc _ _
        generalize hX5 : X4.alloc (.cells #[.int .i64 a1, .int .i64 a2, .int .i64 a3] 32) = X5 at *
        generalize hX6 : X5.alloc (.cells #[.slice none 0 0] 42) = X6 at *
        refine ((callsIn_wide (n := 0)).1 (links_in 0 (some ⟨M, 0, none⟩) j _)).mono ?_
        rintro e w' ⟨rfl, rfl⟩
        have bM := Boxed.new X6 27 (.pointer (some ⟨M, 0, none⟩))
        have hb7 := below1 X6 (.cells #[.pointer (some ⟨M, 0, none⟩)] 27)
        have hz7 : (X6.alloc (.cells #[.pointer (some ⟨M, 0, none⟩)] 27)).heap.size = X6.heap.size + 1 := World.size_alloc _ _
        generalize X6.alloc (.cells #[.pointer (some ⟨M, 0, none⟩)] 27) = X7 at *
        have bA := Boxed.new X7 3 (.int .i64 j)
        have hb8 := below1 X7 (.cells #[.int .i64 j] 3)
        have hz8 : (X7.alloc (.cells #[.int .i64 j] 3)).heap.size = X7.heap.size + 1 := World.size_alloc _ _
        generalize X7.alloc (.cells #[.int .i64 j] 3) = X8 at *
        have bM8 : Boxed X8 X6.heap.size 27 (.pointer (some ⟨M, 0, none⟩)) := (hb8.block _ bM.lt).trans bM
        have bp8 : Boxed X8 X5.heap.size 42 (.slice none 0 0) := ((hb7.on hb8).block _ hpb.lt).trans hpb
        have hb68 := hb7.on hb8
        have hb58 := hb6.on hb68
        rw [hz7] at bA
        have hjb8 : Boxed X8 jb 3 (.int .i64 j) := (hb68.block _ hjb6.lt).trans hjb6
        have HB8 := Lib.hid (HB5.out.on hb58)
        have HMK8 := Lib.hid (HMK5.out.on hb58)
        have hx5o : wo.heap.size ≤ X5.heap.size := HB5.out.size
        have HAJ5 : Hid (AJ w2 X5 M B Wb Ob p q P D G Wg Og u WJ dl) := Lib.hid (HAJ.out _ HB5.out)
        have HDF : Hid (∀ (y : Int) Y, Below wo.heap.size wo Y → Calls Tryz.prog 11 #[.pointer (some ⟨D, 0, none⟩), .int .i64 j, .int .i64 y] Y fun e w' => e = .returned (.tuple #[.agg #[.int .i64 (followR WJ (onesO 5) 8 (dl.map LayR.x) j y).1, .int .i64 (followR WJ (onesO 5) 8 (dl.map LayR.x) j y).2.1, .int .i64 (followR WJ (onesO 5) 8 (dl.map LayR.x) j y).2.2.1], .int .i64 (followR WJ (onesO 5) 8 (dl.map LayR.x) j y).2.2.2]) ∧ Below Y.heap.size Y w') := Lib.hid (fun y Y hY => dfollow_any (ls := dl.map LayR.x) (HAJ.out Y hY).j.im HWD.out j y rfl)
        clear hX6 hb6 hb7 hb8 hpb bM hjc hjc6 hjb6 k0 k1 k2 l0 l1 l2 hjl3 hjl
        go_wp2_with fail
        refine wpIn_wide.1 (range_up2 (n := 12) rfl (by decide) (gf := 39) (lb := #[.pointer (some ⟨X6.heap.size, 0, none⟩), .pointer (some ⟨X6.heap.size + 1, 0, none⟩)]) ?hg trivial (enters_of Tryz.func39 (by kernel_rfl) rfl)
          (fun k => k = X5.heap.size) (fun k e => by omega)
          (links_gives 11 (by decide) _ _ _ _ X5 (j : Int) HAJ5.out.j.ip HAJ5.out.wd hb58 bM8 bA (fun k e => by refine ⟨?_, ?_, ?_, ?_⟩ <;> omega))
          (fun _ => rfl)
          (fun r s Y => ∃ v, L1 X5 X5.heap.size r v v s.length (s.flatMap plC) Y)
          (fun r s A B hr ⟨v, h⟩ hm => ⟨v, h.mod hm (fun e => by have e' : X8.heap.size ≤ X5.heap.size ∧ _ := e; omega) (fun k e => by have e' : X8.heap.size ≤ k ∧ k < r := e; omega)⟩)
          (fun r W' hr hb => ⟨_, (hb.block _ bp8.lt).trans bp8, World.ownsRow_nil _ _ _ _, hb58.on hb, by omega, by omega⟩)
          (β := Nat)
          (fun r s x b Y => (∃ v, L1 X5 X5.heap.size r v v s.length (s.flatMap plC) Y) ∧ Y.heap[b]? = some (.cells #[.int .i64 x.2.1, .int .i64 x.2.2.1, .int .i64 x.2.2.2] 37 (0, 0)) ∧ r ≤ b)
          (fun r s x b A B hr ⟨⟨v, h1⟩, h2, h3⟩ hm => ⟨⟨v, h1.mod hm (fun e => by have e' : X5.heap.size = X8.heap.size + 1 := e; omega) (fun k e => by have e' : k = X8.heap.size + 1 := e; omega)⟩, hm.keeps h2 (fun e => by have e' : b = X8.heap.size + 1 := e; omega), h3⟩)
          ?a1 ?assign ?body ?done)
        case hg => simp [go_sem]
        case assign =>
          rintro lp r pre x Y K hr hrX ⟨v, hi⟩ hpre hK
          unfold linkE
          gi_wp2
          have e1 : Mod (orUp (fun k => k = X5.heap.size) r) Y (Y.alloc (.cells #[.int .i64 x.2.1, .int .i64 x.2.2.1, .int .i64 x.2.2.2] 37)) := .of_below (below1 Y _)
          have e2 := hi.on (below1 Y (.cells #[.int .i64 x.2.1, .int .i64 x.2.2.1, .int .i64 x.2.2.2] 37))
          have e3 := heap_alloc_new Y (.cells #[.int .i64 x.2.1, .int .i64 x.2.2.1, .int .i64 x.2.2.2] 37)
          clear hi
          generalize Y.alloc (.cells #[.int .i64 x.2.1, .int .i64 x.2.2.1, .int .i64 x.2.2.2] 37) = Y' at *
          generalize Y.heap.size = b at *
          exact hK b _ e1 ⟨⟨v, e2⟩, e3, hrX⟩
        case body =>
          rintro lp r pre x b Y hr hrX ⟨⟨v, hl1⟩, hblk, hrb⟩ hpre
          obtain ⟨i0, hi, hz0, hz1, hz2⟩ := info_parts infoIntY
          have hml : pre.length + 1 ≤ 8192 := by have h2 := hpre.length_le; rw [List.length_append] at h2; exact Nat.le_trans h2 HXL.out
          have hx := HXM.out x (hpre.subset (by simp))
          clear hpre
          obtain ⟨y, f1, f2, f3⟩ := x
          have HDY := Lib.hid (HDF.out y)
          unfold linkOf at hx
          simp only [Prod.mk.injEq, true_and] at hx
          obtain ⟨hx1, hx2, hx3⟩ := hx
          rw [← hx1, ← hx2, ← hx3] at HDY
          clear hx1 hx2 hx3
          generalize (followR WJ (onesO 5) 8 (dl.map LayR.x) j y).2.2.2 = f4 at *
          have hbo : Below wo.heap.size wo Y := HB5.out.trans (hl1.below.mono HB5.out.size)
          have hmc := (HBX.out Y hbo).2.cell
          have hjY : Boxed Y jb 3 (.int .i64 j) := (hl1.below.block _ hjl6).trans hjb5
          have hjc := hjY.cell
          gi_wp2_with fail
          refine ⟨trivial, ((callsIn_wide.2 (HDY.out Y hbo)).inRound lp).mono ?_⟩
          rintro e Y1 ⟨rfl, hb1⟩
          have hbA := hb1.on (below1 Y1 (.cells #[.int .i64 f1, .int .i64 f2, .int .i64 f3] 37))
          have hn := (hbA.block _ (block_lt hblk)).trans hblk
          have ho := heap_alloc_new Y1 (.cells #[.int .i64 f1, .int .i64 f2, .int .i64 f3] 37)
          have k0 : (Y1.alloc (.cells #[.int .i64 f1, .int .i64 f2, .int .i64 f3] 37)).cell? ⟨b, 0, none⟩ = some (.int .i64 f1) := (blk_cells hn 0).trans rfl
          have k1 : (Y1.alloc (.cells #[.int .i64 f1, .int .i64 f2, .int .i64 f3] 37)).cell? ⟨b, 1, none⟩ = some (.int .i64 f2) := (blk_cells hn 1).trans rfl
          have k2 : (Y1.alloc (.cells #[.int .i64 f1, .int .i64 f2, .int .i64 f3] 37)).cell? ⟨b, 2, none⟩ = some (.int .i64 f3) := (blk_cells hn 2).trans rfl
          have m0 : (Y1.alloc (.cells #[.int .i64 f1, .int .i64 f2, .int .i64 f3] 37)).cell? ⟨Y1.heap.size, 0, none⟩ = some (.int .i64 f1) := (blk_cells ho 0).trans rfl
          have m1 : (Y1.alloc (.cells #[.int .i64 f1, .int .i64 f2, .int .i64 f3] 37)).cell? ⟨Y1.heap.size, 1, none⟩ = some (.int .i64 f2) := (blk_cells ho 1).trans rfl
          have m2 : (Y1.alloc (.cells #[.int .i64 f1, .int .i64 f2, .int .i64 f3] 37)).cell? ⟨Y1.heap.size, 2, none⟩ = some (.int .i64 f3) := (blk_cells ho 2).trans rfl
          have hlA := hl1.on hbA
          have hpc := hlA.b.cell
          rw [hx54] at hpc
          have hMA := (Mod.of_below (S := orUp (fun k => k = X5.heap.size) r) hbA)
          have hrA : r ≤ (Y1.alloc (.cells #[.int .i64 f1, .int .i64 f2, .int .i64 f3] 37)).heap.size := Nat.le_trans hrX hbA.size
          have HLA := Lib.hid hlA
          have HMA := Lib.hid hMA
          clear hbA hn ho hb1 hl1 hblk hjY hjc hmc hbo HDY hlA hMA
          generalize hY2 : Y1.alloc (.cells #[.int .i64 f1, .int .i64 f2, .int .i64 f3] 37) = Y2 at *
          gi_wp2_with (gi_at_builtin; refine wpListIn_append_own _ rfl _ _ 42 rfl r 3 i0 (.int .i64 0) 1 8 Tryz.underlying42 hi hz0 hz1 hz2 rfl (by decide) _ _ _ rfl (HLA.out.row.alloc _) ⟨Y2.heap.size, 0, none⟩ 1 1 [.int .i64 y] rfl rfl (World.news_of_block (cs := #[.int .i64 y]) (t := 3) (fr := (0, 0)) (heap_alloc_new Y2 _)) (by simp [Value.oneCell']) (by unfold maxLen; omega) (by omega) (by simp; omega) ?_; intro v' w1 hown' hgrow _; obtain ⟨g', cap', rfl⟩ := ownsRow_succ hown'; have hlB := (HLA.out.on (below1 Y2 (.cells #[.int .i64 y] 3))).app hgrow hown'; have hc1 := hlB.b.cell; have hf1 := hlB.b.frozen; rw [hx54] at hc1 hf1)
          rw [← hx54]
          have hmg : Mod (orUp (fun k => k = X5.heap.size) r) (Y2.alloc (.cells #[.int .i64 y] 3)) w1 := (HLA.out.on (below1 Y2 (.cells #[.int .i64 y] 3))).up hgrow
          have hfin := hlB.set (.slice (some ⟨g', 0, none⟩) (pre.length + 1) cap')
          refine ⟨((HMA.out.trans (.of_below (below1 Y2 (.cells #[.int .i64 y] 3)))).trans hmg).trans (Mod.setCell _ w1 ⟨X5.heap.size, 0, none⟩ _ (.inl rfl)), .slice (some ⟨g', 0, none⟩) (pre.length + 1) cap', ?_⟩
          simpa [plC] using hfin
        case done =>
          rintro r Y hr ⟨v, hl1⟩ hK hsz
          have hbo : Below wo.heap.size wo Y := HB5.out.trans (hl1.below.mono HB5.out.size)
          have HIN : Hid (IntsY Y v (slotsR WJ (onesO 5) 8 (dl.map LayR.x) j)) := Lib.hid (by
            have h1 := hl1.row
            rw [plC_map, HXS.out] at h1
            have h2 : (linksR WJ (onesO 5) 8 (dl.map LayR.x) (j : Int)).length = (slotsR WJ (onesO 5) 8 (dl.map LayR.x) j).length := by rw [← HXS.out, List.length_map]
            rw [h2] at h1
            exact intsY_of_own h1 (by rw [← h2]; have := HXL.out; omega))
          have HMKY : Hid (Marks wo.heap.size (X8.heap.size :: rs) Y) := Lib.hid ((HMK5.out.on hl1.below).cons (by omega) hK (fun e => by have := block_lt (HMK5.out.2 _ e).2; omega))
          have hjY : Boxed Y jb 3 (.int .i64 j) := (hl1.below.block _ hjl6).trans hjb5
          have HJY := Lib.hid hjY
          have hjc := hjY.cell
          have HPY : Hid (Boxed Y X5.heap.size 42 v) := Lib.hid hl1.b
          have HRD := Lib.hid (read_t (HAJ.out Y hbo).j.ip.st (j : Int))
          have HSL : Hid (∀ Z, Below wo.heap.size wo Z → Calls Tryz.prog 14 #[.pointer (some ⟨D, 0, none⟩), .int .i64 j] Z (DSl (slotsR WJ (onesO 5) 8 (dl.map LayR.x) j) Z)) := Lib.hid (fun Z hZ => dslots_any (HAJ.out Z hZ).j.im HWD.out j rfl)
          have HBY := Lib.hid hbo
          have H8 : Hid (X8.heap.size = X4.heap.size + 1 + 1 + 1 + 1) := Lib.hid (by omega)
          clear hl1 hK hjY hjb5 bA bM8 bp8 hb68 hb58 hjb8 hbo HXM
          generalize adE WJ (onesO 5) 8 (j : Int) = ae at *
          generalize rdV WJ (onesO 5) 8 (j : Int) = rv at *
          generalize slotsR WJ (onesO 5) 8 (dl.map LayR.x) j = sl at *
          go_wp2_with fail
          refine HRD.out.mono ?_
          rintro e Y' ⟨rfl, rfl⟩
          have hpc := HPY.out.cell
          rw [hx54] at hpc
          have hmc := (HBX.out Y HBY.out).2.cell
          have HRE := Lib.hid hr
          by_cases hae : ae = 0
          · subst hae
            have hrv := HRV.out rfl
            subst hrv
            go_wp2_with fail
            go_region_held3 (fun wk => wk.cell? ⟨X4.heap.size + 1, 0, none⟩ = some v ∧ wk.cell? ⟨mb, 0, none⟩ = some (.pointer (some ⟨D, 0, none⟩)) ∧ wk.cell? ⟨jb, 0, none⟩ = some (.int .i64 j)) (first | assumption | exact ⟨hpc, hmc, hjc⟩ | exact ⟨s1, s2, s3⟩ | exact ⟨t1, t2, t3⟩) (first | (go_at_call 14; refine (HSL.out _ (HBY.out.on (below_drewN (Below.refl _ Y) 1))).mono ?_; rintro e Z1 ⟨v2, rfl, hi2, hbz⟩; have hbz1 := (below_drewN (Below.refl _ Y) 1).on hbz; have s1 := cell_on hbz1 hpc; have s2 := cell_on hbz1 hmc; have s3 := cell_on hbz1 hjc; have HSM := Lib.hid (same_true (HIN.out.on hbz1) hi2); have HZ1 := Lib.hid hbz1; clear hi2 hbz hbz1) | (go_at_call 13; refine HSM.out.mono ?_; rintro e Z2 ⟨rfl, hbz⟩; have t1 := cell_on hbz s1; have t2 := cell_on hbz s2; have t3 := cell_on hbz s3; have HZ2 := Lib.hid (HZ1.out.on hbz); clear hbz))
            all_goals
              go_wp2
              go_roundg (gk - 1)
              case measure => have := HK.out; omega
              case rel => exact ⟨j + 1, X8.heap.size :: rs, by have := HK.out; omega, by go_num, by rw [HDS.out, List.map_cons, H8.out]; rfl, Lib.hid (HBY.out.on HZ2.out), Lib.hid (HMKY.out.on HZ2.out)⟩
          · have e9 : (ae == 0) = false := by simpa using hae
            clear hae
            go_wp2_with fail
            refine wp_region_noPanic ?_
            refine region_pres (fun _ W W' => Below W.heap.size W W') (by kernel_rfl) ?_
            have hbd : Below Y.heap.size Y Y.drew := Below.drew (Below.refl _ _)
            have p1 := cell_on hbd hpc
            have p2 := cell_on hbd hmc
            have p3 := cell_on hbd hjc
            have HBD := Lib.hid (HBY.out.on hbd)
            have HIND := Lib.hid (HIN.out.on hbd)
            have HMKD := Lib.hid (HMKY.out.on hbd)
            clear hbd hpc hmc hjc HBY HIN HMKY HPY HJY
            generalize Y.drew = Yd at *
            refine wpAnyP_take2 (i := 0) (v := v) (some 123) (fun W => W.cell? ⟨X4.heap.size + 1, 0, none⟩ = some (v)) [] rfl rfl (by kernel_rfl) (by kernel_rfl) (by kernel_rfl) (by kernel_rfl) (fun _ _ _ h => h) (fun W => Below.refl _ W) (fun j W W' hj hp h => cell_on hp h) (Or.inl ⟨by rfl, ?_⟩) ?_ ?_
            · intro W hSW
              try dsimp only at hSW
              go_simp
            · first | assumption | trivial
            try simp only [Act.put, List.setIfInBounds_toArray, List.set_cons_zero, List.set_cons_succ]
            refine wpAnyP_take2 (i := 1) (v := .pointer (some ⟨D, 0, none⟩)) (some 124) (fun W => W.cell? ⟨mb, 0, none⟩ = some (.pointer (some ⟨D, 0, none⟩))) [] rfl rfl (by kernel_rfl) (by kernel_rfl) (by kernel_rfl) (by kernel_rfl) (fun _ _ _ h => h) (fun W => Below.refl _ W) (fun j W W' hj hp h => cell_on hp h) (Or.inl ⟨by rfl, ?_⟩) ?_ ?_
            · intro W hSW
              try dsimp only at hSW
              go_simp
            · first | assumption | trivial
            try simp only [Act.put, List.setIfInBounds_toArray, List.set_cons_zero, List.set_cons_succ]
            refine wpAnyP_take2 (i := 2) (v := .int .i64 j) (some 125) (fun W => W.cell? ⟨jb, 0, none⟩ = some (.int .i64 j)) [] rfl rfl (by kernel_rfl) (by kernel_rfl) (by kernel_rfl) (by kernel_rfl) (fun _ _ _ h => h) (fun W => Below.refl _ W) (fun j W W' hj hp h => cell_on hp h) (Or.inl ⟨by rfl, ?_⟩) ?_ ?_
            · intro W hSW
              try dsimp only at hSW
              go_simp
            · first | assumption | trivial
            try simp only [Act.put, List.setIfInBounds_toArray, List.set_cons_zero, List.set_cons_succ]
            refine wpAnyP_ready (rs := [3]) (by kernel_rfl) (by simp) ?_
            refine ReadyP.cons rfl (fun K hK => ?_) ReadyP.nil
            go_simp
            refine (HSL.out _ HBD.out).mono ?_
            rintro e Z1 ⟨v2, rfl, hi2, hbz⟩
            have HSM := Lib.hid (same_true (HIND.out.on hbz) hi2)
            have HZ1 := Lib.hid (HBD.out.on hbz)
            have HMZ1 := Lib.hid (HMKD.out.on hbz)
            clear hi2
            go_wp2_with fail
            refine hK.out _ _ hbz ?_
            clear hK K hbz
            try simp only [Act.put, List.setIfInBounds_toArray, List.set_cons_zero, List.set_cons_succ]
            refine wpAnyP_ready (rs := [4]) (by kernel_rfl) (by simp) ?_
            refine ReadyP.cons rfl (fun K hK => ?_) ReadyP.nil
            go_simp
            refine HSM.out.mono ?_
            rintro e Z2 ⟨rfl, hbz⟩
            have HZ2 := Lib.hid (HZ1.out.on hbz)
            have HMZ2 := Lib.hid (HMZ1.out.on hbz)
            go_wp2_with fail
            refine hK.out _ _ hbz ?_
            clear hK K hbz
            try simp only [Act.put, List.setIfInBounds_toArray, List.set_cons_zero, List.set_cons_succ]
            refine wpAnyP_take2 (i := 5) (v := .bool false) (some 128) (fun _ => True) [] rfl rfl (by kernel_rfl) (by kernel_rfl) (by kernel_rfl) (by kernel_rfl) (fun _ _ _ h => h) (fun W => Below.refl _ W) (fun j W W' hj hp h => trivial) (Or.inl ⟨by rfl, ?_⟩) ?_ ?_
            · intro W hSW
              try dsimp only at hSW
              go_simp
            · first | assumption | trivial
            try simp only [Act.put, List.setIfInBounds_toArray, List.set_cons_zero, List.set_cons_succ]
            refine wpAnyP_take2 (i := 6) (v := .bool false) (some 129) (fun _ => True) [] rfl rfl (by kernel_rfl) (by kernel_rfl) (by kernel_rfl) (by kernel_rfl) (fun _ _ _ h => h) (fun W => Below.refl _ W) (fun j W W' hj hp h => trivial) (Or.inl ⟨by rfl, ?_⟩) ?_ ?_
            · intro W hSW
              try dsimp only at hSW
              go_simp
            · first | assumption | trivial
            try simp only [Act.put, List.setIfInBounds_toArray, List.set_cons_zero, List.set_cons_succ]
            refine wpAnyP_take2 (i := 7) (v := .int .i64 ae) (some 130) (fun _ => True) [] rfl rfl (by kernel_rfl) (by kernel_rfl) (by kernel_rfl) (by kernel_rfl) (fun _ _ _ h => h) (fun W => Below.refl _ W) (fun j W W' hj hp h => trivial) (Or.inl ⟨by rfl, ?_⟩) ?_ ?_
            · intro W hSW
              try dsimp only at hSW
              go_simp
            · first | assumption | trivial
            try simp only [Act.put, List.setIfInBounds_toArray, List.set_cons_zero, List.set_cons_succ]
            refine wpAnyP_take2 (i := 8) (v := .bool false) (some 131) (fun _ => True) [] rfl rfl (by kernel_rfl) (by kernel_rfl) (by kernel_rfl) (by kernel_rfl) (fun _ _ _ h => h) (fun W => Below.refl _ W) (fun j W W' hj hp h => trivial) (Or.inl ⟨by rfl, ?_⟩) ?_ ?_
            · intro W hSW
              try dsimp only at hSW
              go_simp
            · first | assumption | trivial
            try simp only [Act.put, List.setIfInBounds_toArray, List.set_cons_zero, List.set_cons_succ]
            refine wpAnyP_take2 (i := 9) (v := .bool false) (some 132) (fun _ => True) [] rfl rfl (by kernel_rfl) (by kernel_rfl) (by kernel_rfl) (by kernel_rfl) (fun _ _ _ h => h) (fun W => Below.refl _ W) (fun j W W' hj hp h => trivial) (Or.inl ⟨by rfl, ?_⟩) ?_ ?_
            · intro W hSW
              try dsimp only at hSW
              go_simp
            · first | assumption | trivial
            try simp only [Act.put, List.setIfInBounds_toArray, List.set_cons_zero, List.set_cons_succ]
            refine wpAnyP_take2 (i := 10) (v := undef) (some 133) (fun _ => True) [] rfl rfl (by kernel_rfl) (by kernel_rfl) (by kernel_rfl) (by kernel_rfl) (fun _ _ _ h => h) (fun W => Below.refl _ W) (fun j W W' hj hp h => trivial) (Or.inr ⟨by kernel_rfl, rfl⟩) trivial ?_
            try simp only [Act.put, List.setIfInBounds_toArray, List.set_cons_zero, List.set_cons_succ]
            refine wpAnyP_take2 (i := 11) (v := undef) (some 134) (fun _ => True) [] rfl rfl (by kernel_rfl) (by kernel_rfl) (by kernel_rfl) (by kernel_rfl) (fun _ _ _ h => h) (fun W => Below.refl _ W) (fun j W W' hj hp h => trivial) (Or.inr ⟨by kernel_rfl, rfl⟩) trivial ?_
            try simp only [Act.put, List.setIfInBounds_toArray, List.set_cons_zero, List.set_cons_succ]
            refine wpAnyP_take2 (i := 12) (v := undef) (some 135) (fun _ => True) [] rfl rfl (by kernel_rfl) (by kernel_rfl) (by kernel_rfl) (by kernel_rfl) (fun _ _ _ h => h) (fun W => Below.refl _ W) (fun j W W' hj hp h => trivial) (Or.inr ⟨by kernel_rfl, rfl⟩) trivial ?_
            try simp only [Act.put, List.setIfInBounds_toArray, List.set_cons_zero, List.set_cons_succ]
            refine wpAnyP_take2 (i := 13) (v := .bool false) (some 136) (fun _ => True) [] rfl rfl (by kernel_rfl) (by kernel_rfl) (by kernel_rfl) (by kernel_rfl) (fun _ _ _ h => h) (fun W => Below.refl _ W) (fun j W W' hj hp h => trivial) (Or.inl ⟨by rfl, ?_⟩) ?_ ?_
            · intro W hSW
              try dsimp only at hSW
              go_simp
            · first | assumption | trivial
            try simp only [Act.put, List.setIfInBounds_toArray, List.set_cons_zero, List.set_cons_succ]
            refine wpAnyP_take2 (i := 14) (v := .bool false) (some 137) (fun _ => True) [] rfl rfl (by kernel_rfl) (by kernel_rfl) (by kernel_rfl) (by kernel_rfl) (fun _ _ _ h => h) (fun W => Below.refl _ W) (fun j W W' hj hp h => trivial) (Or.inl ⟨by rfl, ?_⟩) ?_ ?_
            · intro W hSW
              try dsimp only at hSW
              go_simp
            · first | assumption | trivial
            try simp only [Act.put, List.setIfInBounds_toArray, List.set_cons_zero, List.set_cons_succ]
            refine wpAnyP_done (by kernel_rfl) ?_ _
            refine NoPanic.normal ?_
            go_wp2
            go_roundg (gk - 1)
            case measure => have := HK.out; omega
            case rel => exact ⟨j + 1, X8.heap.size :: rs, by have := HK.out; omega, by go_num, by rw [HDS.out, List.map_cons, H8.out]; rfl, HZ2, HMZ2⟩
      · have hj48 : j = 48 := by omega
        subst hj48
        have br := (HBX.out X HBO.out).1
        have q1 := br.cell
        have q2 := br.frozen
        go_wp2_with fail
        have hmk : Marks wo.heap.size rs (X.setCell ⟨w.heap.size, 0, none⟩ (.bool true)) := HMK.out.mod (Mod.setCell (fun k => k = w.heap.size) X ⟨w.heap.size, 0, none⟩ (.bool true) rfl) (fun k _ e h => by have e' : k = w.heap.size := e; rw [e', show X.heap[w.heap.size]? = _ from br] at h; cases h)
        have hcs := (br.set (.bool true)).cell
        have hbf := (HBW.out _ HBO.out).setCell (p := ⟨w.heap.size, 0, none⟩) (Nat.le_refl _) (.bool true)
        have hsz := hbf.size
        rw [HDS.out]
        refine leaves_marks (n0 := wo.heap.size) rs _ hmk (fun W' hm ho => ?_)
        have hcw := hm.cell hcs (by show ¬ wo.heap.size ≤ w.heap.size; omega)
        refine ⟨_, (by rw [results_cell1 rfl]; go_simp), rfl, hm.below hbf (fun k e => by have e' : wo.heap.size ≤ k := e; omega) hsz⟩
end Go.Proofs.YtfflacggaebonaaGreatDoor
end
section
namespace Go.Proofs.YtfflacggaebonaaGreatDoor
open Go.RowKit Go.ChangeShapes Go.WideShapes Go.ChangeAt Go.Joins
set_option linter.unusedVariables false
section
variable {H : Type} {enc0 : TypeId × Value → H} {w : World} {base : Nat} {spare : Nat → Bool} {held : Bool}
theorem dec_encI (fuel : Nat) (cs : List Value) (x : DataW H × List MemPlace) (hl : cs.length = 1) (h : DataW.trod enc0 Tryz.prog w base spare held fuel 3 cs = some x) : ∃ a, cs = encI a ∧ True := by
  obtain ⟨n, rfl, _, hw⟩ := DataW.trod_int Tryz.underlying3 h
  exact ⟨n, rfl, trivial⟩
theorem dec_ints (fuel : Nat) (c : Value) (x : DataW H × List MemPlace) (h : DataW.trod enc0 Tryz.prog w base spare held fuel 42 [c] = some x) : ∃ (l : List Int) (A : Option Addr) (n : Nat), c = .slice A l.length n ∧ l.length ≤ n ∧ l.length ≤ maxLen ∧ SliceOf w A 1 encI 0 l := by
  have key : ∀ (A : Option Addr) (len cap : Nat), c = .slice A len cap → ∃ (l : List Int) (A : Option Addr) (n : Nat), c = .slice A l.length n ∧ l.length ≤ n ∧ l.length ≤ maxLen ∧ SliceOf w A 1 encI 0 l := by
    rintro A len cap rfl
    obtain ⟨l, rfl, h1, h2, _, h3⟩ := open_sliceOf (w := w) (D := x.1) (p := x.2) encI (fun _ => True) 0 Tryz.underlying42 (by kernel_rfl) (by decide) (fun _ => rfl) (fun fu cs x hl h => dec_encI fu cs x hl h) ⟨fuel, h⟩
    exact ⟨l, A, cap, rfl, h1, h2, h3⟩
  rcases Deep.open_slice Tryz.underlying42 h with ⟨hcs, _⟩ | ⟨a, len', cap', m, n, D', Pl, hcs, _⟩
  · simp only [List.cons.injEq, and_true] at hcs
    exact key _ _ _ hcs
  · simp only [List.cons.injEq, and_true] at hcs
    exact key _ _ _ hcs
set_option maxRecDepth 100000 in
theorem dec_lay (fuel : Nat) (cs : List Value) (x : DataW H × List MemPlace) (hl : cs.length = 4) (h : DataW.trod enc0 Tryz.prog w base spare held fuel 64 cs = some x) : ∃ (y : Lay) (A1 : Option Addr) (c1 : Nat) (A2 : Option Addr) (c2 : Nat), cs = (layCells y A1 c1 A2 c2).toList ∧ LayIs w y A1 c1 A2 c2 := by
  match cs, hl with
  | [c0, c1, c2, c3], _ =>
    obtain ⟨y0, y1, y2, y3, n, _, _, h0, h1, h2, h3⟩ := trod_struct4 Tryz.underlying64 h
    obtain ⟨F, e0, _, _⟩ := DataW.trod_int Tryz.underlying3 h0
    obtain ⟨R, e2, _, _⟩ := DataW.trod_int Tryz.underlying3 h2
    obtain ⟨l1, A1, n1, rfl, p1, p2, p3⟩ := dec_ints _ _ _ h1
    obtain ⟨l2, A2, n2, rfl, q1, q2, q3⟩ := dec_ints _ _ _ h3
    have e0' : [c0] = [Value.int .i64 F] := e0
    have e2' : [c2] = [Value.int .i64 R] := e2
    cases e0'
    cases e2'
    exact ⟨⟨F, l1, R, l2⟩, A1, n1, A2, n2, rfl, ⟨p3, p1, p2, q3, q1, q2⟩⟩
theorem dec_layR (fuel : Nat) (cs : List Value) (x : DataW H × List MemPlace) (hl : cs.length = 4) (h : DataW.trod enc0 Tryz.prog w base spare held fuel 64 cs = some x) : ∃ a : LayR, cs = layREnc a ∧ LayIs w a.x a.A1 a.c1 a.A2 a.c2 := by
  obtain ⟨y, A1, c1, A2, c2, he, hL⟩ := dec_lay fuel cs x hl h
  exact ⟨⟨y, A1, c1, A2, c2⟩, he, hL⟩
def encU (x : Int) : List Value := [.int .u64 x]
theorem dec_u64 (fuel : Nat) (cs : List Value) (x : DataW H × List MemPlace) (hl : cs.length = 1) (h : DataW.trod enc0 Tryz.prog w base spare held fuel 33 cs = some x) : ∃ a, cs = encU a ∧ (0 ≤ a ∧ a < 18446744073709551616) := by
  obtain ⟨n, rfl, _, hw⟩ := DataW.trod_int Tryz.underlying33 h
  refine ⟨n, rfl, ?_⟩
  simp [Lit.wf, IntKind.min, IntKind.max, IntKind.bits, IntKind.signed] at hw
  omega
set_option maxRecDepth 100000 in
theorem dec_a12 (fuel : Nat) (cs : List Value) (x : DataW H × List MemPlace) (hl : cs.length = 10) (h : DataW.trod enc0 Tryz.prog w base spare held fuel 39 cs = some x) : ∃ a, cs = a12Enc a ∧ good12 a := by
  match cs, hl with
  | [c0, c1, c2, c3, c4, c5, c6, c7, c8, c9], _ =>
    obtain ⟨xs, n, _, _, _, hlen, hf⟩ := DataW.trod_struct Tryz.underlying39 h
    match xs, hlen with
    | [y0, y1, y2, y3, y4, y5], _ =>
      have h0 : DataW.trod enc0 Tryz.prog w base spare held n 3 [c0] = some y0 := hf 0 _ rfl
      have h1 : DataW.trod enc0 Tryz.prog w base spare held n 3 [c1] = some y1 := hf 1 _ rfl
      have h2 : DataW.trod enc0 Tryz.prog w base spare held n 3 [c2] = some y2 := hf 2 _ rfl
      have h3 : DataW.trod enc0 Tryz.prog w base spare held n 32 [c3, c4, c5] = some y3 := hf 3 _ rfl
      have h4 : DataW.trod enc0 Tryz.prog w base spare held n 33 [c6] = some y4 := hf 4 _ rfl
      have h5 : DataW.trod enc0 Tryz.prog w base spare held n 37 [c7, c8, c9] = some y5 := hf 5 _ rfl
      obtain ⟨a, e0, _, w0⟩ := DataW.trod_int Tryz.underlying3 h0
      obtain ⟨b, e1, _, w1⟩ := DataW.trod_int Tryz.underlying3 h1
      obtain ⟨c, e2, _, w2⟩ := DataW.trod_int Tryz.underlying3 h2
      obtain ⟨d, e4, w4⟩ := dec_u64 _ _ _ rfl h4
      obtain ⟨zs, m, _, _, _, hzl, hz⟩ := DataW.trod_struct Tryz.underlying32 h3
      obtain ⟨vs, k, _, _, _, hvl, hv⟩ := DataW.trod_struct Tryz.underlying37 h5
      match zs, hzl, vs, hvl with
      | [z0, z1, z2], _, [v0, v1], _ =>
        have g0 : DataW.trod enc0 Tryz.prog w base spare held m 3 [c3] = some z0 := hz 0 _ rfl
        have g1 : DataW.trod enc0 Tryz.prog w base spare held m 3 [c4] = some z1 := hz 1 _ rfl
        have g2 : DataW.trod enc0 Tryz.prog w base spare held m 3 [c5] = some z2 := hz 2 _ rfl
        have l0 : DataW.trod enc0 Tryz.prog w base spare held k 3 [c7] = some v0 := hv 0 _ rfl
        have l1 : DataW.trod enc0 Tryz.prog w base spare held k 35 [c8, c9] = some v1 := hv 1 _ rfl
        obtain ⟨us, m2, _, _, _, hul, hu⟩ := DataW.trod_struct Tryz.underlying35 l1
        match us, hul with
        | [u0, u1], _ =>
          have t0 : DataW.trod enc0 Tryz.prog w base spare held m2 3 [c8] = some u0 := hu 0 _ rfl
          have t1 : DataW.trod enc0 Tryz.prog w base spare held m2 3 [c9] = some u1 := hu 1 _ rfl
          obtain ⟨p0, s0, _, _⟩ := DataW.trod_int Tryz.underlying3 g0
          obtain ⟨p1, s1, _, _⟩ := DataW.trod_int Tryz.underlying3 g1
          obtain ⟨p2, s2, _, _⟩ := DataW.trod_int Tryz.underlying3 g2
          obtain ⟨p3, s3, _, _⟩ := DataW.trod_int Tryz.underlying3 l0
          obtain ⟨p4, s4, _, _⟩ := DataW.trod_int Tryz.underlying3 t0
          obtain ⟨p5, s5, _, _⟩ := DataW.trod_int Tryz.underlying3 t1
          cases e0
          cases e1
          cases e2
          cases e4
          cases s0
          cases s1
          cases s2
          cases s3
          cases s4
          cases s5
          exact ⟨⟨a, b, c, p0, p1, p2, d, p3, p4, p5⟩, rfl, w4⟩
set_option maxRecDepth 100000 in
theorem dec_tok (fuel : Nat) (cs : List Value) (x : DataW H × List MemPlace) (hl : cs.length = 2) (h : DataW.trod enc0 Tryz.prog w base spare held fuel 35 cs = some x) : ∃ a b, cs = [.int .i64 a, .int .i64 b] ∧ ((Lit.int .i64 a).wf = true ∧ (Lit.int .i64 b).wf = true) := by
  match cs, hl with
  | [c0, c1], _ =>
    obtain ⟨us, m2, _, _, _, hul, hu⟩ := DataW.trod_struct Tryz.underlying35 h
    match us, hul with
    | [u0, u1], _ =>
      have t0 : DataW.trod enc0 Tryz.prog w base spare held m2 3 [c0] = some u0 := hu 0 _ rfl
      have t1 : DataW.trod enc0 Tryz.prog w base spare held m2 3 [c1] = some u1 := hu 1 _ rfl
      obtain ⟨p4, s4, _, q4⟩ := DataW.trod_int Tryz.underlying3 t0
      obtain ⟨p5, s5, _, q5⟩ := DataW.trod_int Tryz.underlying3 t1
      cases s4
      cases s5
      exact ⟨p4, p5, rfl, q4, q5⟩
end
end Go.Proofs.YtfflacggaebonaaGreatDoor
end
