/- do: one act on both tables: a walk. -/
import Derived.Test.YtbdpbkblihaeiaaDoorRw
namespace Go.Proofs.YtbdpbkblihaeiaaDoor
open Go.RowKit
set_option linter.unusedVariables false
set_option linter.unusedSimpArgs false
variable {w w' base : World} {B S p q bd G : Nat} {l r : List Slot} {v : Value} {told : List (Int × Int)}
def DoPost (base : World) (B S p q bd G K m : Nat) (e : Ending) (w' : World) : Prop := ∃ l' v' told', e = .returned (.tuple #[v', .bool true]) ∧ TR base w' B S p q bd l' v' told' G (l'.map refOf) ∧ l'.length = K ∧ told'.length ≤ m + 1
/-- An act's kind and entry lie in its block. -/
def ActIn (w : World) (b : Nat) (k x y : Int) (h p : Bool) : Prop := w.cell? ⟨b, 0, none⟩ = some (.int .i64 k) ∧ Four4 w b x y h p
theorem ActIn.on {b : Nat} {k x y : Int} {h p : Bool} (a : ActIn w b k x y h p) (hm : Mod (fun k => k < bd) w w') (hb : bd ≤ b) : ActIn w' b k x y h p := ⟨hi_cell hm a.1 hb, a.2.on hm hb⟩
theorem ActIn.put {b : Nat} {k x y : Int} {h p : Bool} (a : ActIn w b k x y h p) (o : Obj) : ActIn (w.alloc o) b k x y h p := by
  have e : ∀ c u, w.cell? ⟨b, c, none⟩ = some u → (w.alloc o).cell? ⟨b, c, none⟩ = some u := fun c u hc => cell_on (below1 w o) hc
  exact ⟨e _ _ a.1, e _ _ a.2.1, e _ _ a.2.2.1, e _ _ a.2.2.2.1, e _ _ a.2.2.2.2⟩
theorem Pair.grown {row : Option Nat} {b : Nat} {x y : Int} (k : Pair bd w b x y) (hg : w.grownBy w' row) (hne : some b = row → False) : Pair bd w' b x y := by
  have e : ∀ o, w'.cell? ⟨b, o, none⟩ = w.cell? ⟨b, o, none⟩ := fun o => World.cell?_of_block (w := w) (hg.block b k.2.1 hne)
  exact ⟨k.1, Nat.lt_of_lt_of_le k.2.1 hg.size, (e _).trans k.2.2.1, (e _).trans k.2.2.2⟩
set_option maxRecDepth 100000 in
set_option maxHeartbeats 4000000 in
theorem do_any (K : Nat) (A2 : Option Addr) (c2 : Nat) (h : TR base w B S p q bd l (.slice A2 told.length c2) told G (l.map refOf)) (hT : Tab base) (h0 : 0 < base.heap.size) (a : Act7) (hlen : told.length ≤ 100) (hK : l.length = K) :
    Calls Tryd.prog 44 #[act7V a, .pointer (some ⟨B, 0, none⟩), refT G l.length, .slice A2 told.length c2] w (DoPost base B S p q bd G K told.length) := by
  obtain ⟨i0, hi, hz0, hz1, hz2⟩ := info_parts infoTok
  have HI := Lib.hid hi
  have HZ0 := Lib.hid hz0
  have HZ1 := Lib.hid hz1
  have HZ2 := Lib.hid hz2
  clear hi hz0 hz1 hz2
  obtain ⟨xk, xw, xr, xi, xg, ⟨xa, xre, xh, xp⟩⟩ := a
  have hle := h.ts.le
  have HLE := Lib.hid h.ts.tab.le
  have HGEN := Lib.hid h.ts.tab.gen
  have HT := Lib.hid hT
  have HK := Lib.hid hK
  have HNA : Hid (∀ k, (Value.slice A2 told.length c2).ownBlock = some k → k < w.heap.size) := Lib.hid (fun k e => (h.ts.row.lt k e).2)
  obtain ⟨A9, c9, e9, _, hs9⟩ := own_any h.ts.row
  cases e9
  have HC : Hid (Calls Tryd.prog 40 #[act7V ⟨xk, xw, xr, xi, xg, ⟨xa, xre, xh, xp⟩⟩, .slice A2 told.length c2] (w.alloc (.cells #[.int .i64 xk, .int .i64 xw, .bool xr, .int .i64 xi, .int .i64 xg, .int .i64 xa, .int .i64 xre, .bool xh, .bool xp] 70)) (TokPost (w.alloc (.cells #[.int .i64 xk, .int .i64 xw, .bool xr, .int .i64 xi, .int .i64 xg, .int .i64 xa, .int .i64 xre, .bool xh, .bool xp] 70)))) :=
    Lib.hid (token_any _ A2 c2 (by unfold maxLen; omega) (hs9.on (below1 w _)))
  have H1 := Lib.hid (h.put (.cells #[.int .i64 xk, .int .i64 xw, .bool xr, .int .i64 xi, .int .i64 xg, .int .i64 xa, .int .i64 xre, .bool xh, .bool xp] 70))
  have hblk := heap_alloc_new w (.cells #[.int .i64 xk, .int .i64 xw, .bool xr, .int .i64 xi, .int .i64 xg, .int .i64 xa, .int .i64 xre, .bool xh, .bool xp] 70)
  have HA1 : Hid (ActIn (w.alloc (.cells #[.int .i64 xk, .int .i64 xw, .bool xr, .int .i64 xi, .int .i64 xg, .int .i64 xa, .int .i64 xre, .bool xh, .bool xp] 70)) w.heap.size xk xa xre xh xp) := Lib.hid ⟨(blk_cells hblk 0).trans rfl, (blk_cells hblk 5).trans rfl, (blk_cells hblk 6).trans rfl, (blk_cells hblk 7).trans rfl, (blk_cells hblk 8).trans rfl⟩
  clear h hT hK hs9 hblk
  unfold act7V act7Enc refT
  go_enter Tryd.func44, Tryd.ntmps44
  go_wp2_with fail
  refine HC.out.mono ?_
  rintro e w2 ⟨i, g, rfl, hb⟩
  have H2 := Lib.hid ((H1.out.on hb).put (.cells #[.int .i64 i, .int .i64 g] 57))
  have hle2 : bd ≤ w2.heap.size := (H1.out.on hb).ts.le
  have HA2 := Lib.hid ((HA1.out.on (.of_below hb) hle).put (.cells #[.int .i64 i, .int .i64 g] 57))
  have HX2 := Lib.hid (Pair.new hle2 i g 57)
  have x0 := HX2.out.2.2.1
  have x1 := HX2.out.2.2.2
  have HNX : Hid (∀ k, (Value.slice A2 told.length c2).ownBlock = some k → k < w2.heap.size) := Lib.hid (fun k e => by have := HNA.out k e; have := hb.size; simp at this; omega)
  clear hb HC H1 HA1
  unfold tokV
  go_wp2_with fail
  refine (H2.out.freshR i g).mono ?_
  rintro e w3 ⟨rfl, h3, hm3⟩
  have H3 := Lib.hid h3
  have HA3 := Lib.hid (HA2.out.on hm3 hle)
  have HX3 := Lib.hid (HX2.out.on hm3)
  have f0 := HA3.out.1
  have f5 := HA3.out.2.1
  have f6 := HA3.out.2.2.1
  have f7 := HA3.out.2.2.2.1
  have f8 := HA3.out.2.2.2.2
  have hlx := hle2
  generalize hxb : w2.heap.size = xb at *
  generalize hab : w.heap.size = ab at *
  clear h3 hm3 x0 x1 H2 HA2 HX2 hxb hab hle2
  have x0 := HX3.out.2.2.1
  have x1 := HX3.out.2.2.2
  by_cases hk0 : xk = 0
  · subst hk0
    have hcase : freshT l i g = true ∨ freshT l i g = false := by cases freshT l i g <;> simp
    rcases hcase with hf | hf
    all_goals
      rw [hf]
      go_wp2_with fail
      refine (H3.out.add HT.out h0 ⟨xa, xre, xh, xp⟩).mono ?_
      rintro e w4 ⟨rfl, h4, hm4⟩
      have H4 := Lib.hid (h4.put (.cells #[.int .i64 (addTok l).1, .int .i64 (addTok l).2] 57))
      have HA4 := Lib.hid ((HA3.out.on hm4 hle).put (.cells #[.int .i64 (addTok l).1, .int .i64 (addTok l).2] 57))
      have HY4 := Lib.hid (Pair.new h4.ts.le (addTok l).1 (addTok l).2 57)
      have HNY : Hid (∀ k, (Value.slice A2 told.length c2).ownBlock = some k → k < w4.heap.size) := Lib.hid (fun k e => (h4.ts.row.lt k e).2)
      have g5 := HA4.out.2.1
      have g6 := HA4.out.2.2.1
      have g7 := HA4.out.2.2.2.1
      have g8 := HA4.out.2.2.2.2
      clear h4 hm4 f0 f5 f6 f7 f8 x0 x1 H3 HX3
      unfold tokV
      go_wp2_with fail
      refine (H4.out.addR HGEN.out rfl).mono ?_
      rintro e w5 ⟨rfl, h5, hm5⟩
      have H5 := Lib.hid (h5.put (.cells #[.int .i64 (addTok l).1, .int .i64 (addTok l).2] 57))
      have HY5 := Lib.hid ((HY4.out.on hm5).put (.cells #[.int .i64 (addTok l).1, .int .i64 (addTok l).2] 57))
      have HZ5 := Lib.hid (Pair.new h5.ts.le (addTok l).1 (addTok l).2 57)
      have HNZ : Hid (∀ k, (Value.slice A2 told.length c2).ownBlock = some k → k < w5.heap.size) := Lib.hid (fun k e => (h5.ts.row.lt k e).2)
      have HL5 := Lib.hid ((addT_length l ⟨xa, xre, xh, xp⟩).trans HK.out)
      have hle5 := h5.ts.le
      have y0 := HY5.out.2.2.1
      have y1 := HY5.out.2.2.2
      have z0 := HZ5.out.2.2.1
      have z1 := HZ5.out.2.2.2
      clear h5 hm5 g5 g6 g7 g8 H4 HA4 HY4 HA3
      have he : addErr l = 0 ∨ addErr l = 12 := by unfold addErr; split <;> simp
      generalize addT l ⟨xa, xre, xh, xp⟩ = l2 at *
      generalize addTok l = tk at *
      obtain ⟨ti, tg⟩ := tk
      unfold tokV
      generalize hyb : w4.heap.size = yb at *
      clear hyb
      rcases he with he | he
      · rw [he]
        go_wp2_with (at_builtin; refine wpList_append_own _ rfl _ _ 53 rfl bd 57 i0 (.agg #[.int .i64 0, .int .i64 0]) 2 16 Tryd.underlying53 HI.out HZ0.out HZ1.out HZ2.out rfl (by decide) _ _ _ rfl (H5.out.ts.row.alloc _) ⟨w5.heap.size + 1, 0, none⟩ 1 1 [.int .i64 ti, .int .i64 tg] rfl rfl (World.news_of_block (cs := #[.int .i64 ti, .int .i64 tg]) (t := 57) (fr := (0, 0)) (by simpa using heap_alloc_new (w5.alloc (.cells #[.int .i64 ti, .int .i64 tg] 57)) (.cells #[.int .i64 ti, .int .i64 tg] 57))) (by simp [Value.oneCell']) (by unfold maxLen; omega) (by omega) (by simp; omega) ?_; intro v' w6 hown' hgrow _; have HY6 := Lib.hid ((HY5.out.put (.cells #[.int .i64 ti, .int .i64 tg] 57)).grown hgrow (fun e => by have := HNY.out _ e.symm; omega)); have HZ6 := Lib.hid ((HZ5.out.put (.cells #[.int .i64 ti, .int .i64 tg] 57)).grown hgrow (fun e => by have := HNZ.out _ e.symm; omega)); have H6 := Lib.hid ((H5.out.put (.cells #[.int .i64 ti, .int .i64 tg] 57)).app hgrow (told' := told ++ [(ti, tg)]) (by simpa [tokEnc] using hown')); have a0 := HY6.out.2.2.1; have a1 := HY6.out.2.2.2; have b0 := HZ6.out.2.2.1; have b1 := HZ6.out.2.2.2; clear hown' hgrow y0 y1 z0 z1)
        go_ret2
        exact ⟨l2, _, told ++ [(ti, tg)], rfl, H6.out, HL5.out, by simp⟩
      · rw [he]
        go_wp2
        go_ret2
        exact ⟨l2, _, told, rfl, H5.out, HL5.out, by omega⟩
  · by_cases hk1 : xk = 1
    · subst hk1
      rcases err_cases (l := l) i g with ⟨hf, he⟩ | ⟨hf, he⟩
      · obtain ⟨k, rfl, h1, h2, h3⟩ := fresh_out hf
        have hge : getE l k g = (l.getD k slot0).e := by unfold getE; rw [if_pos hf, Int.toNat_natCast]
        have hre : ((l.map refOf).getD k slot0).e = (l.getD k slot0).e := by rw [refOf_get h1]; rfl
        rw [hf]
        go_wp2_with fail
        refine (H3.out.get k g).mono ?_
        rintro e w4 ⟨rfl, h4, hm4⟩
        rw [hge, he]
        have hkr : k < (l.map refOf).length := by simpa using h1
        have m2 := (h4.put (.cells #[.int .i64 (l.getD k slot0).e.addr, .int .i64 (l.getD k slot0).e.region, .bool (l.getD k slot0).e.held, .bool (l.getD k slot0).e.pinned] 51)).ref.cell k hkr 2 _ rfl
        have m3 := (h4.put (.cells #[.int .i64 (l.getD k slot0).e.addr, .int .i64 (l.getD k slot0).e.region, .bool (l.getD k slot0).e.held, .bool (l.getD k slot0).e.pinned] 51)).ref.cell k hkr 3 _ rfl
        have m4 := (h4.put (.cells #[.int .i64 (l.getD k slot0).e.addr, .int .i64 (l.getD k slot0).e.region, .bool (l.getD k slot0).e.held, .bool (l.getD k slot0).e.pinned] 51)).ref.cell k hkr 4 _ rfl
        have m5 := (h4.put (.cells #[.int .i64 (l.getD k slot0).e.addr, .int .i64 (l.getD k slot0).e.region, .bool (l.getD k slot0).e.held, .bool (l.getD k slot0).e.pinned] 51)).ref.cell k hkr 5 _ rfl
        rw [hre] at m2 m3 m4 m5
        have H4 := Lib.hid (h4.put (.cells #[.int .i64 (l.getD k slot0).e.addr, .int .i64 (l.getD k slot0).e.region, .bool (l.getD k slot0).e.held, .bool (l.getD k slot0).e.pinned] 51))
        have HX4 := Lib.hid ((HX3.out.on hm4).put (.cells #[.int .i64 (l.getD k slot0).e.addr, .int .i64 (l.getD k slot0).e.region, .bool (l.getD k slot0).e.held, .bool (l.getD k slot0).e.pinned] 51))
        have hz := heap_alloc_new w4 (.cells #[.int .i64 (l.getD k slot0).e.addr, .int .i64 (l.getD k slot0).e.region, .bool (l.getD k slot0).e.held, .bool (l.getD k slot0).e.pinned] 51)
        have z0 := (blk_cells hz 0).trans rfl
        have z1 := (blk_cells hz 1).trans rfl
        have z2 := (blk_cells hz 2).trans rfl
        have z3 := (blk_cells hz 3).trans rfl
        have k0 := HX4.out.2.2.1
        clear h4 hm4 f0 f5 f6 f7 f8 x0 x1 H3 HX3 hge hre hz hf he h2 h3 hk0 hkr
        generalize (l.getD k slot0).e = en at *
        unfold entV
        go_wp2
        generalize hW : w4.alloc (.cells #[.int .i64 en.addr, .int .i64 en.region, .bool en.held, .bool en.pinned] 51) = W4 at *
        refine wp_region_quiet_lit (by kernel_rfl) (by kernel_rfl) ?_
        iterate 28
          with_reducible refine wpQuiet_step ?_
          intro K hK
          go_simp
          first
            | (with_reducible refine hK _ ?_)
            | (rw [if_neg (by simp [undef])]; with_reducible refine hK _ ?_)
          clear hK K
        refine wpQuiet_nil ?_
        intro _ hw'
        obtain ⟨nq, hw''⟩ := hw'
        subst hw''
        go_wp2
        go_ret2
        exact ⟨l, _, told, rfl, H4.out.on (below_drewN (Below.refl _ _) _), HK.out, by omega⟩
      · have hge : getE l i g = noEntry := by unfold getE; rw [hf]; rfl
        rw [hf]
        go_wp2_with fail
        refine (H3.out.get i g).mono ?_
        rintro e w4 ⟨rfl, h4, hm4⟩
        rw [hge, he]
        have H4 := Lib.hid (h4.put (.cells #[.int .i64 0, .int .i64 0, .bool false, .bool false] 51))
        have hz := heap_alloc_new w4 (.cells #[.int .i64 0, .int .i64 0, .bool false, .bool false] 51)
        have z0 := (blk_cells hz 0).trans rfl
        have z1 := (blk_cells hz 1).trans rfl
        have z2 := (blk_cells hz 2).trans rfl
        have z3 := (blk_cells hz 3).trans rfl
        clear h4 hm4 f0 f5 f6 f7 f8 x0 x1 H3 HX3 hge hz hf he hk0
        unfold entV noEntry
        go_wp2
        generalize hW : w4.alloc (.cells #[.int .i64 0, .int .i64 0, .bool false, .bool false] 51) = W4 at *
        refine wp_region_quiet_lit (by kernel_rfl) (by kernel_rfl) ?_
        iterate 28
          with_reducible refine wpQuiet_step ?_
          intro K hK
          go_simp
          first
            | (with_reducible refine hK _ ?_)
            | (rw [if_neg (by simp [undef])]; with_reducible refine hK _ ?_)
          clear hK K
        refine wpQuiet_nil ?_
        intro _ hw'
        obtain ⟨nq, hw''⟩ := hw'
        subst hw''
        go_wp2
        go_ret2
        exact ⟨l, _, told, rfl, H4.out.on (below_drewN (Below.refl _ _) _), HK.out, by omega⟩
    · by_cases hk2 : xk = 2
      · subst hk2
        rcases err_cases (l := l) i g with ⟨hf, he⟩ | ⟨hf, he⟩
        · obtain ⟨k, rfl, h1, h2, h3⟩ := fresh_out hf
          have hst : setT l k g ⟨xa, xre, xh, xp⟩ = l.set k ⟨(l.getD k slot0).gen, true, ⟨xa, xre, xh, xp⟩⟩ := by unfold setT; rw [if_pos hf, Int.toNat_natCast]
          have hsr := set_ref h1 h2 ⟨xa, xre, xh, xp⟩
          rw [← hst] at hsr
          have HSR := Lib.hid hsr
          have HL2 := Lib.hid ((setT_length l k g ⟨xa, xre, xh, xp⟩).trans HK.out)
          rw [hf]
          go_wp2_with fail
          refine (H3.out.set k g ⟨xa, xre, xh, xp⟩).mono ?_
          rintro e w4 ⟨rfl, h4, hm4⟩
          rw [he]
          have H4 := Lib.hid h4
          have HX4 := Lib.hid (HX3.out.on hm4)
          have HA4 := Lib.hid (HA3.out.on hm4 hle)
          have hkr : k < (l.map refOf).length := by simpa using h1
          have m2 := h4.ref.cell k hkr 2 _ rfl
          have m3 := h4.ref.cell k hkr 3 _ rfl
          have m4 := h4.ref.cell k hkr 4 _ rfl
          have m5 := h4.ref.cell k hkr 5 _ rfl
          have t2 := blk_thaw h4.ref.body (k * 6 + 2)
          have t3 := blk_thaw h4.ref.body (k * 6 + 3)
          have t4 := blk_thaw h4.ref.body (k * 6 + 4)
          have t5 := blk_thaw h4.ref.body (k * 6 + 5)
          have HKR := Lib.hid hkr
          clear h4 hm4 f0 f5 f6 f7 f8 x0 x1 H3 HX3 HA3 hst hsr hf he h2 h3 hk0 hk1 hkr
          have x0 := HX4.out.2.2.1
          have g5 := HA4.out.2.1
          have g6 := HA4.out.2.2.1
          have g7 := HA4.out.2.2.2.1
          have g8 := HA4.out.2.2.2.2
          generalize setT l k g ⟨xa, xre, xh, xp⟩ = l2 at *
          go_wp2
          go_ret2
          have hb2 := entSet_body H4.out.ref.body k HKR.out ⟨xa, xre, xh, xp⟩
          have hr2 := H4.out.ref.turned k ⟨((l.map refOf).getD k slot0).gen, ((l.map refOf).getD k slot0).used, ⟨xa, xre, xh, xp⟩⟩ (H4.out.ref.getGen k) hb2
          rw [← HSR.out] at hr2
          exact ⟨l2, _, told, rfl, (H4.out.toG hr2 (entSet_mod _ _ _ _ rfl)).1, HL2.out, by omega⟩
        · have hst : setT l i g ⟨xa, xre, xh, xp⟩ = l := by unfold setT; rw [if_neg (by rw [hf]; decide)]
          rw [hf]
          go_wp2_with fail
          refine (H3.out.set i g ⟨xa, xre, xh, xp⟩).mono ?_
          rintro e w4 ⟨rfl, h4, hm4⟩
          rw [he]
          rw [hst] at h4
          have H4 := Lib.hid h4
          clear h4 hm4 f0 f5 f6 f7 f8 x0 x1 H3 HX3 HA3 hst hf he hk0 hk1
          go_wp2
          go_ret2
          exact ⟨l, _, told, rfl, H4.out, HK.out, by omega⟩
      · by_cases hk3 : xk = 3
        · subst hk3
          rcases err_cases (l := l) i g with ⟨hf, he⟩ | ⟨hf, he⟩
          · have HF := Lib.hid hf
            have HL2 := Lib.hid ((dropT_length l i g).trans HK.out)
            rw [hf]
            go_wp2_with fail
            refine (H3.out.drop i g).mono ?_
            rintro e w4 ⟨rfl, h4, hm4⟩
            rw [he]
            have H4 := Lib.hid h4
            have HX4 := Lib.hid (HX3.out.on hm4)
            clear h4 hm4 f0 f5 f6 f7 f8 x0 x1 H3 HX3 HA3 hf he hk0 hk1 hk2
            have x0 := HX4.out.2.2.1
            have x1 := HX4.out.2.2.2
            go_wp2_with fail
            refine (H4.out.dropR HGEN.out HF.out rfl).mono ?_
            rintro e w5 ⟨rfl, h5, hm5⟩
            have H5 := Lib.hid h5
            clear h5 hm5
            go_wp2
            go_ret2
            exact ⟨_, _, told, rfl, H5.out, HL2.out, by omega⟩
          · have hst : dropT l i g = l := by unfold dropT; rw [if_neg (by rw [hf]; decide)]
            rw [hf]
            go_wp2_with fail
            refine (H3.out.drop i g).mono ?_
            rintro e w4 ⟨rfl, h4, hm4⟩
            rw [he]
            rw [hst] at h4
            have H4 := Lib.hid h4
            clear h4 hm4 f0 f5 f6 f7 f8 x0 x1 H3 HX3 HA3 hst hf he hk0 hk1 hk2
            go_wp2
            go_ret2
            exact ⟨l, _, told, rfl, H4.out, HK.out, by omega⟩
        · have z0 : (xk == 0) = false := by simpa using hk0
          have z1 : (xk == 1) = false := by simpa using hk1
          have z2 : (xk == 2) = false := by simpa using hk2
          have z3 : (xk == 3) = false := by simpa using hk3
          clear hk0 hk1 hk2 hk3 x0 x1
          have hcase : freshT l i g = true ∨ freshT l i g = false := by cases freshT l i g <;> simp
          rcases hcase with hf | hf
          all_goals
            rw [hf]
            go_wp2
            go_ret2
            exact ⟨l, _, told, rfl, H3.out, HK.out, by omega⟩
end Go.Proofs.YtbdpbkblihaeiaaDoor
