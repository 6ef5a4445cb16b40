/- The document's Join: a walk. The document's Alloc: walks. The document's Clear: a walk. -/
import Derived.Test.YtkaflgbipjppmaaDoorDA
import Derived.Test.YtkaflgbipjppmaaDoorPp
namespace Go.Proofs.YtkaflgbipjppmaaDoor
section
open Go.RowKit
set_option linter.unusedVariables false
set_option linter.unusedSimpArgs false
variable {w w' : World} {G Wg Og size D E bd f f2 : Nat} {W W' own own' : List Int} {u u2 : Value} {parts parts2 : List (Nat × Nat)} {ow pr ow2 pr2 : Int}
theorem dp_len : ∀ l : List (Nat × Nat), (l.flatMap dpEnc).length = l.length * 3
  | [] => rfl
  | x :: l => by
    have := dp_len l
    simp only [List.flatMap_cons, List.length_append, this, List.length_cons, Nat.succ_mul, dpEnc, List.length_nil]
    omega
theorem dp_cells (l : List (Nat × Nat)) : ∀ u ∈ l.flatMap dpEnc, u.oneCell' = true := fun u hu => by
  obtain ⟨x, _, hx⟩ := List.mem_flatMap.1 hu
  simp only [dpEnc, List.mem_cons, List.not_mem_nil, or_false] at hx
  rcases hx with rfl | rfl | rfl <;> rfl
def djP (pr2 : Int) (x y : Int) : Int := if 0 ≤ pr2 then x else y
def djF (pr2 : Int) (x y : Nat) : Nat := if 0 ≤ pr2 then x else y
def DJoinPost (w : World) (G Wg Og : Nat) (W : List Int) (size : Nat) (own : List Int) (D E bd : Nat) (ow ow2 : Int) (u : Value) (parts parts2 : List (Nat × Nat)) (pr pr2 : Int) (f f2 : Nat) (e : Ending) (w' : World) : Prop :=
  e = .returned (.tuple #[]) ∧ (∃ u', DocAt w' D G bd ow u' (parts ++ parts2) (djP pr2 pr2 pr) (djF pr2 f2 f)) ∧ DocAt w' E G bd ow2 (.slice none 0 0) [] (-1) 0 ∧ RefSt w' G Wg Og W size (giveL own ow parts2) ∧ Mod (DHandS Wg Og D E u) w w'
/-- What the stores behind the append leave. -/
theorem join_fin {w5 X2 : World} {v' : Value} (h : DocAt X2 D G bd ow v' (parts ++ parts2) pr f) (hE : X2.heap[E]? = some (.cells #[.pointer (some ⟨G, 0, none⟩), .int .i64 ow2, u2, .int .i64 pr2, .int .i64 f2] 115 (0, 0))) (hp1 : -1 ≤ pr2) (hp2 : pr2 ≤ 1024) (hf2 : f2 ≤ 1024) (hr : RefSt X2 G Wg Og W size own') (hDE : D ≠ E) (how : own' = giveL own ow parts2) (hm : Mod (DHandS Wg Og D E u) w X2) (hfE : v'.ownBlock ≠ some E) :
    (0 ≤ pr2 → DJoinPost w G Wg Og W size own D E bd ow ow2 u parts parts2 pr pr2 f f2 (.returned (.tuple #[])) (((((X2.setCell ⟨E, 2, none⟩ (.slice none 0 0)).setCell ⟨D, 3, none⟩ (.int .i64 pr2)).setCell ⟨D, 4, none⟩ (.int .i64 f2)).setCell ⟨E, 3, none⟩ (.int .i64 (-1))).setCell ⟨E, 4, none⟩ (.int .i64 0))) ∧
    (¬ 0 ≤ pr2 → DJoinPost w G Wg Og W size own D E bd ow ow2 u parts parts2 pr pr2 f f2 (.returned (.tuple #[])) (((X2.setCell ⟨E, 2, none⟩ (.slice none 0 0)).setCell ⟨E, 3, none⟩ (.int .i64 (-1))).setCell ⟨E, 4, none⟩ (.int .i64 0))) := by
  subst how
  have fD := h.far hr
  have fE : ∀ k, k = G ∨ k = Wg ∨ k = Og → k ≠ E := fun k hk => by
    rcases hk with rfl | rfl | rfl
    · exact type_ne hr.head hE (by decide)
    · exact type_ne hr.body hE (by decide)
    · exact type_ne hr.owners hE (by decide)
  have hnp := h.np
  have hED : E ≠ D := fun e => hDE e.symm
  constructor
  · intro hp
    have m1 : Mod (fun k => k = E) X2 (X2.setCell ⟨E, 2, none⟩ (.slice none 0 0)) := Mod.setCell _ _ _ _ rfl
    have m2 : Mod (fun k => k = D) (X2.setCell ⟨E, 2, none⟩ (.slice none 0 0)) (((X2.setCell ⟨E, 2, none⟩ (.slice none 0 0)).setCell ⟨D, 3, none⟩ (.int .i64 pr2)).setCell ⟨D, 4, none⟩ (.int .i64 f2)) := (Mod.setCell (fun k => k = D) _ ⟨D, 3, none⟩ _ rfl).trans (Mod.setCell (fun k => k = D) _ ⟨D, 4, none⟩ _ rfl)
    have m3 : Mod (fun k => k = E) (((X2.setCell ⟨E, 2, none⟩ (.slice none 0 0)).setCell ⟨D, 3, none⟩ (.int .i64 pr2)).setCell ⟨D, 4, none⟩ (.int .i64 f2)) (((((X2.setCell ⟨E, 2, none⟩ (.slice none 0 0)).setCell ⟨D, 3, none⟩ (.int .i64 pr2)).setCell ⟨D, 4, none⟩ (.int .i64 f2)).setCell ⟨E, 3, none⟩ (.int .i64 (-1))).setCell ⟨E, 4, none⟩ (.int .i64 0)) := (Mod.setCell (fun k => k = E) _ ⟨E, 3, none⟩ _ rfl).trans (Mod.setCell (fun k => k = E) _ ⟨E, 4, none⟩ _ rfl)
    have mm : Mod (fun k => k = E ∨ k = D) X2 (((((X2.setCell ⟨E, 2, none⟩ (.slice none 0 0)).setCell ⟨D, 3, none⟩ (.int .i64 pr2)).setCell ⟨D, 4, none⟩ (.int .i64 f2)).setCell ⟨E, 3, none⟩ (.int .i64 (-1))).setCell ⟨E, 4, none⟩ (.int .i64 0)) := ((m1.mono fun k _ e => .inl e).trans (m2.mono fun k _ e => .inr e)).trans (m3.mono fun k _ e => .inl e)
    refine ⟨rfl, ⟨v', ?_, ?_, h.pin, ?_, ?_, ?_⟩, ⟨?_, World.ownsRow_nil _ _ _ _, (fun x hx => nomatch hx), by decide, by decide, by decide⟩, hr.mod mm ?_ ?_ ?_, hm.trans (mm.mono fun k _ e => ?_)⟩
    · have e1 : djP pr2 pr2 pr = pr2 := if_pos hp
      have e2 : djF pr2 f2 f = f2 := if_pos hp
      rw [e1, e2]
      exact m3.keeps (blk_set (blk_set (m1.keeps h.head (fun e => hDE e)) 3 _) 4 _) (fun e => hDE e)
    · exact own_mod h.row mm (fun k hk e => by
        rcases e with e | e
        · exact hfE (hk.trans (by rw [e]))
        · exact hnp (hk.trans (by rw [e])))
    · unfold djP; rw [if_pos hp]; exact hp1
    · unfold djP; rw [if_pos hp]; exact hp2
    · unfold djF; rw [if_pos hp]; exact hf2
    · exact blk_set (blk_set (m2.keeps (blk_set hE 2 _) (fun e => hED e)) 3 _) 4 _
    · rintro (e | e)
      · exact fE _ (.inl rfl) e
      · exact (fD _ (.inl rfl)).1 e
    · rintro (e | e)
      · exact fE _ (.inr (.inl rfl)) e
      · exact (fD _ (.inr (.inl rfl))).1 e
    · rintro (e | e)
      · exact fE _ (.inr (.inr rfl)) e
      · exact (fD _ (.inr (.inr rfl))).1 e
    · rcases e with e | e
      · exact .inr (.inr (.inl e))
      · exact .inr (.inl e)
  · intro hp
    have mm : Mod (fun k => k = E) X2 (((X2.setCell ⟨E, 2, none⟩ (.slice none 0 0)).setCell ⟨E, 3, none⟩ (.int .i64 (-1))).setCell ⟨E, 4, none⟩ (.int .i64 0)) := ((Mod.setCell (fun k => k = E) _ ⟨E, 2, none⟩ _ rfl).trans (Mod.setCell (fun k => k = E) _ ⟨E, 3, none⟩ _ rfl)).trans (Mod.setCell (fun k => k = E) _ ⟨E, 4, none⟩ _ rfl)
    have e1 : djP pr2 pr2 pr = pr := if_neg hp
    have e2 : djF pr2 f2 f = f := if_neg hp
    refine ⟨rfl, ⟨v', ?_⟩, ⟨blk_set (blk_set (blk_set hE 2 _) 3 _) 4 _, World.ownsRow_nil _ _ _ _, (fun x hx => nomatch hx), by decide, by decide, by decide⟩, hr.mod mm (fun e => fE _ (.inl rfl) e) (fun e => fE _ (.inr (.inl rfl)) e) (fun e => fE _ (.inr (.inr rfl)) e), hm.trans (mm.mono fun k _ e => .inr (.inr (.inl e)))⟩
    rw [e1, e2]
    exact h.mod mm (fun e => hDE e) (fun k hk e => hfE (hk.trans (by rw [e])))
theorem DJoinPost.drew {e : Ending} {X : World} (h : DJoinPost w G Wg Og W size own D E bd ow ow2 u parts parts2 pr pr2 f f2 e X) : DJoinPost w G Wg Og W size own D E bd ow ow2 u parts parts2 pr pr2 f f2 e X.drew := by
  obtain ⟨h1, ⟨u', h2⟩, h3, h4, h5⟩ := h
  have hb : Below X.heap.size X X.drew := Below.drew (Below.refl _ _)
  exact ⟨h1, ⟨u', h2.on hb⟩, h3.on hb, h4.on hb, h5.trans (.of_below hb)⟩
set_option maxRecDepth 100000 in
set_option maxHeartbeats 4000000 in
theorem djoin_in (h : DocAt w D G bd ow u parts pr f) (h2 : DocAt w E G bd ow2 u2 parts2 pr2 f2) (hr : RefSt w G Wg Og W size own) (hDE : D ≠ E) (how : 1 ≤ ow) (hpl : parts.length ≤ 1000000) (hpl2 : parts2.length ≤ 1000000) (ho : ∀ x ∈ parts2, ∀ c, c < x.2 → own.getD (x.1 + c) 0 ≠ 0) (hol : ∀ x ∈ parts2, x.1 + x.2 ≤ own.length) (hbd : bd ≤ w.heap.size) :
    Calls Tryd.prog 73 #[.pointer (some ⟨D, 0, none⟩), .pointer (some ⟨E, 0, none⟩)] w (DJoinPost w G Wg Og W size own D E bd ow ow2 u parts parts2 pr pr2 f f2) := by
  obtain ⟨i0, hi, hz0, hz1, hz2⟩ := info_parts infoDP
  have HI := Lib.hid hi
  have HZ0 := Lib.hid hz0
  have HZ1 := Lib.hid hz1
  have HZ2 := Lib.hid hz2
  clear hi hz0 hz1 hz2
  have HUE : Hid (u.ownBlock ≠ some E) := Lib.hid (own_type h.row h2.head (by decide))
  obtain ⟨A1, c1, rfl, hc1, -⟩ := own_slice dpEnc (0, 0) (fun _ => rfl) h.row
  obtain ⟨A2, c2, rfl, hc2, hS2⟩ := own_slice dpEnc (0, 0) (fun _ => rfl) h2.row
  have HS2 := Lib.hid hS2
  have H := Lib.hid h
  have H2 := Lib.hid h2
  have HR0 := Lib.hid hr
  have HO := Lib.hid ho
  have HOL := Lib.hid hol
  clear h h2 hr ho hol hS2
  go_enter Tryd.func73, Tryd.ntmps73
  go_wp2
  go_loopw [4] (fun v4 wr => ∃ i : Nat, i ≤ parts2.length ∧ v4 = .int .i64 i ∧ Hid (RefSt wr G Wg Og W size (giveL own ow (parts2.take i)) ∧ Mod (Two3 Wg Og) w wr)) (fun v4 _ => parts2.length - (intOf v4).toNat)
  case atStart => exact ⟨0, by omega, rfl, Lib.hid ⟨HR0.out, Mod.refl _ _⟩⟩
  case round =>
    obtain ⟨i, hi, rfl, HR⟩ := hrel
    have HD := Lib.hid (H.out.two HR0.out HR.out.2)
    have HE := Lib.hid (H2.out.two HR0.out HR.out.2)
    have q2 := HE.out.c2
    by_cases hlt : i < parts2.length
    · have p1 := HD.out.c1
      obtain ⟨b2, o2, rfl⟩ := dpart_some HS2.out i hlt
      obtain ⟨m, n, hxm⟩ : ∃ m n, parts2.getD i (0, 0) = (m, n) := ⟨_, _, rfl⟩
      obtain ⟨A3, c3, e3, -, hS3⟩ := own_slice dpEnc (0, 0) (fun _ => rfl) HE.out.row
      injection e3 with e3 e4 e5
      subst e3
      obtain ⟨e0, e1, e2⟩ := dpart_cells hS3 i hlt hxm
      have hmem := getD_mem i hlt
      have htk := take_snoc i hlt
      rw [hxm] at hmem htk
      have HG : Hid (∀ Y, Below wr.heap.size wr Y → Calls Tryd.prog 84 #[.pointer (some ⟨D, 0, none⟩), .agg #[.int .i64 m, .int .i64 n, .bool (decide (1 < n))], .int .i64 ow] Y fun e w' => e = .returned (.tuple #[]) ∧ RefSt w' G Wg Og W size (giveL own ow (parts2.take (i + 1))) ∧ Mod (Two3 Wg Og) wr w') := Lib.hid (fun Y hY => by
        have hol := HOL.out _ hmem
        have hg := dgive_in (HD.out.on hY) (HR.out.1.on hY) m n (decide (1 < n)) ow how (fun c hc => by
          rw [giveL_getD _ _ _ _ (fun x hx => HOL.out x (List.mem_of_mem_take hx))]
          split
          · omega
          · exact HO.out _ hmem c hc) (by rw [giveL_length]; exact hol)
        rw [htk, giveL_snoc]
        exact hg.mono fun e w' ⟨a1, a2, a3⟩ => ⟨a1, a2, (Mod.of_below hY).trans a3⟩)
      clear hmem htk hxm hS3
      go_wp2_with fail
      go_region_with (go_at_call 84; refine (HG.out _ (Below.drew (Below.refl _ _))).mono ?_; rintro e w5 ⟨rfl, hS5, hM5⟩)
      all_goals
        have HS5 := Lib.hid (And.intro hS5 (HR.out.2.trans hM5))
        clear hS5 hM5 HG
        go_wp2
        go_roundw
        case rel => exact ⟨i + 1, by omega, by go_num, HS5⟩
        case measure => simp [intOf]; omega
    · obtain rfl : i = parts2.length := by omega
      have p2 := HD.out.c2
      have hltD := block_lt HD.out.head
      have hltE := block_lt HE.out.head
      have hbd5 : bd ≤ wr.heap.size := Nat.le_trans hbd HR.out.2.size
      have hnpD : some D ≠ (Value.slice A1 parts.length c1).ownBlock := fun e => HD.out.np e.symm
      have hnpE : some E ≠ (Value.slice A1 parts.length c1).ownBlock := fun e => HUE.out e.symm
      have hRR := HR.out.1
      rw [List.take_length] at hRR
      have HRR := Lib.hid hRR
      clear hRR
      have n1 : ¬ D = E := hDE
      have n2 : ¬ E = D := fun e => hDE e.symm
      by_cases hem : parts2.length = 0
      · obtain rfl : parts2 = [] := List.eq_nil_of_length_eq_zero hem
        have hh2 := HE.out.head
        have hh1 := HD.out.head
        have q3 := HE.out.c3
        have q4 := HE.out.c4
        have t3 := blk_thaw hh1 3
        have t4 := blk_thaw hh1 4
        have t2 := blk_thaw hh1 2
        have s2 := blk_thaw hh2 2
        have s3 := blk_thaw hh2 3
        have s4 := blk_thaw hh2 4
        have p3 := HD.out.c3
        have p4 := HD.out.c4
        have q9 : parts.length ≤ c1 := hc1
        clear hh1 hh2
        simp only [List.length_nil] at q2
        have HG6 := Lib.hid (HD.out.grow (w6 := wr) (v' := .slice A1 parts.length c1) (ys := []) (Below.refl _ _) ⟨rfl, rfl, rfl, Nat.le_refl _, fun _ _ _ => rfl⟩ (by rw [List.append_nil]; exact HD.out.row) (fun k hk => .inl hk) (fun x hx => nomatch hx))
        have HFIN := Lib.hid (join_fin (w := w) (w5 := wr) (own := own) (u := .slice A1 parts.length c1) HG6.out.1 (HG6.out.2.keeps HE.out.head (fun e => by
            rcases e with e | e
            · exact n2 e
            · exact HUE.out e)) HE.out.p1 HE.out.p2 HE.out.f1 (HRR.out.mod HG6.out.2 (fun e => by
            rcases e with e | e
            · exact (HD.out.far HRR.out _ (.inl rfl)).1 e
            · exact (HD.out.far HRR.out _ (.inl rfl)).2 e) (fun e => by
            rcases e with e | e
            · exact (HD.out.far HRR.out _ (.inr (.inl rfl))).1 e
            · exact (HD.out.far HRR.out _ (.inr (.inl rfl))).2 e) (fun e => by
            rcases e with e | e
            · exact (HD.out.far HRR.out _ (.inr (.inr rfl))).1 e
            · exact (HD.out.far HRR.out _ (.inr (.inr rfl))).2 e)) hDE rfl ((HR.out.2.mono fun k _ e => .inl e).trans (HG6.out.2.mono fun k _ e => by
            rcases e with e | e
            · exact .inr (.inl e)
            · exact .inr (.inr (.inr e)))) HUE.out)
        rcases A1 with _ | a1 <;> rcases A2 with _ | a2
        all_goals
          go_wp2_with fail
          go_region_law (fail)
          all_goals
            by_cases hp : 0 ≤ pr2
            · have HP := Lib.hid hp
              go_wp2
              exact bodyPost_end (results_none rfl _ _ _) rfl (HFIN.out.1 HP.out).drew
            · have HP := Lib.hid hp
              go_wp2
              exact bodyPost_end (results_none rfl _ _ _) rfl (HFIN.out.2 HP.out).drew
      · obtain ⟨g2, rfl⟩ : ∃ g2, A2 = some ⟨g2, 0, none⟩ := by
          rcases HE.out.row.2 with ⟨hv, h0⟩ | ⟨g2, cap2, cur2, hv, _⟩
          · exact absurd h0 hem
          · injection hv with hv _ _
            exact ⟨g2, hv⟩
        have hcells := (rowW.of_own HE.out.row).cells (g := g2) rfl
        have HC := Lib.hid hcells
        clear hcells
        go_wp2_with fail
        go_region_law (refine step_append_lies _ rfl (.tmp 31) (.tmp 35) 113 rfl bd 120 i0 (.agg #[.int .i64 0, .int .i64 0, .bool false]) 3 24 Tryd.underlying113 HI.out HZ0.out HZ1.out HZ2.out rfl (by decide) (.slice A1 parts.length c1) _ _ rfl (own_on HD.out.row (Below.drew (Below.refl _ _))) ⟨g2, 0, none⟩ parts2.length c2 (parts2.flatMap dpEnc) rfl (dp_len _) HC.out (dp_cells _) (by omega) (by unfold maxLen; omega) (by omega) hbd5 _ rfl ?_; intro g cap w6 hown' hgrow hat hlt; have K6 := (hgrow.block D hltD hnpD).trans HD.out.head; have K7 := (hgrow.block E hltE hnpE).trans HE.out.head; have p2 := (blk_cells K6 2).trans rfl; have p3 := (blk_cells K6 3).trans rfl; have p4 := (blk_cells K6 4).trans rfl; have t2 := blk_thaw K6 2; have t3 := blk_thaw K6 3; have t4 := blk_thaw K6 4; have r2 := (blk_cells K7 2).trans rfl; have r3 := (blk_cells K7 3).trans rfl; have r4 := (blk_cells K7 4).trans rfl; have s2 := blk_thaw K7 2; have s3 := blk_thaw K7 3; have s4 := blk_thaw K7 4)
        all_goals
          have hv : parts.length + parts2.length = (parts ++ parts2).length := by simp
          have ho6 := hown'
          rw [hv, ← List.flatMap_append] at ho6
          have HG6 := Lib.hid (HD.out.grow (v' := .slice (some ⟨g, 0, none⟩) (parts ++ parts2).length cap) (ys := parts2) (Below.drew (Below.refl _ _)) hgrow ho6 (fun k hk => by
            injection hk with hk
            subst hk
            exact hat) H2.out.pin)
          have HAT := Lib.hid hat
          clear hown' hgrow hat ho6 K6 K7
          have hGE : (Value.slice (some ⟨g, 0, none⟩) (parts ++ parts2).length cap).ownBlock ≠ some E := fun e => by
            obtain rfl : g = E := by injection e
            rcases HAT.out with e | e
            · exact HUE.out e
            · have e2 : g = wr.heap.size := e
              omega
          have HGE := Lib.hid hGE
          clear hGE
          rw [← hv] at HG6 HGE
          have HFIN := Lib.hid (join_fin (w := w) (w5 := wr) (own := own) (u := .slice A1 parts.length c1) HG6.out.1 (HG6.out.2.keeps HE.out.head (fun e => by
            rcases e with e | e
            · exact n2 e
            · exact HUE.out e)) HE.out.p1 HE.out.p2 HE.out.f1 (HRR.out.mod HG6.out.2 (fun e => by
            rcases e with e | e
            · exact (HD.out.far HRR.out _ (.inl rfl)).1 e
            · exact (HD.out.far HRR.out _ (.inl rfl)).2 e) (fun e => by
            rcases e with e | e
            · exact (HD.out.far HRR.out _ (.inr (.inl rfl))).1 e
            · exact (HD.out.far HRR.out _ (.inr (.inl rfl))).2 e) (fun e => by
            rcases e with e | e
            · exact (HD.out.far HRR.out _ (.inr (.inr rfl))).1 e
            · exact (HD.out.far HRR.out _ (.inr (.inr rfl))).2 e)) hDE rfl ((HR.out.2.mono fun k _ e => .inl e).trans (HG6.out.2.mono fun k _ e => by
            rcases e with e | e
            · exact .inr (.inl e)
            · exact .inr (.inr (.inr e)))) HGE.out)
          clear hv
          by_cases hp : 0 ≤ pr2
          · have HP := Lib.hid hp
            go_wp2
            exact bodyPost_end (results_none rfl _ _ _) rfl (HFIN.out.1 HP.out)
          · have HP := Lib.hid hp
            go_wp2
            exact bodyPost_end (results_none rfl _ _ _) rfl (HFIN.out.2 HP.out)
end
section
open Go.RowKit
set_option linter.unusedVariables false
set_option linter.unusedSimpArgs false
variable {w w' : World} {G Wg Og size D E bd f f2 : Nat} {W W' own own' : List Int} {u u2 : Value} {parts parts2 : List (Nat × Nat)} {ow pr ow2 pr2 : Int}
theorem dalloc_few (D : Nat) (n : Int) (w : World) (h : n < 1) : Calls Tryd.prog 72 #[.pointer (some ⟨D, 0, none⟩), .int .i64 n] w fun e w' => e = .returned (.tuple #[.int .i64 0, .int .i64 2]) ∧ w = w' := by
  go_enter Tryd.func72, Tryd.ntmps72
  go_wp2
  go_ret2
  exact ⟨rfl, rfl⟩
set_option maxRecDepth 100000 in
set_option maxHeartbeats 1000000 in
theorem dalloc_room (c : Nat) (h : DocAt w D G bd ow u parts (c : Int) f) (hr : RefSt w G Wg Og W size own) (n : Nat) (hn : 1 ≤ n) (hc : n ≤ size - f) (hf : f ≤ size) :
    Calls Tryd.prog 72 #[.pointer (some ⟨D, 0, none⟩), .int .i64 n] w fun e w' => e = .returned (.tuple #[.int .i64 (c * size + f : Nat), .int .i64 0]) ∧ DocAt w' D G bd ow u parts (c : Int) (f + n) ∧ Mod (fun k => k = D) w w' := by
  have HC := Lib.hid (droom_in h hr (by omega) hf)
  have H := Lib.hid h
  have HR := Lib.hid hr
  have hs2 := hr.s2
  have hcp := h.p2
  have c1 : ¬ (n : Int) < 1 := by omega
  have c2 : (n : Int) ≤ ((size - f : Nat) : Int) := by omega
  obtain ⟨X, hX⟩ : ∃ X, X = c * size := ⟨_, rfl⟩
  have hX2 : X ≤ 1048576 := by rw [hX]; exact Nat.le_trans (Nat.mul_le_mul (show c ≤ 1024 by omega) hs2) (by decide)
  rw [← hX]
  have q1 : IntKind.i64.wrap ((c : Int) * (size : Int)) = (X : Int) := by
    rw [show ((c : Int) * (size : Int)) = (X : Int) by rw [hX]; simp, IntKind.wrap_i64]; omega
  have q2 : IntKind.i64.wrap ((X : Int) + ((f : Int) + (n : Int))) = (X : Int) + ((f : Int) + (n : Int)) := by rw [IntKind.wrap_i64]; omega
  have q3 : IntKind.i64.wrap ((X : Int) + ((f : Int) + (n : Int)) - (n : Int)) = ((X + f : Nat) : Int) := by rw [IntKind.wrap_i64]; omega
  clear h hr hX
  go_enter Tryd.func72, Tryd.ntmps72
  go_wp2_with fail
  refine HC.out.mono ?_
  rintro e w1 ⟨rfl, hb⟩
  have H1 := Lib.hid (H.out.on hb)
  have HR1 := Lib.hid (HR.out.on hb)
  have d0 := H1.out.c0
  have d3 := H1.out.c3
  have d4 := H1.out.c4
  have t4 := blk_thaw H1.out.head 4
  have g1 := HR1.out.c1
  have nG : ¬ G = D := (H1.out.far HR1.out _ (.inl rfl)).1
  have nD : ¬ D = G := fun e => nG e.symm
  have HB := Lib.hid hb
  clear hb HC
  go_wp2_with fail
  go_quiet (fail)
  go_wp2
  go_ret2
  have hm : Mod (fun k => k = D) w1 (w1.setCell ⟨D, 4, none⟩ (.int .i64 ((f : Int) + n))) := Mod.setCell _ _ _ _ rfl
  have hnp := H1.out.np
  have hd : DocAt (w1.setCell ⟨D, 4, none⟩ (.int .i64 ((f : Int) + n))) D G bd ow u parts (c : Int) (f + n) := ⟨by
    rw [show ((f + n : Nat) : Int) = (f : Int) + (n : Int) by omega]
    exact blk_set H1.out.head 4 _, own_mod H1.out.row hm (fun k hk e => hnp (hk.trans (by rw [e]))), H1.out.pin, H1.out.p1, H1.out.p2, by omega⟩
  exact ⟨rfl, hd.on (below_drewN (Below.refl _ _) _), ((Mod.of_below HB.out).trans hm).trans (.of_below (below_drewN (Below.refl _ _) _))⟩
theorem need_lt {size n k : Nat} (hs : 1 ≤ size) (hk : 1 ≤ k) (hn : 1 ≤ n) : k * size < n ↔ k < need size n := by
  unfold need
  have h1 := Nat.le_div_iff_mul_le (x := k) (y := n - 1) (show 0 < size by omega)
  constructor
  · intro h
    have := h1.2 (by omega)
    omega
  · intro h
    have := h1.1 (by omega)
    omega
theorem DocAt.setPr (h : DocAt w D G bd ow u parts pr f) (x : Int) (y : Nat) (h1 : -1 ≤ x) (h2 : x ≤ 1024) (h3 : y ≤ 1024) : DocAt ((w.setCell ⟨D, 3, none⟩ (.int .i64 x)).setCell ⟨D, 4, none⟩ (.int .i64 y)) D G bd ow u parts x y ∧ Mod (fun k => k = D) w ((w.setCell ⟨D, 3, none⟩ (.int .i64 x)).setCell ⟨D, 4, none⟩ (.int .i64 y)) := by
  have hm : Mod (fun k => k = D) w ((w.setCell ⟨D, 3, none⟩ (.int .i64 x)).setCell ⟨D, 4, none⟩ (.int .i64 y)) := (Mod.setCell (fun k => k = D) _ ⟨D, 3, none⟩ _ rfl).trans (Mod.setCell (fun k => k = D) _ ⟨D, 4, none⟩ _ rfl)
  have hnp := h.np
  exact ⟨⟨blk_set (blk_set h.head 3 _) 4 _, own_mod h.row hm (fun k hk e => hnp (hk.trans (by rw [e]))), h.pin, h1, h2, h3⟩, hm⟩
def DAllocPost (w : World) (G Wg Og : Nat) (W : List Int) (size : Nat) (own : List Int) (D bd : Nat) (ow : Int) (u : Value) (parts : List (Nat × Nat)) (pr : Int) (f n a k : Nat) (e : Ending) (w' : World) : Prop :=
  e = .returned (.tuple #[.int .i64 (a * size : Nat), .int .i64 0]) ∧ ∃ u', DocAt w' D G bd ow u' (parts ++ [(a, k)]) (if k = 1 then (a : Int) else pr) (if k = 1 then n else f) ∧
    RefSt w' G Wg Og (zeroW W (a * size) (k * size)) size (fillO own a ow k) ∧ Mod (DHandS Wg Og D D u) w w' ∧ (∀ j, u'.ownBlock = some j → u.ownBlock = some j ∨ w.heap.size ≤ j)
set_option maxRecDepth 100000 in
set_option maxHeartbeats 2000000 in
theorem dalloc_full (h : DocAt w D G bd ow u parts pr f) (hr : RefSt w G Wg Og W size own) (how : 1 ≤ ow) (n r : Nat) (hn : 1 ≤ n) (hn2 : n ≤ 1000000) (hroom : Calls Tryd.prog 51 #[.pointer (some ⟨D, 0, none⟩)] w fun e w' => e = .returned (.int .i64 r) ∧ Below w.heap.size w w') (hrn : r < n) (hrun : runAtO own (need size n) = (0, false)) :
    Calls Tryd.prog 72 #[.pointer (some ⟨D, 0, none⟩), .int .i64 n] w fun e w' => e = .returned (.tuple #[.int .i64 0, .int .i64 11]) ∧ Below w.heap.size w w' := by
  have HC := Lib.hid hroom
  have H := Lib.hid h
  have HR := Lib.hid hr
  have hs1 := hr.s1
  have hs2 := hr.s2
  have c1 : ¬ (n : Int) < 1 := by omega
  have c2 : ¬ (n : Int) ≤ (r : Int) := by omega
  obtain ⟨kk, hkk⟩ : ∃ kk, kk = need size n := ⟨_, rfl⟩
  have hk1 : 1 ≤ kk := by rw [hkk]; exact Nat.le_add_left 1 _
  have hkn : kk ≤ n := by
    rw [hkk]; unfold need
    have := Nat.div_le_self (n - 1) size
    omega
  have HN : Hid (∀ k, 1 ≤ k → (k * size < n ↔ k < kk)) := Lib.hid (fun k hk => by rw [hkk]; exact need_lt hs1 hk hn)
  rw [← hkk] at hrun
  have HTK : Hid (∀ Y, Below w.heap.size w Y → Calls Tryd.prog 63 #[.pointer (some ⟨G, 0, none⟩), .int .i64 ow, .int .i64 kk] Y fun e w' => e = .returned (.tuple #[.int .i64 0, .int .i64 11]) ∧ Y = w') := Lib.hid (fun Y hY => rtake_full (hr.on hY) ow kk how hk1 (by omega) hrun)
  clear h hr hroom hrun hkk
  go_enter Tryd.func72, Tryd.ntmps72
  go_wp2_with fail
  refine HC.out.mono ?_
  rintro e w1 ⟨rfl, hb⟩
  have H1 := Lib.hid (H.out.on hb)
  have HR1 := Lib.hid (HR.out.on hb)
  have d0 := H1.out.c0
  have d1 := H1.out.c1
  have g1 := HR1.out.c1
  have HB := Lib.hid hb
  clear hb HC
  go_wp2_with fail
  go_loopw [7] (fun v7 wr => w1 = wr ∧ ∃ k : Nat, 1 ≤ k ∧ k ≤ kk ∧ v7 = .int .i64 k) (fun v7 _ => kk - (intOf v7).toNat)
  case atStart => exact ⟨rfl, 1, by omega, by omega, rfl⟩
  case round =>
    obtain ⟨rfl, k, hk, hk2, rfl⟩ := hrel
    obtain ⟨X, hX⟩ : ∃ X, X = k * size := ⟨_, rfl⟩
    have hX2 : X ≤ 1024000000 := by rw [hX]; exact Nat.le_trans (Nat.mul_le_mul (show k ≤ 1000000 by omega) hs2) (by decide)
    have hXn := HN.out k hk
    rw [← hX] at hXn
    have q1 : IntKind.i64.wrap ((k : Int) * (size : Int)) = (X : Int) := by
      rw [show ((k : Int) * (size : Int)) = (X : Int) by rw [hX]; simp, IntKind.wrap_i64]; omega
    by_cases hlt : k < kk
    · have e1 : (X : Int) < (n : Int) := by have := hXn.2 hlt; omega
      clear hXn hX
      go_wp2
      go_roundw
      case rel => exact ⟨trivial, k + 1, by omega, by omega, by go_num⟩
      case measure => simp [intOf]; omega
    · obtain rfl : k = kk := by omega
      have e1 : ¬ (X : Int) < (n : Int) := by have : ¬ X < n := fun e => hlt (hXn.1 e); omega
      have HTQ : Hid (∀ k2, Calls Tryd.prog 63 #[.pointer (some ⟨G, 0, none⟩), .int .i64 ow, .int .i64 k] (w1.drewN k2) fun e w' => e = .returned (.tuple #[.int .i64 0, .int .i64 11]) ∧ w' = w1.drewN k2) := Lib.hid (fun k2 => (HTK.out _ (below_drewN HB.out k2)).mono fun e w' ⟨h1, h2⟩ => ⟨h1, h2.symm⟩)
      clear hXn hX
      go_wp2_with fail
      go_quiet ((go_at_call 63; exact Calls.quiet_of_same (HTQ.out _)))
      go_wp2
      go_ret2
      exact ⟨rfl, below_drewN HB.out _⟩
set_option maxRecDepth 100000 in
set_option maxHeartbeats 2000000 in
theorem dalloc_in (h : DocAt w D G bd ow u parts pr f) (hr : RefSt w G Wg Og W size own) (how : 1 ≤ ow) (n r a : Nat) (hpl : parts.length ≤ 1000000) (hbd : bd ≤ w.heap.size) (hn : 1 ≤ n) (hn2 : n ≤ 1000000) (hroom : Calls Tryd.prog 51 #[.pointer (some ⟨D, 0, none⟩)] w fun e w' => e = .returned (.int .i64 r) ∧ Below w.heap.size w w') (hrn : r < n) (hrun : runAtO own (need size n) = (a, true)) :
    Calls Tryd.prog 72 #[.pointer (some ⟨D, 0, none⟩), .int .i64 n] w (DAllocPost w G Wg Og W size own D bd ow u parts pr f n a (need size n)) := by
  obtain ⟨i0, hi, hz0, hz1, hz2⟩ := info_parts infoDP
  have HI := Lib.hid hi
  have HZ0 := Lib.hid hz0
  have HZ1 := Lib.hid hz1
  have HZ2 := Lib.hid hz2
  clear hi hz0 hz1 hz2
  have HC := Lib.hid hroom
  have H := Lib.hid h
  have HR := Lib.hid hr
  have hs1 := hr.s1
  have hs2 := hr.s2
  have c1 : ¬ (n : Int) < 1 := by omega
  have c2 : ¬ (n : Int) ≤ (r : Int) := by omega
  obtain ⟨kk, hkk⟩ : ∃ kk, kk = need size n := ⟨_, rfl⟩
  have hk1 : 1 ≤ kk := by rw [hkk]; exact Nat.le_add_left 1 _
  have hkn : kk ≤ n := by
    rw [hkk]; unfold need
    have := Nat.div_le_self (n - 1) size
    omega
  have HN : Hid (∀ k, 1 ≤ k → (k * size < n ↔ k < kk)) := Lib.hid (fun k hk => by rw [hkk]; exact need_lt hs1 hk hn)
  have HSZ : Hid (kk = 1 → n ≤ size) := Lib.hid (fun e => by
    rw [hkk] at e; unfold need at e
    have h0 : (n - 1) / size = 0 := by omega
    have := (Nat.div_eq_zero_iff).1 h0
    omega)
  rw [← hkk] at hrun ⊢
  have hak : a + kk ≤ own.length := by
    rcases run_at hrun with ⟨_, h1, _⟩ | ⟨h1, _⟩
    · exact h1
    · cases h1
  have hol := hr.o2
  obtain ⟨x, hx⟩ : ∃ x, x = a * size := ⟨_, rfl⟩
  have hx2 : x ≤ 1048576 := by rw [hx]; exact Nat.le_trans (Nat.mul_le_mul (show a ≤ 1024 by omega) hs2) (by decide)
  have qx : IntKind.i64.wrap ((a : Int) * (size : Int)) = (x : Int) := by
    rw [show ((a : Int) * (size : Int)) = (x : Int) by rw [hx]; simp, IntKind.wrap_i64]; omega
  have HX := Lib.hid hx
  clear hx
  have HTK : Hid (∀ Y, Below w.heap.size w Y → Calls Tryd.prog 63 #[.pointer (some ⟨G, 0, none⟩), .int .i64 ow, .int .i64 kk] Y fun e w' => e = .returned (.tuple #[.int .i64 a, .int .i64 0]) ∧ RefSt w' G Wg Og (zeroW W (a * size) (kk * size)) size (fillO own a ow kk) ∧ Mod (Two3 Wg Og) Y w') := Lib.hid (fun Y hY => rtake_in (hr.on hY) ow kk a how hk1 (by omega) hrun)
  clear h hr hroom hrun hkk
  go_enter Tryd.func72, Tryd.ntmps72
  go_wp2_with fail
  refine HC.out.mono ?_
  rintro e w1 ⟨rfl, hb⟩
  have H1 := Lib.hid (H.out.on hb)
  have HR1 := Lib.hid (HR.out.on hb)
  have d0 := H1.out.c0
  have d1 := H1.out.c1
  have g1 := HR1.out.c1
  have HB := Lib.hid hb
  clear hb HC
  go_wp2_with fail
  go_loopw [7] (fun v7 wr => w1 = wr ∧ ∃ k : Nat, 1 ≤ k ∧ k ≤ kk ∧ v7 = .int .i64 k) (fun v7 _ => kk - (intOf v7).toNat)
  case atStart => exact ⟨rfl, 1, by omega, by omega, rfl⟩
  case round =>
    obtain ⟨rfl, k, hk, hk2, rfl⟩ := hrel
    obtain ⟨X, hX⟩ : ∃ X, X = k * size := ⟨_, rfl⟩
    have hX2 : X ≤ 1024000000 := by rw [hX]; exact Nat.le_trans (Nat.mul_le_mul (show k ≤ 1000000 by omega) hs2) (by decide)
    have hXn := HN.out k hk
    rw [← hX] at hXn
    have q1 : IntKind.i64.wrap ((k : Int) * (size : Int)) = (X : Int) := by
      rw [show ((k : Int) * (size : Int)) = (X : Int) by rw [hX]; simp, IntKind.wrap_i64]; omega
    by_cases hlt : k < kk
    · have e1 : (X : Int) < (n : Int) := by have := hXn.2 hlt; omega
      clear hXn hX
      go_wp2
      go_roundw
      case rel => exact ⟨trivial, k + 1, by omega, by omega, by go_num⟩
      case measure => simp [intOf]; omega
    · obtain rfl : k = kk := by omega
      have e1 : ¬ (X : Int) < (n : Int) := by have : ¬ X < n := fun e => hlt (hXn.1 e); omega
      clear hXn hX
      go_wp2_with fail
      go_region_with (go_at_call 63; refine (HTK.out _ (Below.drew HB.out)).mono ?_; rintro e w5 ⟨rfl, hS5, hM5⟩)
      all_goals
        have HS5 := Lib.hid hS5
        have hMr : Mod (Two3 Wg Og) w1 w5 := (Mod.of_below (Below.drew (Below.refl _ _))).trans (hM5 : Mod (Two3 Wg Og) w1.drew w5)
        have HM5 := Lib.hid hMr
        have HD5 := Lib.hid (H1.out.two HR1.out hMr)
        have q2 := HD5.out.c2
        have hltD := block_lt HD5.out.head
        have hbd5 : bd ≤ w5.heap.size := Nat.le_trans (Nat.le_trans hbd HB.out.size) HM5.out.size
        have hnp : some D ≠ u.ownBlock := fun e => HD5.out.np e.symm
        have g5 := HS5.out.c1
        clear hS5 hM5 hMr
        obtain ⟨A2, c2, rfl, hc2, -⟩ := own_slice dpEnc (0, 0) (fun _ => rfl) HD5.out.row
        have n1 : ¬ D = G := fun e => (HD5.out.far HS5.out _ (.inl rfl)).1 e.symm
        have n2 : ¬ G = D := (HD5.out.far HS5.out _ (.inl rfl)).1
        have hltG := block_lt HS5.out.head
        have hnG : some G ≠ (Value.slice A2 parts.length c2).ownBlock := fun e => (HD5.out.far HS5.out _ (.inl rfl)).2 e.symm
        have HFIN : Hid (∀ (b : Bool) (g cap : Nat) (w7 : World), decide (1 < k) = b → w7.ownsRow bd 120 3 (.slice (some ⟨g, 0, none⟩) (parts.length + 1) cap) (parts.length + 1) (parts.flatMap dpEnc ++ [.int .i64 a, .int .i64 k, .bool b]) → (w5.alloc (.cells #[.int .i64 a, .int .i64 k, .bool b] 120)).grownBy w7 (Value.slice A2 parts.length c2).ownBlock → ((Value.slice A2 parts.length c2).ownBlock = some g ∨ g = (w5.alloc (.cells #[.int .i64 a, .int .i64 k, .bool b] 120)).heap.size) →
            DocAt (w7.setCell ⟨D, 2, none⟩ (.slice (some ⟨g, 0, none⟩) (parts.length + 1) cap)) D G bd ow (.slice (some ⟨g, 0, none⟩) (parts.length + 1) cap) (parts ++ [(a, k)]) pr f ∧ Mod (fun j => j = D ∨ (Value.slice A2 parts.length c2).ownBlock = some j) w5 (w7.setCell ⟨D, 2, none⟩ (.slice (some ⟨g, 0, none⟩) (parts.length + 1) cap)) ∧ (∀ j, (Value.slice (some ⟨g, 0, none⟩) (parts.length + 1) cap).ownBlock = some j → (Value.slice A2 parts.length c2).ownBlock = some j ∨ w.heap.size ≤ j)) := Lib.hid (fun b g cap w7 hb ho hg hat => by
          have hv : parts.length + 1 = (parts ++ [(a, k)]).length := by simp
          rw [hv] at ho ⊢
          obtain ⟨g1, g2⟩ := HD5.out.grow (v' := .slice (some ⟨g, 0, none⟩) (parts ++ [(a, k)]).length cap) (ys := [(a, k)]) (below1 _ _) hg (by simpa [dpEnc, hb] using ho) (fun j hj => by
            obtain rfl : g = j := by injection hj
            exact hat) (fun x hx => by rw [List.mem_singleton.1 hx]; show a + k ≤ 1024; omega)
          refine ⟨g1, g2, fun j hj => ?_⟩
          obtain rfl : g = j := by injection hj
          rcases hat with e | e
          · exact .inl e
          · have h1 := HB.out.size
            have h2 := HM5.out.size
            rw [World.size_alloc] at e
            exact .inr (by omega))
        have hM1 : Mod (DHandS Wg Og D D (.slice A2 parts.length c2)) w w5 := (Mod.of_below HB.out).trans (HM5.out.mono fun j _ e => .inl e)
        have HM1 := Lib.hid hM1
        clear hM1
        by_cases hk0 : k = 1
        · have kb : ((k : Int) == 1) = true := by simp [hk0]
          have kc : ¬ (1 : Int) < (k : Int) := by omega
          have HK0 := Lib.hid hk0
          clear hk0
          go_wp2_with (at_builtin; refine wpList_append_lies _ rfl _ _ 113 rfl bd 120 i0 (.agg #[.int .i64 0, .int .i64 0, .bool false]) 3 24 Tryd.underlying113 HI.out HZ0.out HZ1.out HZ2.out rfl (by decide) (.slice A2 parts.length c2) _ _ rfl (own_on HD5.out.row (below1 _ _)) ⟨w5.heap.size, 0, none⟩ 1 1 [.int .i64 a, .int .i64 k, .bool false] rfl rfl (World.news_of_block (heap_alloc_new w5 (.cells #[.int .i64 a, .int .i64 k, .bool false] 120))) (by simp [Value.oneCell']) (by decide) (by unfold maxLen; omega) (by omega) (by simp; omega) _ rfl ?_; intro g cap w7 hown' hgrow hat hlt; have K7 := (hgrow.block D (by simp; omega) hnp).trans ((Below.heap_alloc w5 _ _ hltD).trans HD5.out.head); have K8 := (hgrow.block G (by simp; omega) hnG).trans ((Below.heap_alloc w5 _ _ hltG).trans HS5.out.head); have s2 := (blk_cells K7 2).trans rfl; have t2 := blk_thaw K7 2; have s3 := (blk_cells K7 3).trans rfl; have t3 := blk_thaw K7 3; have s4 := (blk_cells K7 4).trans rfl; have t4 := blk_thaw K7 4; have s0 := (blk_cells K7 0).trans rfl; have y1 := (blk_cells K8 1).trans rfl; clear K7 K8)
          go_ret2
          have hf := HFIN.out false g cap w7 (decide_eq_false (by have := HK0.out; omega)) hown' hgrow hat
          obtain ⟨p1, p2⟩ := hf.1.setPr (a : Int) n (by omega) (by omega) (by have := HSZ.out HK0.out; omega)
          refine ⟨by rw [HX.out]; rfl, _, ?_, HS5.out.mod (hf.2.1.trans (p2.mono fun j _ e => .inl e)) ?_ ?_ ?_, HM1.out.trans ((hf.2.1.trans (p2.mono fun j _ e => .inl e)).mono fun j _ e => ?_), hf.2.2⟩
          · rw [if_pos HK0.out, if_pos HK0.out]; exact p1
          · rintro (e | e)
            · exact n2 e
            · exact hnG e.symm
          · rintro (e | e)
            · exact (HD5.out.far HS5.out _ (.inr (.inl rfl))).1 e
            · exact (HD5.out.far HS5.out _ (.inr (.inl rfl))).2 e
          · rintro (e | e)
            · exact (HD5.out.far HS5.out _ (.inr (.inr rfl))).1 e
            · exact (HD5.out.far HS5.out _ (.inr (.inr rfl))).2 e
          · rcases e with e | e
            · exact .inr (.inl e)
            · exact .inr (.inr (.inr e))
        · have kb : ((k : Int) == 1) = false := by simp; omega
          have kc : (1 : Int) < (k : Int) := by omega
          have HK0 := Lib.hid hk0
          clear hk0
          go_wp2_with (at_builtin; refine wpList_append_lies _ rfl _ _ 113 rfl bd 120 i0 (.agg #[.int .i64 0, .int .i64 0, .bool false]) 3 24 Tryd.underlying113 HI.out HZ0.out HZ1.out HZ2.out rfl (by decide) (.slice A2 parts.length c2) _ _ rfl (own_on HD5.out.row (below1 _ _)) ⟨w5.heap.size, 0, none⟩ 1 1 [.int .i64 a, .int .i64 k, .bool true] rfl rfl (World.news_of_block (heap_alloc_new w5 (.cells #[.int .i64 a, .int .i64 k, .bool true] 120))) (by simp [Value.oneCell']) (by decide) (by unfold maxLen; omega) (by omega) (by simp; omega) _ rfl ?_; intro g cap w7 hown' hgrow hat hlt; have K7 := (hgrow.block D (by simp; omega) hnp).trans ((Below.heap_alloc w5 _ _ hltD).trans HD5.out.head); have K8 := (hgrow.block G (by simp; omega) hnG).trans ((Below.heap_alloc w5 _ _ hltG).trans HS5.out.head); have s2 := (blk_cells K7 2).trans rfl; have t2 := blk_thaw K7 2; have s3 := (blk_cells K7 3).trans rfl; have t3 := blk_thaw K7 3; have s4 := (blk_cells K7 4).trans rfl; have t4 := blk_thaw K7 4; have s0 := (blk_cells K7 0).trans rfl; have y1 := (blk_cells K8 1).trans rfl; clear K7 K8)
          go_ret2
          have hf := HFIN.out true g cap w7 (decide_eq_true (by have := HK0.out; omega)) hown' hgrow hat
          refine ⟨by rw [HX.out]; rfl, _, ?_, HS5.out.mod hf.2.1 ?_ ?_ ?_, HM1.out.trans (hf.2.1.mono fun j _ e => ?_), hf.2.2⟩
          · rw [if_neg HK0.out, if_neg HK0.out]; exact hf.1
          · rintro (e | e)
            · exact n2 e
            · exact hnG e.symm
          · rintro (e | e)
            · exact (HD5.out.far HS5.out _ (.inr (.inl rfl))).1 e
            · exact (HD5.out.far HS5.out _ (.inr (.inl rfl))).2 e
          · rintro (e | e)
            · exact (HD5.out.far HS5.out _ (.inr (.inr rfl))).1 e
            · exact (HD5.out.far HS5.out _ (.inr (.inr rfl))).2 e
          · rcases e with e | e
            · exact .inr (.inl e)
            · exact .inr (.inr (.inr e))
end
section
open Go.RowKit
set_option linter.unusedVariables false
set_option linter.unusedSimpArgs false
variable {w w' : World} {G Wg Og size D bd f : Nat} {W W' own own' : List Int} {u : Value} {parts : List (Nat × Nat)} {ow pr : Int}
/-- The present chunk is one of the parts, or there is none. -/
def DPres (pr : Int) (f : Nat) (parts : List (Nat × Nat)) : Prop := (pr = -1 ∧ f = 0) ∨ ∃ c : Nat, pr = c ∧ (c, 1) ∈ parts
theorem drop_one (j : Nat) (hj : j < parts.length) : parts.drop j = parts.getD j (0, 0) :: parts.drop (j + 1) := by
  have e : parts.getD j (0, 0) = parts[j] := by simp [List.getD, hj]
  rw [e]; exact List.drop_eq_getElem_cons hj
theorem DPres.drop {x : Nat × Nat} {l : List (Nat × Nat)} (h : DPres pr f (x :: l)) (hn : 1 ≤ x.2) : DPres (if dropD pr x.1 x.2 then -1 else pr) (if dropD pr x.1 x.2 then 0 else f) l := by
  rcases h with ⟨rfl, rfl⟩ | ⟨c, rfl, hc⟩
  · have : dropD (-1) x.1 x.2 = false := by unfold dropD; rw [decide_eq_false (show ¬ ((x.1 : Nat) : Int) = -1 by omega), Bool.and_false]
    rw [this]; exact .inl ⟨rfl, rfl⟩
  · rcases List.mem_cons.1 hc with g | g
    · subst g
      have : dropD ((c : Nat) : Int) c 1 = true := by simp [dropD]
      rw [this]; exact .inl ⟨rfl, rfl⟩
    · by_cases hd : dropD (c : Int) x.1 x.2 = true
      · rw [hd]; exact .inl ⟨rfl, rfl⟩
      · rw [Bool.not_eq_true] at hd
        rw [hd]; exact .inr ⟨c, rfl, g⟩
def lenOf (v : Option Value) : Nat := match v with | some (.slice _ n _) => n | _ => 0
def DClearS (w : World) (G Wg Og : Nat) (W : List Int) (size : Nat) (own : List Int) (D bd : Nat) (ow : Int) (u : Value) (parts : List (Nat × Nat)) (j : Nat) (wr : World) : Prop :=
  ∃ u' pr f, DocAt wr D G bd ow u' (parts.drop j) pr f ∧ DPres pr f (parts.drop j) ∧ RefSt wr G Wg Og W size (giveL own 0 (parts.take j)) ∧ Mod (DDropS Wg Og D) w wr ∧ (∀ k, u'.ownBlock = some k → u.ownBlock = some k ∨ w.heap.size ≤ k)
set_option maxRecDepth 100000 in
set_option maxHeartbeats 2000000 in
theorem dclear_any (h : DocAt w D G bd ow u parts pr f) (hr : RefSt w G Wg Og W size own) (hi : SpInv own ow parts) (how : 1 ≤ ow) (hp : DPres pr f parts) (hbd : bd ≤ w.heap.size) :
    Calls Tryd.prog 76 #[.pointer (some ⟨D, 0, none⟩)] w fun e w' => e = .returned (.tuple #[]) ∧ (∃ u', DocAt w' D G bd ow u' [] (-1) 0 ∧ (∀ k, u'.ownBlock = some k → u.ownBlock = some k ∨ w.heap.size ≤ k)) ∧ RefSt w' G Wg Og W size (giveL own 0 parts) ∧ Mod (DDropS Wg Og D) w w' := by
  have HI := Lib.hid hi
  have hpl : parts.length ≤ 1000000 := Nat.le_trans hi.len (Nat.le_trans hr.o2 (by decide))
  have H0 : Hid (DClearS w G Wg Og W size own D bd ow u parts 0 w) := Lib.hid ⟨u, pr, f, h, hp, hr, Mod.refl _ _, fun k hk => .inl hk⟩
  clear h hr hi hp
  go_enter Tryd.func76, Tryd.ntmps76
  go_wp2
  go_loopw [2] (fun v2 wr => ∃ j : Nat, j ≤ parts.length ∧ Hid (DClearS w G Wg Og W size own D bd ow u parts j wr)) (fun _ wr => lenOf (wr.cell? ⟨D, 2, none⟩))
  case atStart => exact ⟨0, by omega, H0⟩
  case round =>
    obtain ⟨j, hj, HR⟩ := hrel
    obtain ⟨u', pr', f', g1, g2, g3, g4, g5⟩ := HR.out
    have k2 := g1.c2
    have hbd2 : bd ≤ wr.heap.size := Nat.le_trans hbd g4.size
    obtain ⟨A2, c2, rfl, hc2, hS2⟩ := own_slice dpEnc (0, 0) (fun _ => rfl) g1.row
    by_cases hlt : j < parts.length
    · have hdl : (parts.drop j).length = parts.length - j := List.length_drop
      obtain ⟨b2, o2, rfl⟩ := dpart_some hS2 0 (by omega)
      obtain ⟨m, n, hxm⟩ : ∃ m n, parts.getD j (0, 0) = (m, n) := ⟨_, _, rfl⟩
      have hd0 := drop_one j hlt
      rw [hxm] at hd0
      have hx0 : (parts.drop j).getD 0 (0, 0) = (m, n) := by rw [hd0]; rfl
      obtain ⟨e0, -, -⟩ := dpart_cells hS2 0 (by omega) hx0
      rw [Nat.zero_mul, Nat.add_zero] at e0
      have hmem := getD_mem j hlt
      rw [hxm] at hmem
      have hn1 := HI.out.n1 _ hmem
      have hfit := HI.out.fit _ hmem
      have htk := take_snoc j hlt
      rw [hxm] at htk
      have hcut := (HI.out.cut j hlt).2
      rw [hxm] at hcut
      have hfit2 : ∀ x ∈ parts.take j, x.1 + x.2 ≤ own.length := fun x hx => HI.out.fit x (List.mem_of_mem_take hx)
      have hdr := ddrop_in g1 g3 (by omega) 0 m n (by omega) hx0 hn1 (fun i hi hi0 => by
        have h1 := HI.out.first j hlt (j + i) (by omega) (by omega)
        rw [hxm] at h1
        have h2 : (parts.drop j).getD i (0, 0) = parts.getD (j + i) (0, 0) := by simp [List.getD, List.getElem?_drop]
        rw [h2]; exact h1) (fun c hc => by
        rw [giveL_getD _ _ _ _ hfit2, if_neg (fun e => hcut (m + c) (mem_chunkL.2 ⟨Nat.le_add_right _ _, Nat.add_lt_add_left hc _⟩) (by
          rw [chunksL_append]; exact List.mem_append.2 (.inl e))), HI.out.part hmem c hc]
        omega) (by rw [giveL_length]; exact hfit) hbd2
      have HDR : Hid (Calls Tryd.prog 75 #[.pointer (some ⟨D, 0, none⟩), .int .i64 m] wr fun e w' => (∃ v, e = .returned v) ∧ DClearS w G Wg Og W size own D bd ow u parts (j + 1) w' ∧ lenOf (w'.cell? ⟨D, 2, none⟩) = parts.length - (j + 1)) := Lib.hid (hdr.mono fun e w' ⟨a1, ⟨u'', a2, a3⟩, a4, a5⟩ => by
        have e1 : (parts.drop j).take 0 ++ (parts.drop j).drop (0 + 1) = parts.drop (j + 1) := by rw [List.take_zero, List.nil_append, List.drop_drop]
        rw [e1] at a2
        have hp := g2
        rw [hd0] at hp
        have hp2 := hp.drop hn1
        refine ⟨⟨_, a1⟩, ⟨u'', _, _, a2, hp2, ?_, g4.trans a5, fun k hk => .inr (Nat.le_trans g4.size (a3 k hk))⟩, ?_⟩
        · rw [htk, giveL_snoc]; exact a4
        · rw [a2.c2]
          obtain ⟨A3, c3, e3, -, -⟩ := own_slice dpEnc (0, 0) (fun _ => rfl) a2.row
          rw [e3]
          show (parts.drop (j + 1)).length = _
          exact List.length_drop)
      have hq : 0 < (parts.drop j).length := by omega
      have HM : Hid (lenOf (wr.cell? ⟨D, 2, none⟩) = parts.length - j) := Lib.hid (by rw [k2]; exact hdl)
      clear g1 g2 g3 g4 g5 hS2 hd0 hx0 hxm hmem hn1 hfit htk hcut hfit2 hdr HR hdl
      generalize (parts.drop j).length = dl at *
      go_wp2_with fail
      refine HDR.out.mono ?_
      rintro e w5 ⟨⟨v5, rfl⟩, h5, h6⟩
      have H5 := Lib.hid h5
      have H6 := Lib.hid h6
      clear h5 h6 HDR
      go_wp2
      go_roundw
      case rel => exact ⟨j + 1, by omega, H5⟩
      case measure => rw [H6.out, HM.out]; omega
    · obtain rfl : j = parts.length := by omega
      have hdl : (parts.drop parts.length).length = 0 := by rw [List.drop_length]; rfl
      rw [hdl] at k2
      have HF : Hid ((∃ u', DocAt wr D G bd ow u' [] (-1) 0 ∧ (∀ k, u'.ownBlock = some k → u.ownBlock = some k ∨ w.heap.size ≤ k)) ∧ RefSt wr G Wg Og W size (giveL own 0 parts) ∧ Mod (DDropS Wg Og D) w wr) := Lib.hid (by
        rw [List.drop_length] at g1 g2 g5
        rw [List.take_length] at g3
        rcases g2 with ⟨rfl, rfl⟩ | ⟨c, _, hc⟩
        · exact ⟨⟨_, g1, g5⟩, g3, g4⟩
        · cases hc)
      clear g1 g2 g3 g4 g5 hS2 hdl HR
      go_wp2
      exact bodyPost_end (results_none rfl _ _ _) rfl ⟨rfl, HF.out⟩
end
end Go.Proofs.YtkaflgbipjppmaaDoor
