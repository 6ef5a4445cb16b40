/- get: a walk. Join: a walk. Hand, Clear: walks. -/
import Derived.Test.YtkaflgbipjppmaaDoorPp
import Derived.Deep.RegionLaw
import Derived.Test.YtkaflgbipjppmaaDoorSm
namespace Go.Proofs.YtkaflgbipjppmaaDoor
section
open Go Go.RowKit
set_option linter.unusedVariables false
set_option linter.unusedSimpArgs false
variable {w w' : World} {B Wb Ob p q size Pb bd at_ end_ : Nat} {W W' own own' : List Int} {v : Value} {parts : List (Nat × Nat)} {ow : Int}
theorem step_append_weak {P : Program} {w : World} {ops : Array Oper} {o : Oper} {a : Act} {K : Act → World → Prop} {Q : Exit → Act → World → Prop} {E : Prop} (hgd : o.guard = none) (s x : Operand) (t : TypeId)
    (ho : o.op = .call { callee := .builtin .append, args := #[s, x], argTypes := #[t, t] })
    (base : Nat) (e : TypeId) (i : TypeInfo) (z : Value) (size bytes : Nat) (ht : P.underlying t = some (.slice e)) (hi : P.info? e = some i) (hz : i.zero = some z)
    (hsize : i.size = size) (hby : i.bytes = bytes) (hzs : z.cells.size = size) (hsz : 0 < size)
    (v : Value) (n : Nat) (xs : List Value) (hs : a.eval s = v) (hown : rowW w base e size v n xs)
    (ad : Addr) (m c : Nat) (news : List Value) (hx : a.eval x = .slice (some ad) m c) (hl : news.length = m * size) (hnews : ∀ j u, news[j]? = some u → w.cell? (ad.add j) = some u) (h1 : ∀ u ∈ news, u.oneCell' = true)
    (h63 : n + m ≤ maxLen) (hbytes : (n + m) * bytes ≤ 140737488355328) (hbase : base ≤ w.heap.size) (hm : 0 < m)
    (h : ∀ v' w', rowW w' base e size v' (n + m) (xs ++ news) → w.grownBy w' v.ownBlock → (∀ k, v'.ownBlock = some k → v.ownBlock = some k ∨ k = w.heap.size) → K (a.put o.dst v') w') :
    if Region.wanted o (yielded ops a.tmps) = true then Oper.wp P o a w K Q else E := by
  have hw : Region.wanted o (yielded ops a.tmps) = true := by simp [Region.wanted, hgd]
  rw [if_pos hw]
  obtain ⟨v', w', hr, h2, h3, h4⟩ := run_append_weak (P := P) w base t o.type e i z size bytes ht hi hz hsize hby hzs hsz v n xs hown ad m c news hl hnews h1 h63 hbytes hbase hm
  unfold Oper.wp execOp
  simp only [ho, resolve, invoke, builtin, Sem.run_bind, Sem.run_pure, Result.andThen_ok, List.map_toArray, List.map_cons, List.map_nil, hs, hx, hr]
  exact h v' w' h2 h3 h4
/-- A space's slot set to its row, grown. -/
theorem SpaceAt.grow {w5 Y w6 : World} {v' : Value} {ys : List (Nat × Nat)} (h : SpaceAt w5 Pb B bd ow v parts at_ end_) (hb : Below w5.heap.size w5 Y) (hg : Y.grownBy w6 v.ownBlock) (hr : rowW w6 bd 93 2 v' (parts ++ ys).length ((parts ++ ys).flatMap partEnc)) (hat : ∀ k, v'.ownBlock = some k → v.ownBlock = some k ∨ k = Y.heap.size) (hp : ∀ x ∈ ys, x.1 + x.2 ≤ 1024) :
    SpaceAt (w6.setCell ⟨Pb, 2, none⟩ v') Pb B bd ow v' (parts ++ ys) at_ end_ ∧ Mod (fun k => k = Pb ∨ v.ownBlock = some k) w5 (w6.setCell ⟨Pb, 2, none⟩ v') := by
  have hE := block_lt h.head
  have hs := hb.size
  have m1 : Mod (fun k => v.ownBlock = some k) Y w6 := ⟨hg.os, hg.tape, hg.output, hg.size, fun j hj hn => hg.block j hj (fun e => hn e.symm)⟩
  have m2 : Mod (fun k => k = Pb) w6 (w6.setCell ⟨Pb, 2, none⟩ v') := Mod.setCell _ _ _ _ rfl
  have m0 : Mod (fun k => v.ownBlock = some k) w5 w6 := (Mod.of_below hb).trans m1
  have hnp := h.np
  refine ⟨⟨blk_set (m0.keeps h.head hnp) 2 _, wrow_mod hr m2 (fun k hk e => ?_), h.le, h.e1, h.o1, fun x hx => ?_⟩, (m0.mono fun k _ e => .inr e).trans (m2.mono fun k _ e => .inl e)⟩
  · subst e
    rcases hat _ hk with g | g
    · exact hnp g
    · omega
  · rcases List.mem_append.1 hx with g | g
    · exact h.pin x g
    · exact hp x g
def GetPost (w : World) (B Wb Ob p q : Nat) (W : List Int) (size : Nat) (own : List Int) (Pb bd : Nat) (ow : Int) (v : Value) (parts : List (Nat × Nat)) (at_ end_ m n : Nat) (e : Ending) (w' : World) : Prop :=
  e = .returned (.tuple #[]) ∧ ∃ v', SpaceAt w' Pb B bd ow v' (parts ++ [(m, n)]) at_ end_ ∧ StoreAt w' B Wb Ob p q W size (fillO own m ow n) ∧ Mod (AllocS Wb Ob p q Pb v) w w' ∧ (∀ k, v'.ownBlock = some k → v.ownBlock = some k ∨ w.heap.size ≤ k)
theorem GetPost.drew {m n : Nat} {e : Ending} {X : World} (h : GetPost w B Wb Ob p q W size own Pb bd ow v parts at_ end_ m n e X) : GetPost w B Wb Ob p q W size own Pb bd ow v parts at_ end_ m n e X.drew := by
  obtain ⟨h1, v', h2, h3, h4, h5⟩ := h
  have hb : Below X.heap.size X X.drew := Below.drew (Below.refl _ _)
  exact ⟨h1, v', h2.on hb, h3.on hb, h4.trans (.of_below hb), h5⟩
set_option maxRecDepth 100000 in
set_option maxHeartbeats 2000000 in
theorem get_in (h : SpaceAt w Pb B bd ow v parts at_ end_) (hs : StoreAt w B Wb Ob p q W size own) (hpl : parts.length ≤ 1000000) (hbd : bd ≤ w.heap.size) (m n : Nat) (hno : ∀ c, c < n → own.getD (m + c) 0 ≠ 0) (hol : m + n ≤ own.length) :
    Calls Tryd.prog 71 #[.pointer (some ⟨Pb, 0, none⟩), .agg #[.int .i64 m, .int .i64 n]] w (GetPost w B Wb Ob p q W size own Pb bd ow v parts at_ end_ m n) := by
  obtain ⟨i0, hi, hz0, hz1, hz2⟩ := info_parts infoPart
  have HI := Lib.hid hi
  have HZ0 := Lib.hid hz0
  have HZ1 := Lib.hid hz1
  have HZ2 := Lib.hid hz2
  clear hi hz0 hz1 hz2
  have H := Lib.hid h
  have HS0 := Lib.hid hs
  have HNO := Lib.hid hno
  have hol2 := hs.o2
  have how := h.o1
  have hb := below1 w (.cells #[.int .i64 m, .int .i64 n] 93)
  have hk := heap_alloc_new w (.cells #[.int .i64 m, .int .i64 n] 93)
  have k0 := (blk_cells hk 0).trans rfl
  have k1 := (blk_cells hk 1).trans rfl
  have HF := Lib.hid (show ∀ k, Four3 Wb Ob p q k → k ≠ w.heap.size from fun k hk e => by
    obtain ⟨u, hu⟩ := hs.map
    rcases hk with g | g | g | g
    · have := block_lt hs.body; omega
    · have := block_lt hs.owners; omega
    · have := hu.plt; omega
    · have := hu.qlt; omega)
  have HFAR := Lib.hid (h.far hs)
  have HB0 := Lib.hid hb
  have HK0 := Lib.hid hk
  clear h hs hno hb hk
  go_enter Tryd.func71, Tryd.ntmps71
  go_wp2
  go_loopw [7] (fun v7 wr => ∃ c : Nat, c ≤ n ∧ v7 = .int .i64 c ∧ Hid (StoreAt wr B Wb Ob p q W size (fillO own m ow c) ∧ SpaceAt wr Pb B bd ow v parts at_ end_ ∧ Mod (Four3 Wb Ob p q) w wr ∧ wr.heap[w.heap.size]? = some (.cells #[.int .i64 m, .int .i64 n] 93 (0, 0)))) (fun v7 _ => n - (intOf v7).toNat)
  case atStart => exact ⟨0, by omega, rfl, Lib.hid ⟨HS0.out.on HB0.out, H.out.on HB0.out, .of_below HB0.out, HK0.out⟩⟩
  case round =>
    obtain ⟨c, hc, rfl, HR⟩ := hrel
    clear k0 k1
    have k0 := (blk_cells HR.out.2.2.2 0).trans rfl
    have k1 := (blk_cells HR.out.2.2.2 1).trans rfl
    have d0 := HR.out.2.1.c0
    have d1 := HR.out.2.1.c1
    by_cases hcn : c < n
    · have HG : Hid (∀ Y, Below wr.heap.size wr Y → Calls Tryd.prog 30 #[.pointer (some ⟨B, 0, none⟩), .int .i64 ((m : Int) + (c : Int)), .int .i64 ow] Y fun e w' => e = .returned (.int .i64 0) ∧ StoreAt w' B Wb Ob p q W size (fillO own m ow (c + 1)) ∧ Mod (Four3 Wb Ob p q) wr w') := Lib.hid (fun Y hY => by
        have h1 := give_in (HR.out.1.on hY) (m + c) ow how (by rw [fillO_length]; omega) (by rw [fillO_getD own m ow _ c (by omega), if_neg (by omega)]; exact HNO.out c hcn)
        rw [show ((m + c : Nat) : Int) = (m : Int) + (c : Int) by omega] at h1
        exact h1.mono fun e w' ⟨h2, h3, h4⟩ => ⟨h2, h3, (Mod.of_below hY).trans h4⟩)
      have q1 : IntKind.i64.wrap ((m : Int) + (c : Int)) = (m : Int) + (c : Int) := by rw [IntKind.wrap_i64]; omega
      go_wp2_with fail
      go_region_with (go_at_call 30; refine (HG.out _ (Below.drew (Below.refl _ _))).mono ?_; rintro e w5 ⟨rfl, hS5, hM5⟩)
      all_goals
        have HR5 : Hid (StoreAt w5 B Wb Ob p q W size (fillO own m ow (c + 1)) ∧ SpaceAt w5 Pb B bd ow v parts at_ end_ ∧ Mod (Four3 Wb Ob p q) w w5 ∧ w5.heap[w.heap.size]? = some (.cells #[.int .i64 m, .int .i64 n] 93 (0, 0))) := Lib.hid ⟨hS5, HR.out.2.1.mod hM5 (fun e => (HFAR.out _ (.inr e)).1 rfl) (fun k hk e => (HFAR.out k (.inr e)).2 hk), HR.out.2.2.1.trans hM5, hM5.keeps HR.out.2.2.2 (fun e => HF.out _ e rfl)⟩
        clear hS5 hM5 HG
        go_wp2
        go_roundw
        case rel => exact ⟨c + 1, by omega, by go_num, HR5⟩
        case measure => simp [intOf]; omega
    · obtain rfl : n = c := by omega
      have HSP := Lib.hid HR.out.2.1
      have d2 := HR.out.2.1.c2
      have hltP := block_lt HR.out.2.1.head
      have hnp : some Pb ≠ v.ownBlock := fun e => HR.out.2.1.np e.symm
      have hbd5 : bd ≤ wr.heap.size := Nat.le_trans hbd HR.out.2.2.1.size
      have HFIN : Hid (∀ (v' : Value) (w6 : World) (Y : World), Below wr.heap.size wr Y → Y.heap.size = wr.heap.size + 1 → rowW w6 bd 93 2 v' (parts.length + 1) (parts.flatMap partEnc ++ [.int .i64 m, .int .i64 n]) → Y.grownBy w6 v.ownBlock → (∀ k, v'.ownBlock = some k → v.ownBlock = some k ∨ k = Y.heap.size) → GetPost w B Wb Ob p q W size own Pb bd ow v parts at_ end_ m n (.returned (.tuple #[])) (w6.setCell ⟨Pb, 2, none⟩ v')) := Lib.hid (fun v' w6 Y hY hYs hr hg hat => by
        have hv : parts.length + 1 = (parts ++ [(m, n)]).length := by simp
        rw [hv] at hr
        obtain ⟨g1, g2⟩ := HSP.out.grow (v' := v') (ys := [(m, n)]) hY hg (by simpa [partEnc] using hr) hat (fun x hx => by rw [List.mem_singleton.1 hx]; show m + n ≤ 1024; omega)
        refine ⟨rfl, v', g1, HR.out.1.mod g2 (fun k hk e => e.elim (fun e => (HFAR.out k hk).1 e) (fun e => (HFAR.out k hk).2 e)), (HR.out.2.2.1.mono fun k _ e => .inl e).trans (g2.mono fun k _ e => .inr e), fun k hk => ?_⟩
        rcases hat k hk with e | e
        · exact .inl e
        · have := HR.out.2.2.1.size
          exact .inr (by omega))
      go_wp2_with fail
      go_region_law (refine step_append_weak rfl (.tmp 28) (.tmp 30) 89 rfl bd 93 i0 (.agg #[.int .i64 0, .int .i64 0]) 2 16 Tryd.underlying89 HI.out HZ0.out HZ1.out HZ2.out rfl (by decide) v parts.length (parts.flatMap partEnc) (by simp [Act.eval, Act.put]) (wrow_mod HSP.out.row (P := fun _ => False) (.of_below ((Below.drew (Below.refl _ _)).on (below1 _ _))) (fun _ _ e => e)) ⟨wr.heap.size, 0, none⟩ 1 1 [.int .i64 m, .int .i64 n] (by simp [Act.eval, Act.put]) rfl (World.news_of_block (cs := #[.int .i64 m, .int .i64 n]) (t := 93) (fr := (0, 0)) (heap_alloc_new wr.drew _)) (by simp [Value.oneCell']) (by unfold maxLen; omega) (by omega) (by simp; omega) (by decide) ?_; intro v' w6 hown' hgrow hat; have HO2 := Lib.hid hown'; have HGR := Lib.hid hgrow; have HAT := Lib.hid hat; have K7 := (hgrow.block Pb (Nat.lt_of_lt_of_le hltP (by simp)) hnp).trans ((Below.heap_alloc wr.drew _ _ hltP).trans HSP.out.head); clear hown' hat hgrow; obtain ⟨A4, c4, rfl⟩ : ∃ A4 c4, v' = .slice A4 (parts.length + 1) c4 := (by rcases HO2.out.2 with ⟨hv, h0⟩ | ⟨g, cap, cur, hv, _⟩; exact absurd h0 (by omega); exact ⟨_, _, hv⟩); have p2 := (blk_cells K7 2).trans rfl; have pt := blk_thaw K7 2; clear K7)
      all_goals
        go_wp2
        exact bodyPost_end (results_none rfl _ _ _) rfl (HFIN.out _ _ _ ((Below.drew (Below.refl _ _)).on (below1 _ _)) (World.size_alloc _ _) HO2.out HGR.out HAT.out)
end
section
open Go Go.RowKit
set_option linter.unusedVariables false
set_option linter.unusedSimpArgs false
variable {w w' : World} {B Wb Ob p q size Pb Qb bd at_ end_ at2 end2 : Nat} {W W' own own' : List Int} {v v2 : Value} {parts parts2 : List (Nat × Nat)} {ow ow2 : Int}
def pjN (e2 x y : Nat) : Nat := if 0 < e2 then x else y
/-- What Join and Hand turn. -/
def JoinS (Wb Ob p q Pb Qb : Nat) (v : Value) (k : Nat) : Prop := AllocS Wb Ob p q Pb v k ∨ k = Qb
def JoinPost (w : World) (B Wb Ob p q : Nat) (W : List Int) (size : Nat) (own : List Int) (Pb Qb bd : Nat) (ow ow2 : Int) (v : Value) (parts parts2 : List (Nat × Nat)) (at_ end_ at2 end2 : Nat) (e : Ending) (w' : World) : Prop :=
  e = .returned (.int .i64 0) ∧ (∃ v', SpaceAt w' Pb B bd ow v' (parts ++ parts2) (pjN end2 at2 at_) (pjN end2 end2 end_)) ∧ SpaceAt w' Qb B bd ow2 (.slice none 0 0) [] 0 0 ∧ StoreAt w' B Wb Ob p q W size (giveL own ow parts2) ∧ Mod (JoinS Wb Ob p q Pb Qb v) w w'
theorem JoinPost.drew {e : Ending} {X : World} (h : JoinPost w B Wb Ob p q W size own Pb Qb bd ow ow2 v parts parts2 at_ end_ at2 end2 e X) : JoinPost w B Wb Ob p q W size own Pb Qb bd ow ow2 v parts parts2 at_ end_ at2 end2 e X.drew := by
  obtain ⟨h1, ⟨u', h2⟩, h3, h4, h5⟩ := h
  have hb : Below X.heap.size X X.drew := Below.drew (Below.refl _ _)
  exact ⟨h1, ⟨u', h2.on hb⟩, h3.on hb, h4.on hb, h5.trans (.of_below hb)⟩
theorem pjoin_fin {X2 : World} {v' : Value} (h : SpaceAt X2 Pb B bd ow v' (parts ++ parts2) at_ end_) (hE : SpaceAt X2 Qb B bd ow2 v2 parts2 at2 end2) (hs : StoreAt X2 B Wb Ob p q W size (giveL own ow parts2)) (hne : Pb ≠ Qb) (hm : Mod (fun k => AllocS Wb Ob p q Pb v k ∨ w.heap.size ≤ k) w X2) :
    (0 < end2 → JoinPost w B Wb Ob p q W size own Pb Qb bd ow ow2 v parts parts2 at_ end_ at2 end2 (.returned (.int .i64 0)) (((((X2.setCell ⟨Pb, 3, none⟩ (.int .i64 at2)).setCell ⟨Pb, 4, none⟩ (.int .i64 end2)).setCell ⟨Qb, 2, none⟩ (.slice none 0 0)).setCell ⟨Qb, 3, none⟩ (.int .i64 0)).setCell ⟨Qb, 4, none⟩ (.int .i64 0))) ∧
    (¬ 0 < end2 → JoinPost w B Wb Ob p q W size own Pb Qb bd ow ow2 v parts parts2 at_ end_ at2 end2 (.returned (.int .i64 0)) (((X2.setCell ⟨Qb, 2, none⟩ (.slice none 0 0)).setCell ⟨Qb, 3, none⟩ (.int .i64 0)).setCell ⟨Qb, 4, none⟩ (.int .i64 0))) := by
  have fP := h.far hs
  have fQ := hE.far hs
  have hnp := h.np
  have hvQ : v'.ownBlock ≠ some Qb := wrow_type h.row hE.head (by decide)
  have hQP : Qb ≠ Pb := fun e => hne e.symm
  have mQ : ∀ Y : World, Mod (fun k => k = Qb) Y (((Y.setCell ⟨Qb, 2, none⟩ (.slice none 0 0)).setCell ⟨Qb, 3, none⟩ (.int .i64 0)).setCell ⟨Qb, 4, none⟩ (.int .i64 0)) := fun Y => ((Mod.setCell (fun k => k = Qb) _ ⟨Qb, 2, none⟩ _ rfl).trans (Mod.setCell (fun k => k = Qb) _ ⟨Qb, 3, none⟩ _ rfl)).trans (Mod.setCell (fun k => k = Qb) _ ⟨Qb, 4, none⟩ _ rfl)
  have hfin : ∀ Y : World, Mod (fun k => k = Pb) X2 Y → Mod (JoinS Wb Ob p q Pb Qb v) w (((Y.setCell ⟨Qb, 2, none⟩ (.slice none 0 0)).setCell ⟨Qb, 3, none⟩ (.int .i64 0)).setCell ⟨Qb, 4, none⟩ (.int .i64 0)) := fun Y hY =>
    ((hm.mono (fun k _ e => (.inl e : (AllocS Wb Ob p q Pb v k ∨ w.heap.size ≤ k) ∨ (k = Pb ∨ k = Qb)))).trans ((hY.mono fun k _ e => .inr (.inl e)).trans ((mQ Y).mono fun k _ e => .inr (.inr e)))).mono (fun k hk e => by
      rcases e with (e | e) | e | e
      · exact .inl e
      · omega
      · exact .inl (.inr (.inl e))
      · exact .inr e)
  have hqs : ∀ Y : World, Mod (fun k => k = Pb) X2 Y → SpaceAt (((Y.setCell ⟨Qb, 2, none⟩ (.slice none 0 0)).setCell ⟨Qb, 3, none⟩ (.int .i64 0)).setCell ⟨Qb, 4, none⟩ (.int .i64 0)) Qb B bd ow2 (.slice none 0 0) [] 0 0 := fun Y hY =>
    ⟨blk_set (blk_set (blk_set (hY.keeps hE.head hQP) 2 _) 3 _) 4 _, rowW_nil _ _ _ _, Nat.le_refl _, by decide, hE.o1, (fun x hx => nomatch hx)⟩
  have hss : ∀ Y : World, Mod (fun k => k = Pb) X2 Y → StoreAt (((Y.setCell ⟨Qb, 2, none⟩ (.slice none 0 0)).setCell ⟨Qb, 3, none⟩ (.int .i64 0)).setCell ⟨Qb, 4, none⟩ (.int .i64 0)) B Wb Ob p q W size (giveL own ow parts2) := fun Y hY =>
    (hs.mod hY (fun k hk e => (fP k hk).1 e)).mod (mQ Y) (fun k hk e => (fQ k hk).1 e)
  constructor
  · intro hp
    have m2 : Mod (fun k => k = Pb) X2 ((X2.setCell ⟨Pb, 3, none⟩ (.int .i64 at2)).setCell ⟨Pb, 4, none⟩ (.int .i64 end2)) := (Mod.setCell (fun k => k = Pb) _ ⟨Pb, 3, none⟩ _ rfl).trans (Mod.setCell (fun k => k = Pb) _ ⟨Pb, 4, none⟩ _ rfl)
    refine ⟨rfl, ⟨v', ?_⟩, hqs _ m2, hss _ m2, hfin _ m2⟩
    have e1 : pjN end2 at2 at_ = at2 := if_pos hp
    have e2 : pjN end2 end2 end_ = end2 := if_pos hp
    rw [e1, e2]
    exact ⟨(mQ _).keeps (blk_set (blk_set h.head 3 _) 4 _) hne, wrow_mod (wrow_mod h.row m2 (fun k hk e => hnp (hk.trans (by rw [e])))) (mQ _) (fun k hk e => hvQ (hk.trans (by rw [e]))), hE.le, hE.e1, h.o1, h.pin⟩
  · intro hp
    have e1 : pjN end2 at2 at_ = at_ := if_neg hp
    have e2 : pjN end2 end2 end_ = end_ := if_neg hp
    refine ⟨rfl, ⟨v', ?_⟩, hqs _ (Mod.refl _ _), hss _ (Mod.refl _ _), hfin _ (Mod.refl _ _)⟩
    rw [e1, e2]
    exact h.mod (mQ _) hne (fun k hk e => hvQ (hk.trans (by rw [e])))
def JoinR (w : World) (B Wb Ob p q : Nat) (W : List Int) (size : Nat) (own : List Int) (Pb Qb bd : Nat) (ow ow2 : Int) (v v2 : Value) (parts parts2 : List (Nat × Nat)) (at_ end_ at2 end2 i : Nat) (wr : World) : Prop :=
  ∃ vi, SpaceAt wr Pb B bd ow vi (parts ++ parts2.take i) at_ end_ ∧ SpaceAt wr Qb B bd ow2 v2 parts2 at2 end2 ∧ StoreAt wr B Wb Ob p q W size (giveL own ow (parts2.take i)) ∧ Mod (fun k => AllocS Wb Ob p q Pb v k ∨ w.heap.size ≤ k) w wr ∧ (∀ k, vi.ownBlock = some k → v.ownBlock = some k ∨ w.heap.size ≤ k)
set_option maxRecDepth 100000 in
set_option maxHeartbeats 2000000 in
theorem join_in (h : SpaceAt w Pb B bd ow v parts at_ end_) (h2 : SpaceAt w Qb B bd ow2 v2 parts2 at2 end2) (hs : StoreAt w B Wb Ob p q W size own) (hne : Pb ≠ Qb) (hfar : ∀ k, v.ownBlock = some k → v2.ownBlock ≠ some k) (hpl : parts.length + parts2.length ≤ 1000000) (hbd : bd ≤ w.heap.size) (ho : ∀ x ∈ parts2, ∀ c, c < x.2 → own.getD (x.1 + c) 0 ≠ 0) (hol : ∀ x ∈ parts2, x.1 + x.2 ≤ own.length) :
    Calls Tryd.prog 43 #[.pointer (some ⟨Pb, 0, none⟩), .pointer (some ⟨Qb, 0, none⟩)] w (JoinPost w B Wb Ob p q W size own Pb Qb bd ow ow2 v parts parts2 at_ end_ at2 end2) := by
  have HO0 := Lib.hid (other_ok h h2 hne)
  have HFR := Lib.hid hfar
  have HOO := Lib.hid ho
  have HOL := Lib.hid hol
  have hlo2 := h2.row.lt
  have HLO2 := Lib.hid hlo2
  obtain ⟨A2, c2, rfl, hc2, hS2⟩ := wrow_slice partEnc (0, 0) (fun _ => rfl) h2.row
  have hR0 : JoinR w B Wb Ob p q W size own Pb Qb bd ow ow2 v (.slice A2 parts2.length c2) parts parts2 at_ end_ at2 end2 0 w := ⟨v, by rw [List.take_zero, List.append_nil]; exact h, h2, hs, Mod.refl _ _, fun k hk => .inl hk⟩
  have how := h.o1
  have hle2 := h2.le
  have he2 := h2.e1
  have HR0 := Lib.hid hR0
  clear h h2 hs hfar ho hol hR0 hS2 hlo2
  go_enter Tryd.func43, Tryd.ntmps43
  go_wp2_with fail
  refine HO0.out.mono ?_
  rintro e w1 ⟨rfl, hb1⟩
  have HR1 : Hid (JoinR w B Wb Ob p q W size own Pb Qb bd ow ow2 v (.slice A2 parts2.length c2) parts parts2 at_ end_ at2 end2 0 w1) := Lib.hid (by
    obtain ⟨vi, g1, g2, g3, g4, g5⟩ := HR0.out
    exact ⟨vi, g1.on hb1, g2.on hb1, g3.on hb1, g4.trans (.of_below hb1), g5⟩)
  have q2 : w1.cell? ⟨Qb, 2, none⟩ = some (.slice A2 parts2.length c2) := by obtain ⟨vi, g1, g2, g3, g4, g5⟩ := HR1.out; exact g2.c2
  clear hb1 HR0 HO0
  go_wp2_with fail
  go_loopw [19] (fun v19 wr => ∃ i : Nat, i ≤ parts2.length ∧ v19 = .int .i64 i ∧ Hid (JoinR w B Wb Ob p q W size own Pb Qb bd ow ow2 v (.slice A2 parts2.length c2) parts parts2 at_ end_ at2 end2 i wr)) (fun v19 _ => parts2.length - (intOf v19).toNat)
  case atStart => exact ⟨0, by omega, rfl, HR1⟩
  case round =>
    obtain ⟨i, hi, rfl, HR⟩ := hrel
    obtain ⟨vi, g1, g2, g3, g4, g5⟩ := HR.out
    clear q2
    by_cases hlt : i < parts2.length
    · obtain ⟨A3, c3, e3, -, hS3⟩ := wrow_slice partEnc (0, 0) (fun _ => rfl) g2.row
      injection e3 with e3 e4 e5
      subst e3
      subst e5
      obtain ⟨m, n, hxm⟩ : ∃ m n, parts2.getD i (0, 0) = (m, n) := ⟨_, _, rfl⟩
      obtain ⟨b2, o2, rfl, e0, e1⟩ := part_at hS3 i hlt
      have hmem : parts2.getD i (0, 0) ∈ parts2 := by
        have : parts2.getD i (0, 0) = parts2[i] := by simp [List.getD, hlt]
        rw [this]; exact List.getElem_mem hlt
      have htk : parts2.take (i + 1) = parts2.take i ++ [parts2.getD i (0, 0)] := by
        rw [List.take_add_one]; simp [List.getD, hlt]
      rw [hxm] at e0 e1 hmem htk
      replace e0 : wr.cell? ⟨b2, o2 + i * 2, none⟩ = some (.int .i64 (m : Nat)) := e0
      replace e1 : wr.cell? ⟨b2, o2 + i * 2 + 1, none⟩ = some (.int .i64 (n : Nat)) := e1
      have hba := below1 wr (.cells #[.int .i64 m, .int .i64 n] 93)
      have hk := heap_alloc_new wr (.cells #[.int .i64 m, .int .i64 n] 93)
      have k0 := (blk_cells hk 0).trans rfl
      have k1 := (blk_cells hk 1).trans rfl
      have HG : Hid (Calls Tryd.prog 71 #[.pointer (some ⟨Pb, 0, none⟩), .agg #[.int .i64 m, .int .i64 n]] (wr.alloc (.cells #[.int .i64 m, .int .i64 n] 93)) fun e w' => e = .returned (.tuple #[]) ∧ JoinR w B Wb Ob p q W size own Pb Qb bd ow ow2 v (.slice (some ⟨b2, o2, none⟩) parts2.length c2) parts parts2 at_ end_ at2 end2 (i + 1) w') := Lib.hid (by
        have hol := HOL.out _ hmem
        have hg := get_in (g1.on hba) (g3.on hba) (by rw [List.length_append, List.length_take]; omega) (Nat.le_trans hbd (Nat.le_trans g4.size hba.size)) m n (fun c hc => by
          rw [giveL_getD _ _ _ _ (fun x hx => HOL.out x (List.mem_of_mem_take hx))]
          split
          · omega
          · exact HOO.out _ hmem c hc) (by rw [giveL_length]; exact hol)
        refine hg.mono fun e w' ⟨a1, v', a2, a3, a4, a5⟩ => ⟨a1, v', ?_, ?_, ?_, ?_, fun k hk => ?_⟩
        · rw [htk, ← List.append_assoc]; exact a2
        · refine (g2.on hba).mod a4 ?_ (fun k hk e => ?_)
          · rintro (e | e | e)
            · exact ((g2.far g3) _ (.inr e)).1 rfl
            · exact hne e.symm
            · exact wrow_type g1.row g2.head (by decide) e
          · rcases e with e | e | e
            · exact ((g2.far g3) _ (.inr e)).2 hk
            · exact wrow_type g2.row g1.head (by decide) (hk.trans (by rw [e]))
            · rcases g5 k e with e | e
              · exact HFR.out k e hk
              · have := (HLO2.out k hk).2; omega
        · rw [htk, giveL_snoc]; exact a3
        · exact (g4.trans (.of_below hba)).trans (a4.mono fun k _ e => by
            rcases e with e | e | e
            · exact .inl (.inl e)
            · exact .inl (.inr (.inl e))
            · rcases g5 k e with e | e
              · exact .inl (.inr (.inr e))
              · exact .inr e)
        · rcases a5 k hk with e | e
          · exact g5 k e
          · exact .inr (Nat.le_trans (Nat.le_trans g4.size hba.size) e))
      clear hmem htk hxm hS3 hba hk g1 g2 g3 g4 g5 HR
      go_wp2_with fail
      refine HG.out.mono ?_
      rintro e w5 ⟨rfl, h5⟩
      have H5 := Lib.hid h5
      clear h5 HG
      go_wp2
      go_roundw
      case rel => exact ⟨i + 1, by omega, by go_num, H5⟩
      case measure => simp [intOf]; omega
    · obtain rfl : i = parts2.length := by omega
      rw [List.take_length] at g1 g3
      have HFIN := Lib.hid (pjoin_fin (w := w) (v := v) (own := own) g1 g2 g3 hne g4)
      have p3 := g1.c3
      have p4 := g1.c4
      have q2 := g2.c2
      have q3 := g2.c3
      have q4 := g2.c4
      have t3 := blk_thaw g1.head 3
      have t4 := blk_thaw g1.head 4
      have s2 := blk_thaw g2.head 2
      have s3 := blk_thaw g2.head 3
      have s4 := blk_thaw g2.head 4
      have n1 : ¬ Pb = Qb := hne
      have n2 : ¬ Qb = Pb := fun e => hne e.symm
      clear g1 g2 g3 g4 g5 HR
      by_cases hp : 0 < end2
      · have HP := Lib.hid hp
        have hpi : (0 : Int) < (end2 : Int) := by omega
        clear hp
        go_wp2_with fail
        go_region_law (fail)
        all_goals
          go_wp2
          go_ret
          exact (HFIN.out.1 HP.out).drew
      · have HP := Lib.hid hp
        have hpi : ¬ (0 : Int) < (end2 : Int) := by omega
        clear hp
        go_wp2
        go_ret
        exact HFIN.out.2 HP.out
end
section
open Go Go.RowKit
set_option linter.unusedVariables false
set_option linter.unusedSimpArgs false
variable {w w' : World} {B Wb Ob p q size Pb Qb bd at_ end_ at2 end2 : Nat} {W W' own own' : List Int} {v v2 : Value} {parts parts2 : List (Nat × Nat)} {ow ow2 : Int}
set_option maxRecDepth 100000 in
theorem hand_no (h : SpaceAt w Pb B bd ow v parts at_ end_) (h2 : SpaceAt w Qb B bd ow2 v2 parts2 at2 end2) (hne : Pb ≠ Qb) (hpl : parts.length ≤ 1000000) (f : Int) (hno : findI parts f < parts.length → (parts.getD (findI parts f) (0, 0)).2 = 1) :
    Calls Tryd.prog 44 #[.pointer (some ⟨Pb, 0, none⟩), .pointer (some ⟨Qb, 0, none⟩), .int .i64 f] w fun e w' => e = .returned (.int .i64 6) ∧ Below w.heap.size w w' := by
  have HO0 := Lib.hid (other_ok h h2 hne)
  have HFD : Hid (∀ Y, Below w.heap.size w Y → _) := Lib.hid (fun Y (hY : Below w.heap.size w Y) => find_any (h.on hY) hpl f)
  obtain ⟨m, n, hmn⟩ : ∃ m n, parts.getD (findI parts f) (0, 0) = (m, n) := ⟨_, _, rfl⟩
  rw [hmn] at HFD hno
  generalize findI parts f = j at *
  replace hno : j < parts.length → n = 1 := hno
  clear h h2 hmn
  by_cases hj : j < parts.length
  · have hn := hno hj
    subst hn
    rw [decide_eq_true hj] at HFD
    clear hno
    go_enter Tryd.func44, Tryd.ntmps44
    go_wp2_with fail
    refine HO0.out.mono ?_
    rintro e w1 ⟨rfl, hb1⟩
    have HB1 := Lib.hid hb1
    clear hb1 HO0
    go_wp2_with fail
    refine (HFD.out _ HB1.out).mono ?_
    rintro e w2 ⟨rfl, hb2⟩
    have HB2 := Lib.hid (HB1.out.on hb2)
    have hk := heap_alloc_new w2 (.cells #[.int .i64 m, .int .i64 (1 : Nat)] 93)
    have k0 := (blk_cells hk 0).trans rfl
    have k1 := (blk_cells hk 1).trans rfl
    clear hb2 hk HFD
    go_wp2
    go_ret
    exact ⟨rfl, HB2.out.on (below1 _ _)⟩
  · rw [decide_eq_false hj] at HFD
    clear hno
    go_enter Tryd.func44, Tryd.ntmps44
    go_wp2_with fail
    refine HO0.out.mono ?_
    rintro e w1 ⟨rfl, hb1⟩
    have HB1 := Lib.hid hb1
    clear hb1 HO0
    go_wp2_with fail
    refine (HFD.out _ HB1.out).mono ?_
    rintro e w2 ⟨rfl, hb2⟩
    have HB2 := Lib.hid (HB1.out.on hb2)
    clear hb2 HFD
    go_wp2
    go_ret
    exact ⟨rfl, HB2.out.on (below1 _ _)⟩
def HandPost (w : World) (B Wb Ob p q : Nat) (W : List Int) (size : Nat) (own : List Int) (Pb Qb bd : Nat) (ow ow2 : Int) (v2 : Value) (parts parts2 : List (Nat × Nat)) (at_ end_ at2 end2 j m n : Nat) (e : Ending) (w' : World) : Prop :=
  e = .returned (.int .i64 0) ∧ (∃ v' v2', SpaceAt w' Pb B bd ow v' (parts.take j ++ parts.drop (j + 1)) at_ end_ ∧ SpaceAt w' Qb B bd ow2 v2' (parts2 ++ [(m, n)]) at2 end2 ∧ (∀ k, v'.ownBlock = some k → v2'.ownBlock ≠ some k)) ∧ StoreAt w' B Wb Ob p q W size (fillO own m ow2 n) ∧ Mod (JoinS Wb Ob p q Qb Pb v2) w w'
set_option maxRecDepth 100000 in
set_option maxHeartbeats 1000000 in
theorem hand_in (h : SpaceAt w Pb B bd ow v parts at_ end_) (h2 : SpaceAt w Qb B bd ow2 v2 parts2 at2 end2) (hs : StoreAt w B Wb Ob p q W size own) (hne : Pb ≠ Qb) (hfar : ∀ k, v.ownBlock = some k → v2.ownBlock ≠ some k) (hpl : parts.length ≤ 1000000) (hpl2 : parts2.length ≤ 1000000) (hbd : bd ≤ w.heap.size) (j m n : Nat) (hj : findI parts m = j) (hjl : j < parts.length) (hx : parts.getD j (0, 0) = (m, n)) (hf : ∀ i, i < j → (parts.getD i (0, 0)).1 ≠ m) (hn1 : 1 < n) (ho : ∀ c, c < n → own.getD (m + c) 0 ≠ 0) (hol : m + n ≤ own.length) :
    Calls Tryd.prog 44 #[.pointer (some ⟨Pb, 0, none⟩), .pointer (some ⟨Qb, 0, none⟩), .int .i64 m] w (HandPost w B Wb Ob p q W size own Pb Qb bd ow ow2 v2 parts parts2 at_ end_ at2 end2 j m n) := by
  have HO0 := Lib.hid (other_ok h h2 hne)
  have HFD : Hid (∀ Y, Below w.heap.size w Y → _) := Lib.hid (fun Y (hY : Below w.heap.size w Y) => find_any (h.on hY) hpl m)
  rw [hj, hx, decide_eq_true hjl] at HFD
  have H := Lib.hid h
  have H2 := Lib.hid h2
  have HS := Lib.hid hs
  have HX := Lib.hid hx
  have HF := Lib.hid hf
  have HO := Lib.hid ho
  have HFR := Lib.hid hfar
  have hnb : ((n : Int) == 1) = false := by simp; omega
  have hlt1 := block_lt h.head
  have hlt2 := block_lt h2.head
  clear h h2 hs ho hx hf hj hfar
  go_enter Tryd.func44, Tryd.ntmps44
  go_wp2_with fail
  refine HO0.out.mono ?_
  rintro e w1 ⟨rfl, hb1⟩
  have HB1 := Lib.hid hb1
  clear hb1 HO0
  go_wp2_with fail
  refine (HFD.out _ HB1.out).mono ?_
  rintro e w2 ⟨rfl, hb2⟩
  have hbz : Below w.heap.size w (w2.alloc (.cells #[.int .i64 m, .int .i64 n] 93)) := (HB1.out.on hb2).on (below1 _ _)
  have hk := heap_alloc_new w2 (.cells #[.int .i64 m, .int .i64 n] 93)
  have k0 := (blk_cells hk 0).trans rfl
  have k1 := (blk_cells hk 1).trans rfl
  have hz2 := (HB1.out.on hb2).size
  have HC := Lib.hid (cut_any (H.out.on hbz) hpl (Nat.le_trans hbd hbz.size) j m n hjl HX.out HF.out)
  have HBZ := Lib.hid hbz
  have HK := Lib.hid hk
  clear hb2 hk hbz HFD
  go_wp2_with fail
  refine HC.out.mono ?_
  rintro e w3 ⟨rfl, v3, hP3, hM3, hv3⟩
  have hK3 := hM3.keeps HK.out (by omega)
  have k0 := (blk_cells hK3 0).trans rfl
  have k1 := (blk_cells hK3 1).trans rfl
  have hm3 : Mod (fun k => k = Pb) w w3 := (Mod.of_below HBZ.out).trans hM3
  have hS3 := HS.out.mod hm3 (fun k hk e => (H.out.far HS.out k hk).1 e)
  have hv2P : v2.ownBlock ≠ some Pb := wrow_type H2.out.row H.out.head (by decide)
  have hQ3 : SpaceAt w3 Qb B bd ow2 v2 parts2 at2 end2 := H2.out.mod hm3 (fun e => hne e.symm) (fun k hk e => hv2P (hk.trans (by rw [e])))
  have HG := Lib.hid (get_in hQ3 hS3 hpl2 (Nat.le_trans hbd hm3.size) m n HO.out hol)
  have HP3 := Lib.hid hP3
  have HQ3 := Lib.hid hQ3
  have HS3 := Lib.hid hS3
  have HV3 := Lib.hid hv3
  have HM3 := Lib.hid hm3
  have HZ3 : Hid ((w2.alloc (.cells #[.int .i64 m, .int .i64 n] 93)).heap.size ≤ w3.heap.size) := Lib.hid hM3.size
  clear hP3 hM3 hv3 hK3 hm3 hS3 hQ3 HC
  go_wp2_with fail
  refine HG.out.mono ?_
  rintro e w4 ⟨rfl, v4, hQ4, hS4, hM4, hv4⟩
  have HQ4 := Lib.hid hQ4
  have HS4 := Lib.hid hS4
  have HM4 := Lib.hid hM4
  have HV4 := Lib.hid hv4
  clear hQ4 hS4 hM4 hv4 HG k0 k1
  go_wp2
  go_ret
  have hA : ∀ k, v3.ownBlock = some k → v.ownBlock = some k ∨ w.heap.size ≤ k := fun k hk => (HV3.out k hk).imp id (fun e => Nat.le_trans HBZ.out.size e)
  have h2lo := H2.out.row.lt
  have h3lt := HP3.out.row.lt
  have hPA : ¬ AllocS Wb Ob p q Qb v2 Pb := by
    rintro (e | e | e)
    · exact (H.out.far HS.out _ (.inr e)).1 rfl
    · exact hne e
    · exact hv2P e
  refine ⟨rfl, ⟨v3, v4, HP3.out.mod HM4.out hPA (fun k hk e => ?_), HQ4.out, fun k hk e => ?_⟩, HS4.out, (HM3.out.mono fun k _ e => .inr e).trans (HM4.out.mono fun k _ e => .inl e)⟩
  · rcases e with e | e | e
    · exact (HP3.out.far HS3.out k (.inr e)).2 hk
    · exact wrow_type HP3.out.row HQ3.out.head (by decide) (hk.trans (by rw [e]))
    · rcases hA k hk with g | g
      · exact HFR.out k g e
      · have := (h2lo k e).2; omega
  · have g3 := (h3lt k hk).2
    rcases HV4.out k e with g | g
    · rcases hA k hk with g2 | g2
      · exact HFR.out k g2 g
      · have := (h2lo k g).2; omega
    · omega
/-- The present chunk is one of the parts, or there is none. -/
def PPres (size a e : Nat) (parts : List (Nat × Nat)) : Prop := (a = 0 ∧ e = 0) ∨ ∃ c : Nat, e = (c + 1) * size ∧ (c, 1) ∈ parts
theorem PPres.drop {a e : Nat} {x : Nat × Nat} {l : List (Nat × Nat)} (hs : 1 ≤ size) (h : PPres size a e (x :: l)) : PPres size (if dropP size e x.1 x.2 then 0 else a) (if dropP size e x.1 x.2 then 0 else e) l := by
  by_cases hd : dropP size e x.1 x.2 = true
  · rw [hd]; exact .inl ⟨rfl, rfl⟩
  · rw [Bool.not_eq_true] at hd
    rw [hd]
    rcases h with ⟨rfl, rfl⟩ | ⟨c, hc, hm⟩
    · exact .inl ⟨rfl, rfl⟩
    · rcases List.mem_cons.1 hm with g | g
      · subst g
        rw [hc, dropP_yes rfl] at hd
        cases hd
      · exact .inr ⟨c, hc, g⟩
def PClearR (w : World) (B Wb Ob p q : Nat) (W : List Int) (size : Nat) (own : List Int) (Pb bd : Nat) (ow : Int) (v : Value) (parts : List (Nat × Nat)) (w1 : World) (j : Nat) (wr : World) : Prop :=
  ∃ v' a e, SpaceAt wr Pb B bd ow v' (parts.drop j) a e ∧ PPres size a e (parts.drop j) ∧ StoreAt wr B Wb Ob p q W size (giveL own 0 (parts.take j)) ∧ Mod (DropS Wb Ob p q Pb) w1 wr ∧ (∀ k, v'.ownBlock = some k → v.ownBlock = some k ∨ w.heap.size ≤ k)
theorem chunks_split (j : Nat) (hj : j < parts.length) : chunksL parts = chunksL (parts.take j) ++ (chunkL (parts.getD j (0, 0)) ++ chunksL (parts.drop (j + 1))) := by
  have h := congrArg chunksL (split_at j hj)
  rw [chunksL_append, chunksL_cons] at h
  exact h
theorem chunks_first (j : Nat) (hj : j < parts.length) (hn : 1 ≤ (parts.getD j (0, 0)).2) : (chunksL parts).getD (chunksL (parts.take j)).length 0 = (parts.getD j (0, 0)).1 := by
  rw [chunks_split j hj]
  simp only [List.getD]
  generalize hx : parts[j]?.getD (0, 0) = x
  have hn2 : 1 ≤ x.2 := by rw [← hx]; exact hn
  obtain ⟨k, hk⟩ : ∃ k, x.2 = k + 1 := ⟨x.2 - 1, by omega⟩
  have e : chunkL x = x.1 :: (List.range k).map (fun y => x.1 + (y + 1)) := by
    unfold chunkL
    rw [hk, List.range_succ_eq_map]
    simp
  rw [List.getElem?_append_right (Nat.le_refl _), Nat.sub_self, e]
  rfl
theorem chunks_old (j i : Nat) (hi : i < (chunksL (parts.take j)).length) : (chunksL parts).getD i 0 ∈ chunksL (parts.take j) := by
  have h : chunksL parts = chunksL (parts.take j) ++ chunksL (parts.drop j) := by rw [← chunksL_append, List.take_append_drop]
  rw [h]
  simp only [List.getD]
  rw [List.getElem?_append_left hi]
  simp [hi]
theorem chunks_mono (j : Nat) : (chunksL (parts.take j)).length ≤ (chunksL (parts.take (j + 1))).length := by
  by_cases hj : j < parts.length
  · have htk : parts.take (j + 1) = parts.take j ++ [parts.getD j (0, 0)] := by
      rw [List.take_add_one]; simp [List.getD, hj]
    rw [htk, chunksL_snoc, List.length_append]; omega
  · rw [List.take_of_length_le (by omega), List.take_of_length_le (by omega)]; omega
set_option maxRecDepth 100000 in
set_option maxHeartbeats 1000000 in
theorem clear_any (h : SpaceAt w Pb B bd ow v parts at_ end_) (hs : StoreAt w B Wb Ob p q W size own) (hi : SpInv own ow parts) (hp : PPres size at_ end_ parts) (hbd : bd ≤ w.heap.size) :
    Calls Tryd.prog 41 #[.pointer (some ⟨Pb, 0, none⟩)] w fun e w' => e = .returned (.tuple #[]) ∧ (∃ v', SpaceAt w' Pb B bd ow v' [] 0 0 ∧ (∀ k, v'.ownBlock = some k → v.ownBlock = some k ∨ w.heap.size ≤ k)) ∧ StoreAt w' B Wb Ob p q W size (giveL own 0 parts) ∧ Mod (DropS Wb Ob p q Pb) w w' := by
  have hpl : parts.length ≤ 1000000 := Nat.le_trans hi.len (Nat.le_trans hs.o2 (by decide))
  have HC := Lib.hid (chunks_sp h hpl)
  have HI := Lib.hid hi
  have hcl := Nat.le_trans hi.clen hs.o2
  have HS1 := Lib.hid hs.s1
  have HW0 : Hid (∀ Y, Below w.heap.size w Y → PClearR w B Wb Ob p q W size own Pb bd ow v parts Y 0 Y) := Lib.hid (fun Y hY => ⟨v, at_, end_, h.on hY, hp, hs.on hY, Mod.refl _ _, fun k hk => .inl hk⟩)
  have HLO : Hid (∀ k, DropS Wb Ob p q Pb k → k < w.heap.size) := Lib.hid (fun k hk => by
    obtain ⟨u, hu⟩ := hs.map
    rcases hk with (g | g | g | g) | g
    · rw [g]; exact block_lt hs.body
    · rw [g]; exact block_lt hs.owners
    · rw [g]; exact hu.plt
    · rw [g]; exact hu.qlt
    · rw [g]; exact block_lt h.head)
  have how := h.o1
  clear h hs hi hp
  go_enter Tryd.func41, Tryd.ntmps41
  go_wp2_with fail
  refine HC.out.mono ?_
  rintro e w1 ⟨A, c, rfl, hrow, hb1⟩
  have HR1 := Lib.hid (HW0.out _ hb1)
  have HB1 := Lib.hid hb1
  have HROW := Lib.hid hrow
  clear hrow hb1 HC HW0
  go_wp2_with fail
  go_loopw [7] (fun v7 wr => ∃ i j : Nat, i ≤ (chunksL parts).length ∧ v7 = .int .i64 i ∧ j ≤ parts.length ∧ i ≤ (chunksL (parts.take j)).length ∧ Hid (∀ j', j' < j → (chunksL (parts.take j')).length < i) ∧ Hid (PClearR w B Wb Ob p q W size own Pb bd ow v parts w1 j wr)) (fun v7 _ => (chunksL parts).length - (intOf v7).toNat)
  case atStart => exact ⟨0, 0, by omega, rfl, by omega, by omega, Lib.hid (fun j' hj' => by omega), HR1⟩
  case round =>
    obtain ⟨i, j, hi, rfl, hjl, hij, HJ, HR⟩ := hrel
    obtain ⟨v', a, e, g1, g2, g3, g4, g5⟩ := HR.out
    by_cases hlt : i < (chunksL parts).length
    · have hrw := own_mod HROW.out g4 (fun k hk e => by
        have h1 := (HROW.out.lt k hk).1
        have h2 := HLO.out k e
        omega)
      obtain ⟨A2, c2, e2, hc2, hS2⟩ := own_slice encN 0 (fun _ => rfl) hrw
      injection e2 with e2 e3 e4
      subst e2
      subst e4
      obtain ⟨b2, o2, rfl, hcell⟩ := hS2 i hlt
      have hc0 := hcell 0 _ rfl
      rw [Nat.mul_one, Nat.add_zero] at hc0
      have HDR : Hid (Calls Tryd.prog 34 #[.pointer (some ⟨Pb, 0, none⟩), .int .i64 ((chunksL parts).getD i 0 : Nat)] wr fun e w' => (∃ x, e = .returned x) ∧ ∃ j', j' ≤ parts.length ∧ i + 1 ≤ (chunksL (parts.take j')).length ∧ (∀ j2, j2 < j' → (chunksL (parts.take j2)).length < i + 1) ∧ PClearR w B Wb Ob p q W size own Pb bd ow v parts w1 j' w') := Lib.hid (by
        have hdl : (parts.drop j).length = parts.length - j := List.length_drop
        have hbd2 : bd ≤ wr.heap.size := Nat.le_trans hbd (Nat.le_trans HB1.out.size g4.size)
        have hgd : ∀ k, (parts.drop j).getD k (0, 0) = parts.getD (j + k) (0, 0) := fun k => by simp [List.getD, List.getElem?_drop]
        have hmem : ∀ k, k < parts.length → parts.getD k (0, 0) ∈ parts := fun k hk => by
          have : parts.getD k (0, 0) = parts[k] := by simp [List.getD, hk]
          rw [this]; exact List.getElem_mem hk
        rcases Nat.lt_or_ge i (chunksL (parts.take j)).length with hold | hnew
        · have hno := drop_no g1 (by omega) ((chunksL parts).getD i 0 : Nat) (findI_none (fun k hk he => by
            have h1 := chunks_old j i hold
            have h2 : (parts.getD (j + k) (0, 0)).1 = (chunksL parts).getD i 0 := by rw [hgd] at he; omega
            have h3 := HI.out.n1 _ (hmem (j + k) (by omega))
            have hnd := HI.out.nd
            have hs : chunksL parts = chunksL (parts.take j) ++ chunksL (parts.drop j) := by rw [← chunksL_append, List.take_append_drop]
            rw [hs, List.nodup_append] at hnd
            refine hnd.2.2 _ h1 _ (mem_chunksL.2 ⟨(parts.drop j).getD k (0, 0), ?_, ?_⟩) rfl
            · have : (parts.drop j).getD k (0, 0) = (parts.drop j)[k] := by simp only [List.getD, List.getElem?_eq_getElem hk, Option.getD_some]
              rw [this]; exact List.getElem_mem hk
            · rw [hgd]; omega))
          refine hno.mono fun e' w' ⟨h1, h2⟩ => ⟨⟨_, h1⟩, j, hjl, hold, fun j2 hj2 => by have := HJ.out j2 hj2; omega, ⟨v', a, e, g1.on h2, g2, g3.on h2, g4.trans (.of_below h2), g5⟩⟩
        · have hieq : i = (chunksL (parts.take j)).length := by omega
          have hj : j < parts.length := by
            rcases Nat.lt_or_ge j parts.length with g | g
            · exact g
            · rw [List.take_of_length_le g] at hieq; omega
          obtain ⟨m, n, hxm⟩ : ∃ m n, parts.getD j (0, 0) = (m, n) := ⟨_, _, rfl⟩
          have hme := hmem j hj
          rw [hxm] at hme
          have hn1 : 1 ≤ n := HI.out.n1 _ hme
          have hfit := HI.out.fit _ hme
          have hfst : (chunksL parts).getD i 0 = m := by rw [hieq, chunks_first j hj (by rw [hxm]; exact hn1), hxm]
          have htk : parts.take (j + 1) = parts.take j ++ [parts.getD j (0, 0)] := by
            rw [List.take_add_one]; simp [List.getD, hj]
          rw [hxm] at htk
          have hcut := (HI.out.cut j hj).2
          rw [hxm] at hcut
          have hfit2 : ∀ x ∈ parts.take j, x.1 + x.2 ≤ own.length := fun x hx => HI.out.fit x (List.mem_of_mem_take hx)
          have hx0 : (parts.drop j).getD 0 (0, 0) = (m, n) := by rw [hgd, Nat.add_zero]; exact hxm
          have hd0 : parts.drop j = (m, n) :: parts.drop (j + 1) := by
            have e : parts[j] = (m, n) := by rw [← hxm]; simp [List.getD, hj]
            rw [List.drop_eq_getElem_cons hj, e]
          rw [hfst]
          refine (drop_any g1 g3 (by omega) hbd2 0 m n (findI_to (by omega) (by rw [hx0]) (fun k hk => by omega)) (by omega) hx0 (fun k hk => by omega) (fun c hc => ?_) (by rw [giveL_length]; exact hfit)).mono ?_
          · rw [giveL_getD _ _ _ _ hfit2, if_neg (fun e => hcut (m + c) (mem_chunkL.2 ⟨Nat.le_add_right _ _, Nat.add_lt_add_left hc _⟩) (by
              rw [chunksL_append]; exact List.mem_append.2 (.inl e))), HI.out.part hme c hc]
            omega
          · rintro e' w' ⟨h1, v'', h2, h3, h4, h5⟩
            have e1 : (parts.drop j).take 0 ++ (parts.drop j).drop (0 + 1) = parts.drop (j + 1) := by rw [List.take_zero, List.nil_append, List.drop_drop]
            rw [e1] at h2
            have hpp := g2
            rw [hd0] at hpp
            refine ⟨⟨_, h1⟩, j + 1, hj, ?_, fun j2 hj2 => ?_, v'', _, _, h2, hpp.drop HS1.out, ?_, g4.trans h4, fun k hk => ?_⟩
            · rw [htk, chunksL_snoc, List.length_append, ← hieq]
              have : (chunkL (m, n)).length = n := by simp [chunkL]
              omega
            · rcases Nat.lt_or_ge j2 j with g | g
              · have := HJ.out j2 g; omega
              · obtain rfl : j2 = j := by omega
                omega
            · rw [htk, giveL_snoc]; exact h3
            · rcases h5 k hk with g | g
              · exact g5 k g
              · exact .inr (Nat.le_trans (Nat.le_trans HB1.out.size g4.size) g))
      generalize (chunksL parts).getD i 0 = x at hc0 HDR
      clear g1 g2 g3 g4 g5 hrw hS2 hcell HR
      go_wp2_with fail
      refine HDR.out.mono ?_
      rintro e w5 ⟨⟨x5, rfl⟩, j', h1, h2, h3, h4⟩
      have H3 := Lib.hid h3
      have H4 := Lib.hid h4
      clear h3 h4 HDR
      go_wp2
      go_roundw
      case rel => exact ⟨i + 1, j', by omega, by go_num, h1, h2, H3, H4⟩
      case measure => simp [intOf]; omega
    · have HF : Hid ((∃ v', SpaceAt wr Pb B bd ow v' [] 0 0 ∧ (∀ k, v'.ownBlock = some k → v.ownBlock = some k ∨ w.heap.size ≤ k)) ∧ StoreAt wr B Wb Ob p q W size (giveL own 0 parts) ∧ Mod (DropS Wb Ob p q Pb) w wr) := Lib.hid (by
        have hje : j = parts.length := by
          rcases Nat.lt_or_ge j parts.length with g | g
          · have h1 := chunks_split j g
            have h2 := congrArg List.length h1
            rw [List.length_append, List.length_append] at h2
            have h3 : (chunkL (parts.getD j (0, 0))).length = (parts.getD j (0, 0)).2 := by simp [chunkL]
            have h4 : 1 ≤ (parts.getD j (0, 0)).2 := HI.out.n1 _ (by
              have : parts.getD j (0, 0) = parts[j] := by simp [List.getD, g]
              rw [this]; exact List.getElem_mem g)
            omega
          · omega
        subst hje
        rw [List.drop_length] at g1 g2
        rw [List.take_length] at g3
        rcases g2 with ⟨rfl, rfl⟩ | ⟨c, _, hc⟩
        · exact ⟨⟨_, g1, g5⟩, g3, (Mod.of_below HB1.out).trans g4⟩
        · cases hc)
      obtain rfl : i = (chunksL parts).length := by omega
      clear g1 g2 g3 g4 g5 HR
      go_wp2
      exact bodyPost_end (results_none rfl _ _ _) rfl ⟨rfl, HF.out⟩
end
end Go.Proofs.YtkaflgbipjppmaaDoor
