/- Mb Mc Md -/
import Derived.Test.YtfflacggaebonaaGreatDoorGI
import Derived.Deep.AppendLies
import Derived.Deep.RegionLaw
section
namespace Go.Proofs.YtfflacggaebonaaGreatDoor
open Go.RowKit
set_option linter.unusedVariables false
set_option linter.unusedSimpArgs false
variable {w w' base : World} {M B Wb Ob p q P bd D G Wg Og size : Nat} {W W' own own' : List Int} {ls : List Lay} {T : Nat → Prop} {v u : Value} {l dl : List LayR}
theorem ty_ne {a b : Nat} {ca cb : Array Value} {t t' : TypeId} {f f' : Nat × Nat} (h : w.heap[a]? = some (.cells ca t f)) (k : w.heap[b]? = some (.cells cb t' f')) (hne : t ≠ t') : a ≠ b := fun e => by
  subst e
  rw [h] at k
  cases k
  exact hne rfl
theorem row_ty {b n s : Nat} {e : TypeId} {xs : List Value} (h : w.ownsRow b e s v n xs) {k : Nat} (hk : v.ownBlock = some k) : ∃ cur, w.heap[k]? = some (.cells cur e (0, 0)) := by
  rcases h.2 with ⟨h2, _⟩ | ⟨g, cap, cur, hv, hg, hh, r⟩
  · rw [h2] at hk; cases hk
  · rw [hv] at hk
    obtain rfl : g = k := by injection hk
    exact ⟨cur, hh⟩
/-- In which order the blocks lie. -/
structure Ord9 (base : World) (B Wb Ob p q P G Wg Og D : Nat) : Prop where
  five : ∀ k, Five B Wb Ob p q k → base.heap.size ≤ k ∧ k < P
  g1 : P < G
  g2 : P < Wg
  g3 : P < Og
  d1 : G < D
  d2 : Wg < D
  d3 : Og < D
theorem Ord9.six (h : Ord9 base B Wb Ob p q P G Wg Og D) : ∀ k, Six Wb Ob p q Wg Og k → base.heap.size ≤ k ∧ k < D ∧ k ≠ P := fun k hk => by
  have h1 := h.g1
  have h2 := h.g2
  have h3 := h.g3
  have h4 := h.d1
  have h5 := h.d2
  have h6 := h.d3
  have h0 := h.five B (.inl rfl)
  rcases hk with e | e | e
  · have := h.five k (.inr e); omega
  · omega
  · omega
/-- While the layouts are laid. -/
structure ML (base w : World) (B Wb Ob p q P bd : Nat) (v : Value) (l : List LayR) (D G Wg Og : Nat) (u : Value) (dl : List LayR) : Prop where
  st : StoreAt w B Wb Ob p q zerosW 8 (onesO 5)
  bk : BookAt w P bd v l
  bT : ∀ k, BookK P v l k → ¬ Six Wb Ob p q Wg Og k
  im : ImgD (Six Wb Ob p q Wg Og) base w D G Wg Og u zerosW 8 (onesO 5) dl
  sep : ∀ k, v.ownBlock = some k → u.ownBlock ≠ some k
  ord : Ord9 base B Wb Ob p q P G Wg Og D
  lD : P < D
  lP : base.heap.size ≤ P
  ug : ∀ k, u.ownBlock = some k → base.heap.size ≤ k
theorem ML.on (h : ML base w B Wb Ob p q P bd v l D G Wg Og u dl) (hb : Below w.heap.size w w') : ML base w' B Wb Ob p q P bd v l D G Wg Og u dl := { h with st := h.st.on hb, bk := h.bk.on hb, im := h.im.on hb }
theorem ML.tlt (h : ML base w B Wb Ob p q P bd v l D G Wg Og u dl) : ∀ k, Six Wb Ob p q Wg Og k → k < w.heap.size := fun k hk => Nat.lt_trans (h.ord.six k hk).2.1 (block_lt h.im.head)
theorem ML.frame {v' : Value} {l' : List LayR} (h : ML base w B Wb Ob p q P bd v l D G Wg Og u dl) (hB : BookAt w' P bd v' l') (hF : Frame w w' P v v') (hn : ∀ k, BookK P v' l' k → ¬ Six Wb Ob p q Wg Og k) : ML base w' B Wb Ob p q P bd v' l' D G Wg Og u dl := by
  have hvb : ∀ k, v.ownBlock = some k → P < k := fun k e => Nat.lt_of_lt_of_le h.bk.hP (h.bk.row.lt k e).1
  have hlay : ∀ k, v.ownBlock = some k → ∃ cur, w.heap[k]? = some (.cells cur 64 (0, 0)) := fun k e => row_ty h.bk.row e
  refine { h with st := h.st.mod hF.1 (fun k hk e => ?_), bk := hB, bT := hn, im := ?_, sep := fun k e1 e2 => ?_ }
  · have g := h.ord.five k hk
    rcases e with e | e
    · omega
    · have := hvb k e; omega
  · have key : ∀ {k : Nat} {cs : Array Value} {t : TypeId}, w.heap[k]? = some (.cells cs t (0, 0)) → t ≠ 64 → t ≠ 122 → ¬ (k = P ∨ v.ownBlock = some k) := fun hk h1 h2 e => by
      rcases e with e | e
      · exact ty_ne hk h.bk.head h2 e
      · obtain ⟨cur, hc⟩ := hlay _ e
        exact ty_ne hk hc h1 rfl
    exact { h.im with head := hF.1.keeps h.im.head (key h.im.head (by decide) (by decide)), rf := h.im.rf.mod hF.1 (key h.im.rf.head (by decide) (by decide)) (key h.im.rf.body (by decide) (by decide)) (key h.im.rf.owners (by decide) (by decide)), row := own_mod h.im.row hF.1 (fun k e e2 => by
      rcases e2 with e2 | e2
      · obtain ⟨cur, hc⟩ := row_ty h.im.row e
        exact ty_ne hc h.bk.head (by decide) e2
      · exact h.sep k e2 e), below := hF.1.below h.im.below (fun k e => by
        have := h.lP
        rcases e with e | e
        · omega
        · have := hvb k e; omega) h.im.below.size }
  · rcases hF.2 k e1 with g | g
    · exact h.sep k g e2
    · have := (h.im.row.lt k e2).2; omega
theorem ML.same {v' : Value} (h : ML base w B Wb Ob p q P bd v l D G Wg Og u dl) (hB : BookAt w' P bd v l) (hF : Frame w w' P v v) : ML base w' B Wb Ob p q P bd v l D G Wg Og u dl := h.frame hB hF h.bT
theorem ML.added {v' : Value} {r : LayR} (h : ML base w B Wb Ob p q P bd v l D G Wg Og u dl) (hB : BookAt w' P bd v' (l ++ [r])) (hF : Frame w w' P v v') (hN : NewR w r) : ML base w' B Wb Ob p q P bd v' (l ++ [r]) D G Wg Og u dl :=
  h.frame hB hF (fun k hk e => by
    have ht := h.tlt k e
    rcases hk with hk | hk | ⟨x, hx, hk⟩
    · exact h.bT k (.inl hk) e
    · rcases hF.2 k hk with g | g
      · exact h.bT k (.inr (.inl g)) e
      · omega
    · rcases List.mem_append.1 hx with hx | hx
      · exact h.bT k (.inr (.inr ⟨x, hx, hk⟩)) e
      · rw [List.mem_singleton] at hx
        subst hx
        have := hN k hk
        omega)
theorem ML.kept {u' : Value} {r : LayR} {w5 : World} {o : Obj} (h : ML base w B Wb Ob p q P bd v l D G Wg Og u dl) (hr : LayIs base r.x r.A1 r.c1 r.A2 r.c2) (hgrow : (w.alloc o).grownBy w5 u.ownBlock) (hown : w5.ownsRow 0 64 4 u' (dl.length + 1) (dl.flatMap layREnc ++ layREnc r)) (hat : ∀ k, u'.ownBlock = some k → u.ownBlock = some k ∨ k = (w.alloc o).heap.size) :
    ML base (w5.setCell ⟨D, 1, none⟩ u') B Wb Ob p q P bd v l D G Wg Og u' (dl ++ [r]) := by
  have hsz : (w.alloc o).heap.size = w.heap.size + 1 := World.size_alloc _ _
  have ha := h.on (below1 w o)
  have m1 : Mod (fun k => u.ownBlock = some k ∨ k = D) (w.alloc o) w5 := ⟨hgrow.os, hgrow.tape, hgrow.output, hgrow.size, fun k hk hn => hgrow.block k hk (fun e => hn (.inl e.symm))⟩
  have hm : Mod (fun k => u.ownBlock = some k ∨ k = D) (w.alloc o) (w5.setCell ⟨D, 1, none⟩ u') := m1.trans (Mod.setCell _ w5 ⟨D, 1, none⟩ u' (.inr rfl))
  have hrow : ∀ k, u.ownBlock = some k → ∃ cur, (w.alloc o).heap[k]? = some (.cells cur 64 (0, 0)) := fun k e => row_ty ha.im.row e
  have key : ∀ {k : Nat} {cs : Array Value} {t : TypeId}, (w.alloc o).heap[k]? = some (.cells cs t (0, 0)) → t ≠ 64 → t ≠ 47 → ¬ (u.ownBlock = some k ∨ k = D) := fun hk h1 h2 e => by
    rcases e with e | e
    · obtain ⟨cur, hc⟩ := hrow _ e
      exact ty_ne hk hc h1 rfl
    · exact ty_ne hk ha.im.head h2 e
  obtain ⟨x, hx⟩ := ha.st.map
  have hD5 : w5.heap[D]? = some (.cells #[.pointer (some ⟨G, 0, none⟩), u] 47 (0, 0)) := (hgrow.block D (block_lt ha.im.head) (fun e => by
    obtain ⟨cur, hc⟩ := hrow D e.symm
    exact ty_ne ha.im.head hc (by decide) rfl)).trans ha.im.head
  refine { h with st := ha.st.mod hm (fun k hk => ?_), bk := ha.bk.mod hm (fun k hk => ?_), im := ?_, sep := fun k e1 e2 => ?_, ug := fun k e => ?_ }
  · rcases hk with e | e | e | e | e
    · subst e; exact key ha.st.head (by decide) (by decide)
    · subst e; exact key ha.st.body (by decide) (by decide)
    · subst e; exact key ha.st.owners (by decide) (by decide)
    · subst e; exact key hx.head (by decide) (by decide)
    · subst e; exact key hx.body (by decide) (by decide)
  · rcases hk with e | e | ⟨y, hy, e⟩
    · subst e; exact key ha.bk.head (by decide) (by decide)
    · rintro (e2 | e2)
      · exact h.sep k e e2
      · obtain ⟨cur, hc⟩ := row_ty ha.bk.row e
        exact ty_ne hc ha.im.head (by decide) e2
    · rcases e with e | e
      · obtain ⟨cur, hc⟩ := row_ty (ha.bk.good y hy).o1 e
        exact key hc (by decide) (by decide)
      · obtain ⟨cur, hc⟩ := row_ty (ha.bk.good y hy).o2 e
        exact key hc (by decide) (by decide)
  · refine { h.im with head := ?_, rf := ha.im.rf.mod hm (key ha.im.rf.head (by decide) (by decide)) (key ha.im.rf.body (by decide) (by decide)) (key ha.im.rf.owners (by decide) (by decide)), row := ?_, arg := fun y hy => ?_, below := hm.below ha.im.below (fun k e => ?_) ha.im.below.size, hv := fun k e e2 => ?_ }
    · have := blk_set hD5 1 u'
      simpa using this
    · have : (w5.setCell ⟨D, 1, none⟩ u').ownsRow 0 64 4 u' (dl.length + 1) (dl.flatMap layREnc ++ layREnc r) := own_mod hown (Mod.setCell (fun k => k = D) w5 ⟨D, 1, none⟩ u' rfl) (fun k e e2 => by
        obtain ⟨cur, hc⟩ := row_ty hown e
        exact ty_ne hc hD5 (by decide) e2)
      simpa using this
    · rcases List.mem_append.1 hy with hy | hy
      · exact h.im.arg y hy
      · rw [List.mem_singleton] at hy
        subst hy; exact hr
    · rcases e with e | e
      · exact h.ug k e
      · have := h.lP
        have := h.lD
        omega
    · rcases hat k e with g | g
      · exact h.im.hv k g e2
      · have := h.tlt k e2; omega
  · rcases hat k e2 with g | g
    · exact h.sep k e1 g
    · have := (ha.bk.row.lt k e1).2; omega
  · rcases hat k e with g | g
    · exact h.ug k g
    · have := ha.im.below.size; omega
end Go.Proofs.YtfflacggaebonaaGreatDoor
end
section
namespace Go.Proofs.YtfflacggaebonaaGreatDoor
open Go.RowKit
set_option linter.unusedVariables false
set_option linter.unusedSimpArgs false
variable {w w' base : World} {M B Wb Ob p q P bd D G Wg Og size : Nat} {W W' own own' : List Int} {ls : List Lay} {T : Nat → Prop} {v u : Value} {l dl : List LayR}
/-- The program's images and the document's, of the same words and layouts. -/
structure ImgJ (base w : World) (M B Wb Ob p q P D G Wg Og : Nat) (u : Value) (W : List Int) (dl : List LayR) : Prop where
  ip : ImgP (Six Wb Ob p q Wg Og) w M B Wb Ob p q P W 8 (onesO 5) (dl.map LayR.x)
  im : ImgD (Six Wb Ob p q Wg Og) base w D G Wg Og u W 8 (onesO 5) dl
  far : ∀ k, Five B Wb Ob p q k → k ≠ G ∧ k ≠ Wg ∧ k ≠ Og
def rightR (r : LayR) : Bool := r.x.right
/-- The layouts that are kept of those told. -/
def keptR (rl : List LayR) : List LayR := (rl.take 6).filter rightR
def MadeI (base : World) (rl : List LayR) (e : Ending) (w' : World) : Prop := ∃ B Wb Ob p q P M D G Wg Og u, e = .returned (.tuple #[.pointer (some ⟨B, 0, none⟩), .pointer (some ⟨M, 0, none⟩), .pointer (some ⟨D, 0, none⟩)]) ∧ ImgJ base w' M B Wb Ob p q P D G Wg Og u zerosW (keptR rl)
theorem take_i {i : Nat} (hi : i < 5) (h : StoreAt w B Wb Ob p q zerosW 8 (onesO i)) (hT : Tab w) : Calls Tryz.prog 21 #[.pointer (some ⟨B, 0, none⟩), .int .i64 1] w fun e w' => e = .returned (.tuple #[.int .i64 i, .int .i64 0]) ∧ StoreAt w' B Wb Ob p q zerosW 8 (onesO (i + 1)) ∧ Mod (Four3 Wb Ob p q) w w' := by
  refine take_any 1 _ ((take_in h hT 1 1 i (by decide) (by decide) (onesO_run hi)).mono ?_) (fun e w' h => ⟨_, _, h.1⟩)
  rintro e w1 ⟨h1, h2, h3⟩
  rw [zerosW_step i hi, onesO_step] at h2
  exact ⟨h1, h2, h3⟩
theorem rtake_i {i : Nat} (hi : i < 5) (h : RefSt w G Wg Og zerosW 8 (onesO i)) : Calls Tryz.prog 22 #[.pointer (some ⟨G, 0, none⟩), .int .i64 1, .int .i64 1] w fun e w' => e = .returned (.tuple #[.int .i64 i, .int .i64 0]) ∧ RefSt w' G Wg Og zerosW 8 (onesO (i + 1)) ∧ Mod (Two3 Wg Og) w w' := by
  refine (rtake_in h 1 1 i (by decide) (by decide) (by decide) (onesO_run hi)).mono ?_
  rintro e w1 ⟨h1, h2, h3⟩
  rw [zerosW_step i hi, onesO_step] at h2
  exact ⟨h1, h2, h3⟩
/-- While the chunks are taken. -/
structure MK (base w : World) (B Wb Ob p q P bd D G Wg Og i : Nat) : Prop where
  st : StoreAt w B Wb Ob p q zerosW 8 (onesO i)
  rf : RefSt w G Wg Og zerosW 8 (onesO i)
  bk : BookAt w P bd (.slice none 0 0) []
  hd : w.heap[D]? = some (.cells #[.pointer (some ⟨G, 0, none⟩), .slice none 0 0] 47 (0, 0))
  below : Below base.heap.size base w
theorem MK.step1 {i j : Nat} (o : Ord9 base B Wb Ob p q P G Wg Og D) (lD : P < D) (h : MK base w B Wb Ob p q P bd D G Wg Og i) (hs : StoreAt w' B Wb Ob p q zerosW 8 (onesO j)) (hm : Mod (Four3 Wb Ob p q) w w') : StoreAt w' B Wb Ob p q zerosW 8 (onesO j) ∧ RefSt w' G Wg Og zerosW 8 (onesO i) ∧ BookAt w' P bd (.slice none 0 0) [] ∧ w'.heap[D]? = some (.cells #[.pointer (some ⟨G, 0, none⟩), .slice none 0 0] 47 (0, 0)) ∧ Below base.heap.size base w' := by
  have key : ∀ k, P ≤ k → ¬ Four3 Wb Ob p q k := fun k hk e => by have := (o.five k (.inr e)).2; omega
  have g1 := o.g1
  have g2 := o.g2
  have g3 := o.g3
  refine ⟨hs, h.rf.mod hm (key _ (by omega)) (key _ (by omega)) (key _ (by omega)), h.bk.mod hm (fun k hk => ?_), hm.keeps h.hd (key _ (by omega)), hm.below h.below (fun k e => (o.five k (.inr e)).1) h.below.size⟩
  rcases hk with e | e | ⟨x, hx, _⟩
  · exact key k (by omega)
  · cases e
  · cases hx
theorem MK.step2 {i j : Nat} (o : Ord9 base B Wb Ob p q P G Wg Og D) (hs : StoreAt w B Wb Ob p q zerosW 8 (onesO j) ∧ RefSt w G Wg Og zerosW 8 (onesO i) ∧ BookAt w P bd (.slice none 0 0) [] ∧ w.heap[D]? = some (.cells #[.pointer (some ⟨G, 0, none⟩), .slice none 0 0] 47 (0, 0)) ∧ Below base.heap.size base w) (hr : RefSt w' G Wg Og zerosW 8 (onesO j)) (hm : Mod (Two3 Wg Og) w w') : MK base w' B Wb Ob p q P bd D G Wg Og j := by
  obtain ⟨h1, h2, h3, h4, h5⟩ := hs
  have h0 := o.five B (.inl rfl)
  have g1 := o.g1
  have g2 := o.g2
  have g3 := o.g3
  have d2 := o.d2
  have d3 := o.d3
  have key : ∀ k, (k ≤ P ∨ D ≤ k) → ¬ Two3 Wg Og k := fun k hk e => by rcases e with e | e <;> omega
  refine ⟨h1.mod hm (fun k hk => key k (.inl (Nat.le_of_lt (o.five k hk).2))), hr, h3.mod hm (fun k hk => ?_), hm.keeps h4 (key _ (.inr (Nat.le_refl _))), hm.below h5 (fun k e => by rcases e with e | e <;> omega) h5.size⟩
  rcases hk with e | e | ⟨x, hx, _⟩
  · exact key k (.inl (by omega))
  · cases e
  · cases hx
theorem MK.done (o : Ord9 base B Wb Ob p q P G Wg Og D) (lD : P < D) (h : MK base w B Wb Ob p q P bd D G Wg Og 5) : ML base w B Wb Ob p q P bd (.slice none 0 0) [] D G Wg Og (.slice none 0 0) [] := by
  have h0 := o.five B (.inl rfl)
  refine ⟨h.st, h.bk, fun k hk e => ?_, ⟨h.hd, h.rf, World.ownsRow_nil _ _ _ _, fun r hr => absurd hr List.not_mem_nil, h.below, fun e => ?_, (fun k e => by cases e), (fun k e => (o.six k e).1), (fun k e => Or.inr e)⟩, (fun k e => by cases e), o, lD, by omega, (fun k e => by cases e)⟩
  · rcases hk with e2 | e2 | ⟨x, hx, _⟩
    · exact (o.six k e).2.2 e2
    · cases e2
    · cases hx
  · have := (o.six D e).2.1
    omega
set_option maxRecDepth 100000 in
set_option maxHeartbeats 2000000 in
theorem imade_any (A : Option Addr) (rl : List LayR) (cap : Nat) (w : World) (hA : SliceOf w A 4 layREnc layR0 rl) (hlays : ∀ r ∈ rl, LayIs w r.x r.A1 r.c1 r.A2 r.c2) (hcap : rl.length ≤ cap) (hmx : rl.length ≤ maxLen) (hT : Tab w) : Calls Tryz.prog 6 #[.slice A rl.length cap] w (MadeI w rl) := by
  obtain ⟨i0, hi, hz0, hz1, hz2⟩ := info_parts infoLay
  have HI := Lib.hid hi
  have HZ0 := Lib.hid hz0
  have HZ1 := Lib.hid hz1
  have HZ2 := Lib.hid hz2
  clear hi hz0 hz1 hz2
  have HA := Lib.hid hA
  have HLY := Lib.hid hlays
  have HT := Lib.hid hT
  clear hA hlays hT
  have HN := Lib.hid (new_in3 6 8 w (by decide) (by decide) (by decide) (by decide))
  go_enter Tryz.func6, Tryz.ntmps6
  go_wp2_with fail
  refine HN.out.mono ?_
  rintro e w1 ⟨B, Wb, Ob, p, q, rfl, hS, hb1, hF⟩
  have HS := Lib.hid hS
  have HB1 := Lib.hid hb1
  have HLT : Hid (∀ k, Five B Wb Ob p q k → w.heap.size ≤ k ∧ k < w1.heap.size) := Lib.hid (fun k e => by
    refine ⟨hF k e, ?_⟩
    obtain ⟨u, hu⟩ := hS.map
    rcases e with e | e | e | e | e
    · rw [e]; exact block_lt hS.head
    · rw [e]; exact block_lt hS.body
    · rw [e]; exact block_lt hS.owners
    · rw [e]; exact block_lt hu.head
    · rw [e]; exact block_lt hu.body)
  clear hS hb1 hF HN
  go_wp2_with fail
  refine (book_new w1).mono ?_
  rintro e w2 ⟨rfl, hbk, hb2⟩
  have HBK := Lib.hid hbk
  have HB2 := Lib.hid hb2
  clear hbk hb2
  have HR := Lib.hid (rnew_any 6 8 w2 (by decide) (by decide) (by decide) (by decide))
  go_wp2_with fail
  refine HR.out.mono ?_
  rintro e w3 ⟨G, Wg, Og, rfl, hR, hb3, hg1, hg2, hg3⟩
  have hb4 := below1 w3 (.cells #[.pointer (some ⟨G, 0, none⟩), .slice none 0 0] 47)
  have hp2 := block_lt HBK.out.head
  have q1 := block_lt hR.head
  have q2 := block_lt hR.body
  have q3 := block_lt hR.owners
  have hlD : w1.heap.size < w3.heap.size := by have := hb3.size; omega
  have HO : Hid (Ord9 w B Wb Ob p q w1.heap.size G Wg Og w3.heap.size) := Lib.hid ⟨HLT.out, by omega, by omega, by omega, q1, q2, q3⟩
  have HK0 : Hid (MK w (w3.alloc (.cells #[.pointer (some ⟨G, 0, none⟩), .slice none 0 0] 47)) B Wb Ob p q w1.heap.size w2.heap.size w3.heap.size G Wg Og 0) := Lib.hid ⟨((HS.out.on HB2.out).on hb3).on hb4, hR.on hb4, (HBK.out.on hb3).on hb4, heap_alloc_new w3 _, ((HB1.out.on HB2.out).on hb3).on hb4⟩
  have HLD := Lib.hid hlD
  clear hR hb3 hb4 hg1 hg2 hg3 hp2 q1 q2 q3 hlD HS HB1 HLT HBK HB2 HR
  generalize w1.heap.size = P at *
  generalize w2.heap.size = bd at *
  go_wp2_with fail
  generalize w3.alloc (.cells #[.pointer (some ⟨G, 0, none⟩), .slice none 0 0] 47) = W4 at *
  generalize w3.heap.size = D at *
  go_loopw [29] (fun v29 wr => ∃ i : Nat, i ≤ 5 ∧ v29 = .int .i64 i ∧ Hid (MK w wr B Wb Ob p q P bd D G Wg Og i)) (fun v29 _ => 5 - (intOf v29).toNat)
  case atStart => exact ⟨0, by omega, rfl, HK0⟩
  case round =>
    obtain ⟨i, hi, rfl, HK⟩ := hrel
    clear HK0
    by_cases hlt : i < 5
    · have HTK := Lib.hid (take_i hlt HK.out.st (HT.out.on HK.out.below))
      go_wp2_with fail
      refine HTK.out.mono ?_
      rintro e w5 ⟨rfl, hs, hm⟩
      have HK5 := Lib.hid (MK.step1 HO.out HLD.out HK.out hs hm)
      clear hs hm HTK
      have HRT := Lib.hid (rtake_i hlt HK5.out.2.1)
      have c0 := (blk_cells HK5.out.2.2.2.1 0).trans rfl
      go_wp2_with fail
      refine HRT.out.mono ?_
      rintro e w6 ⟨rfl, hs, hm⟩
      have HK6 := Lib.hid (MK.step2 HO.out HK5.out hs hm)
      clear hs hm HRT c0 HK5 HK
      go_wp2
      go_roundw
      case rel => exact ⟨i + 1, by omega, by go_num, HK6⟩
      case measure => simp [intOf]; omega
    · have h5 : i = 5 := by omega
      have HM := Lib.hid (MK.done HO.out HLD.out (h5 ▸ HK.out))
      clear HK h5
      obtain ⟨L6, hL6⟩ : ∃ L6, L6 = rl.take 6 := ⟨_, rfl⟩
      have hl6 : L6.length = min rl.length 6 := by rw [hL6, List.length_take, Nat.min_comm]
      have e1 : (min (rl.length : Int) 6).toNat = L6.length := by omega
      have e2 : max (min (rl.length : Int) 6) 0 = (L6.length : Int) := by omega
      have HS6 : Hid (SliceOf w A 4 layREnc layR0 L6) := Lib.hid (fun k hk => by
        obtain ⟨b, o, hb, hc⟩ := HA.out k (by omega)
        refine ⟨b, o, hb, fun j u hu => hc j u ?_⟩
        have : L6.getD k layR0 = rl.getD k layR0 := by rw [hL6]; simp [List.getD, List.getElem?_take, show k < 6 by omega]
        rwa [this] at hu)
      have HL6 : Hid (∀ r ∈ L6, LayIs w r.x r.A1 r.c1 r.A2 r.c2) := Lib.hid (fun r hr => HLY.out r (List.mem_of_mem_take (hL6 ▸ hr)))
      have HK : Hid (keptR rl = L6.filter rightR) := Lib.hid (by rw [hL6]; rfl)
      have h6 : L6.length ≤ 6 := by omega
      have e3 : 0 ≤ min (rl.length : Int) 6 := by omega
      have e4 : min (rl.length : Int) 6 ≤ (cap : Int) := by omega
      clear hl6 HA HLY hcap hL6
      go_wp2_with fail
      clear e1 e2 e3 e4
      go_loopw [45] (fun v45 wr => ∃ (j : Nat) (v : Value) (l : List LayR) (u : Value) (dl : List LayR), j ≤ L6.length ∧ v45 = .int .i64 j ∧ Hid (ML w wr B Wb Ob p q P bd v l D G Wg Og u dl) ∧ Hid (dl = (L6.take j).filter rightR ∧ l.map LayR.x = dl.map LayR.x)) (fun v45 _ => L6.length - (intOf v45).toNat)
      case atStart => exact ⟨0, _, _, _, _, by omega, rfl, HM, Lib.hid ⟨by simp, rfl⟩⟩
      case round =>
        obtain ⟨j, v, l, u, dl, hj, rfl, HJ, HE⟩ := hrel
        clear HM
        by_cases hlt : j < L6.length
        · obtain ⟨b, o, hA, hc⟩ := HS6.out j hlt
          have hmem : L6.getD j layR0 ∈ L6 := by
            have : L6.getD j layR0 = L6[j] := by simp [List.getD, hlt]
            rw [this]; exact List.getElem_mem hlt
          have HLR := Lib.hid (HL6.out _ hmem)
          have htk : L6.take (j + 1) = L6.take j ++ [L6.getD j layR0] := by
            rw [List.take_add_one]; simp [List.getD, hlt]
          have HTK : Hid ((L6.take (j + 1)).filter rightR = if (L6.getD j layR0).x.right = true then dl ++ [L6.getD j layR0] else dl) := Lib.hid (by
            rw [htk, List.filter_append, ← HE.out.1]
            by_cases g : (L6.getD j layR0).x.right = true
            · rw [if_pos g, List.filter_cons_of_pos (show rightR (L6.getD j layR0) = true from g)]; rfl
            · rw [if_neg g, List.filter_cons_of_neg (show ¬ rightR (L6.getD j layR0) = true from g)]; simp)
          have hdl : Hid (dl.length ≤ 6 ∧ l.length ≤ 6) := Lib.hid (by
            have q1 : dl.length ≤ 6 := by rw [HE.out.1]; exact Nat.le_trans (List.length_filter_le _ _) (by simp; omega)
            have q2 := congrArg List.length HE.out.2
            simp at q2
            omega)
          generalize L6.getD j layR0 = r at *
          have hbw := HJ.out.im.below
          have d0 := (hbw.cell (p := ⟨b, o + j * 4 + 0, none⟩) (lt_of_cell (hc 0 _ rfl))).trans (hc 0 _ rfl)
          have d1 := (hbw.cell (p := ⟨b, o + j * 4 + 1, none⟩) (lt_of_cell (hc 1 _ rfl))).trans (hc 1 _ rfl)
          have d2 := (hbw.cell (p := ⟨b, o + j * 4 + 2, none⟩) (lt_of_cell (hc 2 _ rfl))).trans (hc 2 _ rfl)
          have d3 := (hbw.cell (p := ⟨b, o + j * 4 + 3, none⟩) (lt_of_cell (hc 3 _ rfl))).trans (hc 3 _ rfl)
          rw [Nat.add_zero] at d0
          subst hA
          have hbA := below1 wr (.cells #[.int .i64 r.x.fixed, .slice r.A1 r.x.refs.length r.c1, .int .i64 r.x.record, .slice r.A2 r.x.recs.length r.c2] 64)
          have hta := heap_alloc_new wr (.cells #[.int .i64 r.x.fixed, .slice r.A1 r.x.refs.length r.c1, .int .i64 r.x.record, .slice r.A2 r.x.recs.length r.c2] 64)
          have HJA := Lib.hid (HJ.out.on hbA)
          have HRT := Lib.hid (refright_any r.x r.A1 r.c1 r.A2 r.c2 _ (HLR.out.on (hbw.on hbA)))
          unfold layV at HRT
          have htP : Hid (wr.heap.size ≠ P ∧ v.ownBlock ≠ some wr.heap.size ∧ wr.heap.size ≠ D) := Lib.hid ⟨fun e => by have := block_lt HJ.out.bk.head; omega, fun e => by have := (HJ.out.bk.row.lt _ e).2; omega, fun e => by have := block_lt HJ.out.im.head; omega⟩
          clear hc hmem htk hbw hbA
          go_wp2_with fail
          generalize wr.alloc (.cells #[.int .i64 r.x.fixed, .slice r.A1 r.x.refs.length r.c1, .int .i64 r.x.record, .slice r.A2 r.x.recs.length r.c2] 64) = Wa at *
          generalize wr.heap.size = tb at *
          refine HRT.out.mono ?_
          rintro e w5 ⟨rfl, hb5⟩
          have HJ5 := Lib.hid (HJA.out.on hb5)
          have ht5 := (hb5.block _ (block_lt hta)).trans hta
          clear hb5 hta HJA HJ d0 d1 d2 d3 HRT
          cases hr : r.x.right with
          | false =>
            rw [hr] at HTK
            clear ht5
            go_wp2
            go_roundw
            case rel => exact ⟨j + 1, v, l, u, dl, by omega, by go_num, HJ5, Lib.hid ⟨by rw [HTK.out]; rfl, HE.out.2⟩⟩
            case measure => simp [intOf]; omega
          | true =>
            rw [hr] at HTK
            have m0 := (blk_cells ht5 0).trans rfl
            have m1 := (blk_cells ht5 1).trans rfl
            have m2 := (blk_cells ht5 2).trans rfl
            have m3 := (blk_cells ht5 3).trans rfl
            have HAD := Lib.hid (add_any HJ5.out.bk r.x r.A1 r.c1 r.A2 r.c2 (HLR.out.on HJ5.out.im.below))
            unfold layV at HAD
            have HR1 := Lib.hid hr
            clear hr
            go_wp2_with fail
            refine HAD.out.mono ?_
            rintro e w6 (⟨hr, rfl, hB6, hF⟩ | ⟨hr, h64, rfl, hB6, hF⟩ | ⟨hr, h64, v', r', hrx, rfl, hB6, hF, hN⟩)
            · rw [HR1.out] at hr; cases hr
            · have := hdl.out.2; omega
            · have HJ6 := Lib.hid (HJ5.out.added hB6 hF hN)
              have ht6 := hF.1.keeps ht5 (by rintro (e | e); exact htP.out.1 e; exact htP.out.2.1 e)
              have HE6 : Hid ((l ++ [r']).map LayR.x = (dl ++ [r]).map LayR.x) := Lib.hid (by rw [List.map_append, List.map_append, HE.out.2]; simp [hrx])
              clear hB6 hF hN HAD ht5 hr h64 m0 m1 m2 m3 HJ5 hrx
              have hd6 := HJ6.out.im.head
              have hrw6 := HJ6.out.im.row
              obtain ⟨Au, cu, hu, hcu, -⟩ := own_slice layREnc layR0 (fun _ => rfl) hrw6
              subst hu
              have hq6 := hdl.out.1
              have htD := htP.out.2.2
              have htD2 : D ≠ tb := fun e => htD e.symm
              have m0 := (blk_cells ht6 0).trans rfl
              have m1 := (blk_cells ht6 1).trans rfl
              have m2 := (blk_cells ht6 2).trans rfl
              have m3 := (blk_cells ht6 3).trans rfl
              have c1 := (blk_cells hd6 1).trans rfl
              have hbo := below1 w6 (.cells #[.int .i64 r.x.fixed, .slice r.A1 r.x.refs.length r.c1, .int .i64 r.x.record, .slice r.A2 r.x.recs.length r.c2] 64)
              have n0 := cell_on hbo m0
              have n1 := cell_on hbo m1
              have n2 := cell_on hbo m2
              have n3 := cell_on hbo m3
              have nc := cell_on hbo c1
              have hne : some D ≠ (Value.slice Au dl.length cu).ownBlock := fun e => by
                obtain ⟨cur, hcur⟩ := row_ty hrw6 e.symm
                exact ty_ne hcur hd6 (by decide) rfl
              have hrwo := own_on hrw6 (below_drewN hbo 1)
              have hsz6 : (w6.alloc (.cells #[.int .i64 r.x.fixed, .slice r.A1 r.x.refs.length r.c1, .int .i64 r.x.record, .slice r.A2 r.x.recs.length r.c2] 64)).heap.size = w6.heap.size + 1 := World.size_alloc _ _
              go_wp2_with fail
              go_region_law (refine step_append_lies _ rfl (.tmp 64) (.tmp 66) 22 rfl 0 64 i0 (.agg #[.int .i64 0, .slice none 0 0, .int .i64 0, .slice none 0 0]) 4 64 Tryz.underlying22 HI.out HZ0.out HZ1.out HZ2.out rfl (by decide) (.slice Au dl.length cu) _ _ rfl hrwo ⟨w6.heap.size, 0, none⟩ 1 1 [.int .i64 r.x.fixed, .slice r.A1 r.x.refs.length r.c1, .int .i64 r.x.record, .slice r.A2 r.x.recs.length r.c2] rfl rfl (World.news_of_block (cs := #[.int .i64 r.x.fixed, .slice r.A1 r.x.refs.length r.c1, .int .i64 r.x.record, .slice r.A2 r.x.recs.length r.c2]) (t := 64) (fr := (0, 0)) (heap_alloc_new w6 _)) (by simp [Value.oneCell']) (by decide) (by unfold maxLen; omega) (by omega) (Nat.zero_le _) _ rfl ?_; intro g cap w7 hown' hgrow hat hlt7; have zp7 := (hgrow.block D (Nat.lt_of_lt_of_le (block_lt hd6) hbo.size) hne).trans ((hbo.block _ (block_lt hd6)).trans hd6); have p1 := (blk_cells zp7 1).trans rfl; have pt := blk_thaw zp7 1)
              all_goals
                have HK7 := Lib.hid (HJ6.out.kept (r := r) (u' := .slice (some ⟨g, 0, none⟩) (dl.length + 1) cap) HLR.out (o := (.cells #[.int .i64 r.x.fixed, .slice r.A1 r.x.refs.length r.c1, .int .i64 r.x.record, .slice r.A2 r.x.recs.length r.c2] 64)) (w5 := w7) ⟨hgrow.os, hgrow.tape, hgrow.output, hgrow.size, hgrow.block⟩ hown' (fun k e => by
                  obtain rfl : g = k := Option.some.inj e
                  exact hat))
                clear zp7 p1 pt hown' hgrow hat hlt7 m0 m1 m2 m3 n0 n1 n2 n3 nc c1 hrwo hrw6 hd6 ht6
                go_wp2
                go_roundw
                case rel => exact ⟨j + 1, v', l ++ [r'], _, dl ++ [r], by omega, by go_num, HK7, Lib.hid ⟨by rw [HTK.out]; rfl, HE6.out⟩⟩
                case measure => simp [intOf]; omega
        · obtain rfl : j = L6.length := by omega
          have HE2 : Hid (dl = keptR rl ∧ l.map LayR.x = dl.map LayR.x) := Lib.hid (by
            have h1 := HE.out.1
            rw [List.take_length, ← HK.out] at h1
            exact ⟨h1, HE.out.2⟩)
          have hls := block_lt HJ.out.im.head
          go_wp2_with fail
          refine (inew_any B P wr).mono ?_
          rintro e w6 ⟨rfl, rfl⟩
          have hb6 := below1 wr (.cells #[.pointer (some ⟨B, 0, none⟩), .pointer (some ⟨P, 0, none⟩)] 113)
          have hj6 := HJ.out.on hb6
          obtain ⟨h1, h2⟩ := HE2.out
          have HFIN : Hid (ImgJ w (wr.alloc (.cells #[.pointer (some ⟨B, 0, none⟩), .pointer (some ⟨P, 0, none⟩)] 113)) wr.heap.size B Wb Ob p q P D G Wg Og u zerosW (keptR rl)) := Lib.hid (by
            rw [← h1]
            refine ⟨⟨heap_alloc_new wr _, hj6.st, ⟨v, l, bd, hj6.bk, h2, hj6.bT⟩, fun e => ?_, fun k e => Or.inl e⟩, hj6.im, fun k e => ?_⟩
            · have := (HO.out.six _ e).2.1
              omega
            · have := (HO.out.five k e).2
              have := HO.out.g1
              have := HO.out.g2
              have := HO.out.g3
              omega)
          clear hj6 hb6 HJ
          go_wp2
          (try simp only [Exit.inBlock, Exit.then])
          refine bodyPost_ret (v := .tuple #[.pointer (some ⟨B, 0, none⟩), .pointer (some ⟨wr.heap.size, 0, none⟩), .pointer (some ⟨D, 0, none⟩)]) ?_ rfl ⟨B, Wb, Ob, p, q, P, wr.heap.size, D, G, Wg, Og, u, rfl, HFIN.out⟩
          rw [results_tmp3 rfl]
          go_simp
          (try rfl)
end Go.Proofs.YtfflacggaebonaaGreatDoor
end
section
namespace Go.Proofs.YtfflacggaebonaaGreatDoor
open Go.RowKit
set_option linter.unusedVariables false
set_option linter.unusedSimpArgs false
variable {w w' base : World} {M B Wb Ob p q P bd D G Wg Og size : Nat} {W W' own own' : List Int} {ls : List Lay} {T : Nat → Prop} {v u : Value} {l dl : List LayR}
def aliveL : List Lay := [⟨2, [1], 0, []⟩]
def aliveW : List Int := (makeR zerosW (onesO 5) 8 aliveL 8 1 0 3).2
theorem alive_make : (makeR zerosW (onesO 5) 8 aliveL 8 1 0 3).1 = (3, 0) := by decide +kernel
theorem alive_load : loadR aliveW (onesO 5) 8 aliveL 8 0 = (0, 0) := by decide +kernel
theorem alive_follow0 : followR aliveW (onesO 5) 8 aliveL 8 0 = (0, 0, 0, 9) := by decide +kernel
theorem alive_follow1 : followR aliveW (onesO 5) 8 aliveL 8 1 = (0, 0, 0, 0) := by decide +kernel
theorem aliveW_words : Wds aliveW := zerosW_words.make 8 1 0 3
theorem ImgJ.moved (h : ImgJ base w M B Wb Ob p q P D G Wg Og u W dl) (hm : Mod (Four3 Wb Ob p q) w w') : Below base.heap.size base w' := hm.below h.im.below (fun k e => h.im.hB k (h.ip.hT k e)) h.im.below.size
set_option maxRecDepth 100000 in
set_option maxHeartbeats 2000000 in
theorem alive12_any (w : World) (hT : Tab w) : Calls Tryz.prog 4 #[] w fun e w' => e = .returned (.bool true) ∧ Below w.heap.size w w' := by
  have hb1 := below1 w (.cells #[.int .i64 1] 3)
  have hn1 := heap_alloc_new w (.cells #[.int .i64 1] 3)
  have hz1 : (w.alloc (.cells #[.int .i64 1] 3)).heap.size = w.heap.size + 1 := World.size_alloc _ _
  have hb2 := hb1.on (below1 (w.alloc (.cells #[.int .i64 1] 3)) (.cells #[.int .i64 2, .slice (some ⟨w.heap.size, 0, none⟩) 1 1, .int .i64 0, .slice none 0 0] 64))
  have hn2 := (Below.heap_alloc (w.alloc (.cells #[.int .i64 1] 3)) (.cells #[.int .i64 2, .slice (some ⟨w.heap.size, 0, none⟩) 1 1, .int .i64 0, .slice none 0 0] 64) _ (block_lt hn1)).trans hn1
  have hk2 := heap_alloc_new (w.alloc (.cells #[.int .i64 1] 3)) (.cells #[.int .i64 2, .slice (some ⟨w.heap.size, 0, none⟩) 1 1, .int .i64 0, .slice none 0 0] 64)
  rw [hz1] at hk2
  have HM : Hid (Calls Tryz.prog 6 #[.slice (some ⟨w.heap.size + 1, 0, none⟩) 1 1] ((w.alloc (.cells #[.int .i64 1] 3)).alloc (.cells #[.int .i64 2, .slice (some ⟨w.heap.size, 0, none⟩) 1 1, .int .i64 0, .slice none 0 0] 64)) (MadeI ((w.alloc (.cells #[.int .i64 1] 3)).alloc (.cells #[.int .i64 2, .slice (some ⟨w.heap.size, 0, none⟩) 1 1, .int .i64 0, .slice none 0 0] 64)) [⟨⟨2, [1], 0, []⟩, some ⟨w.heap.size, 0, none⟩, 1, none, 0⟩])) := Lib.hid (imade_any (some ⟨w.heap.size + 1, 0, none⟩) [⟨⟨2, [1], 0, []⟩, some ⟨w.heap.size, 0, none⟩, 1, none, 0⟩] 1 _ (fun k hk => by
      obtain rfl : k = 0 := by simp at hk; omega
      refine ⟨_, _, rfl, fun j x hx => ?_⟩
      have h0 := blk_cells hk2 j
      rw [Nat.zero_mul, Nat.add_zero, Nat.zero_add]
      rw [h0]
      simpa [layREnc] using hx) (fun r hr => by
      rw [List.mem_singleton] at hr
      subst hr
      refine ⟨fun k hk => ?_, show 1 ≤ 1 by decide, show 1 ≤ maxLen by decide, (fun k hk => by simp at hk), show 0 ≤ 0 by decide, show 0 ≤ maxLen by decide⟩
      obtain rfl : k = 0 := by simp at hk; omega
      refine ⟨_, _, rfl, fun j x hx => ?_⟩
      have h0 := blk_cells hn2 j
      rw [Nat.zero_mul, Nat.add_zero, Nat.zero_add]
      rw [h0]
      simpa [encI] using hx) (show 1 ≤ 1 by decide) (show 1 ≤ maxLen by decide) (hT.on hb2))
  have HB2 := Lib.hid hb2
  clear hb1 hn1 hz1 hb2 hn2 hk2
  have HK : Hid ((keptR [⟨⟨2, [1], 0, []⟩, some ⟨w.heap.size, 0, none⟩, 1, none, 0⟩]).map LayR.x = aliveL) := Lib.hid rfl
  go_enter Tryz.func4, Tryz.ntmps4
  go_wp2_with fail
  generalize (w.alloc (.cells #[.int .i64 1] 3)).alloc (.cells #[.int .i64 2, .slice (some ⟨w.heap.size, 0, none⟩) 1 1, .int .i64 0, .slice none 0 0] 64) = W2 at *
  refine HM.out.mono ?_
  rintro e w3 ⟨B, Wb, Ob, p, q, P, M, D, G, Wg, Og, u, rfl, hj⟩
  have hip := hj.ip
  rw [HK.out] at hip
  have HJ := Lib.hid hj
  have HMK := Lib.hid (make_any hip 8 1 0 3)
  rw [alive_make] at HMK
  have HMK2 : Hid (Calls Tryz.prog 15 #[.pointer (some ⟨M, 0, none⟩), .int .i64 8, .agg #[.int .i64 1, .int .i64 0, .int .i64 3]] w3 fun e w' => e = .returned (.tuple #[.int .i64 3, .int .i64 0]) ∧ ImgP (Six Wb Ob p q Wg Og) w' M B Wb Ob p q P aliveW 8 (onesO 5) aliveL ∧ Below W2.heap.size W2 w') := Lib.hid (HMK.out.mono fun e w' ⟨h1, h2, h3⟩ => ⟨h1, h2, HJ.out.moved h3⟩)
  clear hj hip HM HMK HJ HK
  go_wp2_with fail
  refine HMK2.out.mono ?_
  rintro e w4 ⟨rfl, hi4, hb4⟩
  have HI4 := Lib.hid hi4
  have HB4 := Lib.hid (HB2.out.trans (Below.mono hb4 HB2.out.size))
  have HLD := Lib.hid (load_any hi4 aliveW_words 8 0)
  rw [alive_load] at HLD
  clear hi4 hb4 HMK2
  go_wp2_with fail
  refine HLD.out.mono ?_
  rintro e w5 ⟨rfl, hb5⟩
  have HI5 := Lib.hid (HI4.out.on hb5)
  have HB5 := Lib.hid (HB4.out.on hb5)
  have HF0 := Lib.hid (follow_any HI5.out aliveW_words 8 0)
  rw [alive_follow0] at HF0
  clear hb5 HLD HI4 HB4
  go_wp2_with fail
  refine HF0.out.mono ?_
  rintro e w6 ⟨rfl, hb6⟩
  have hb7 := hb6.on (below1 w6 (.cells #[.int .i64 0, .int .i64 0, .int .i64 0] 37))
  have HI6 := Lib.hid (HI5.out.on hb7)
  have HB6 := Lib.hid (HB5.out.on hb7)
  have HF1 := Lib.hid (follow_any HI6.out aliveW_words 8 1)
  rw [alive_follow1] at HF1
  clear hb6 hb7 HF0 HI5 HB5
  go_wp2_with fail
  refine HF1.out.mono ?_
  rintro e w8 ⟨rfl, hb8⟩
  have HB8 := Lib.hid ((HB6.out.on hb8).on (below1 w8 (.cells #[.int .i64 0, .int .i64 0, .int .i64 0] 37)))
  clear hb8 HF1 HI6 HB6
  go_wp2
  go_ret
  exact ⟨rfl, HB8.out⟩
end Go.Proofs.YtfflacggaebonaaGreatDoor
end
