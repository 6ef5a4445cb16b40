/- Books of layouts: walks. -/
import Derived.Test.YtcffenekomiakaaBk
import Derived.Deep.AppendLies
import Derived.Deep.RegionLaw
import Derived.Laws.ResultCell
namespace Go.Proofs.Ytcffenekomiakaa
open Go.RowKit
set_option linter.unusedVariables false
set_option linter.unusedSimpArgs false
variable {w w' base : World}
/-- A layout, and where its slices lie. -/
structure LayR where
  x : Lay
  A1 : Option Addr
  c1 : Nat
  A2 : Option Addr
  c2 : Nat
def layREnc (r : LayR) : List Value := [.int .i64 r.x.fixed, .slice r.A1 r.x.refs.length r.c1, .int .i64 r.x.record, .slice r.A2 r.x.recs.length r.c2]
def layR0 : LayR := ⟨⟨0, [], 0, []⟩, none, 0, none, 0⟩
theorem infoLay : (Try.prog.info? 24).map (fun i => (i.zero, i.size, i.bytes)) = some (some (.agg #[.int .i64 0, .slice none 0 0, .int .i64 0, .slice none 0 0]), 4, 64) := by kernel_rfl
/-- Its slices are rows of their own. -/
structure Good (w : World) (r : LayR) : Prop where
  o1 : w.ownsRow 0 3 1 (.slice r.A1 r.x.refs.length r.c1) r.x.refs.length (r.x.refs.flatMap encI)
  o2 : w.ownsRow 0 3 1 (.slice r.A2 r.x.recs.length r.c2) r.x.recs.length (r.x.recs.flatMap encI)
  m1 : r.x.refs.length ≤ 64
  m2 : r.x.recs.length ≤ 64
theorem Good.on {r : LayR} (h : Good w r) (hb : Below w.heap.size w w') : Good w' r := { h with o1 := own_on h.o1 hb, o2 := own_on h.o2 hb }
theorem Good.lay {r : LayR} (h : Good w r) : LayIs w r.x r.A1 r.c1 r.A2 r.c2 := by
  obtain ⟨A, c, e, hc, hs⟩ := own_slice encI 0 (fun _ => rfl) h.o1
  cases e
  obtain ⟨A, c, e, hc', hs'⟩ := own_slice encI 0 (fun _ => rfl) h.o2
  cases e
  have := h.m1
  have := h.m2
  exact ⟨hs, hc, by unfold maxLen; omega, hs', hc', by unfold maxLen; omega⟩
theorem Good.grown {r : LayR} {row : Option Nat} (h : Good w r) (hg : w.grownBy w' row) (hr : ∀ k, row = some k → ∃ cs t, w.heap[k]? = some (.cells cs t (0, 0)) ∧ t ≠ 3) : Good w' r := by
  have key : ∀ {v : Value} {n : Nat} {xs : List Value}, w.ownsRow 0 3 1 v n xs → v.ownBlock = none ∨ v.ownBlock ≠ row := fun {v n xs} ho => by
    cases e : v.ownBlock with
    | none => exact .inl rfl
    | some k =>
      refine .inr (fun e2 => ?_)
      obtain ⟨cs, t, hk, ht⟩ := hr k e2.symm
      exact own_x ho hk ht e
  exact { h with o1 := h.o1.kept hg (key h.o1), o2 := h.o2.kept hg (key h.o2) }
/-- A book at its block. -/
structure BookAt (base w : World) (P bd : Nat) (v : Value) (l : List LayR) : Prop where
  head : w.heap[P]? = some (.cells #[v] 56 (0, 0))
  row : w.ownsRow bd 24 4 v l.length (l.flatMap layREnc)
  good : ∀ r ∈ l, Good w r
  hP : P < bd
  lP : base.heap.size ≤ P
  le : bd ≤ w.heap.size
  below : Below base.heap.size base w
  many : l.length ≤ 64
theorem BookAt.on {P bd : Nat} {v : Value} {l : List LayR} (h : BookAt base w P bd v l) (hb : Below w.heap.size w w') : BookAt base w' P bd v l :=
  { h with head := (hb.block _ (block_lt h.head)).trans h.head, row := own_on h.row hb, good := fun r hr => (h.good r hr).on hb, le := Nat.le_trans h.le hb.size, below := h.below.on hb }
theorem own_row {bd n : Nat} {v : Value} {xs : List Value} (h : w.ownsRow bd 24 4 v n xs) : ∀ k, v.ownBlock = some k → ∃ cs t, w.heap[k]? = some (.cells cs t (0, 0)) ∧ t ≠ 3 := by
  rcases h.2 with ⟨rfl, _⟩ | ⟨g, cap, cur, rfl, _, hg, _⟩
  · intro k e; simp [Value.ownBlock] at e
  · intro k e
    obtain rfl : g = k := by simpa [Value.ownBlock] using e
    exact ⟨cur, _, hg, by decide⟩
theorem BookAt.added {P bd : Nat} {l : List LayR} {A : Option Addr} {cc g cap d1 d2 : Nat} {B1 B2 : Option Addr} {x : Lay} {w2 w4 w5 : World} {cs : Array Value} {b1 b2 : Nat} (h : BookAt base w2 P bd (.slice A l.length cc) l) (hb4 : Below w2.drew.heap.size w2.drew w4)
    (ho1 : w4.ownsRow b1 3 1 (.slice B1 x.refs.length d1) x.refs.length (x.refs.flatMap encI)) (ho2 : w4.ownsRow b2 3 1 (.slice B2 x.recs.length d2) x.recs.length (x.recs.flatMap encI)) (m1 : x.refs.length ≤ 64) (m2 : x.recs.length ≤ 64) (hl : l.length < 64)
    (hgrow : (w4.alloc (.cells cs 24)).grownBy w5 (Value.slice A l.length cc).ownBlock) (hown' : w5.ownsRow bd 24 4 (.slice (some ⟨g, 0, none⟩) (l.length + 1) cap) (l.length + 1) (l.flatMap layREnc ++ layREnc ⟨x, B1, d1, B2, d2⟩)) (zp5 : w5.heap[P]? = some (.cells #[.slice A l.length cc] 56 (0, 0))) :
    BookAt base (w5.setCell ⟨P, 0, none⟩ (.slice (some ⟨g, 0, none⟩) (l.length + 1) cap)) P bd (.slice (some ⟨g, 0, none⟩) (l.length + 1) cap) (l ++ [⟨x, B1, d1, B2, d2⟩]) := by
  have hPb := h.hP
  have hg := (hown'.lt g rfl).1
  have hd := h.on (below_drewN (Below.refl _ w2) 1)
  have h4 := BookAt.on (w := w2.drew) hd hb4
  have ha := h4.on (below1 w4 (.cells cs 24))
  have hrow := own_row ha.row
  have hset : ∀ k, some P = some k → ∃ cs t, w5.heap[k]? = some (.cells cs t (0, 0)) ∧ t ≠ 3 := fun k e => by cases e; exact ⟨_, _, zp5, by decide⟩
  have hn : Good w4 ⟨x, B1, d1, B2, d2⟩ := ⟨own_less ho1 (Nat.zero_le _), own_less ho2 (Nat.zero_le _), m1, m2⟩
  refine ⟨blk_set zp5 0 _, ?_, fun r hr => ?_, hPb, h.lP, ?_, ?_, by simp; omega⟩
  · have := hown'.kept (grown_set w5 P 0 (.slice (some ⟨g, 0, none⟩) (l.length + 1) cap)) (.inr (fun e => by have : g = P := Option.some.inj e; omega))
    simpa using this
  · rcases List.mem_append.1 hr with hr | hr
    · exact ((ha.good r hr).grown hgrow hrow).grown (grown_set w5 P 0 _) hset
    · rw [List.mem_singleton] at hr
      subst hr
      exact ((hn.on (below1 w4 (.cells cs 24))).grown hgrow hrow).grown (grown_set w5 P 0 _) hset
  · have := ha.le
    have := hgrow.size
    simp [World.setCell]
    omega
  · refine (ha.below.grown hgrow ha.below.size (fun k e => ?_)).setCell (p := ⟨P, 0, none⟩) h.lP _
    have := (ha.row.lt k e).1
    have := h.lP
    omega
/-- What an addition leaves as it was. -/
def Frame (w w' : World) (P : Nat) (v v' : Value) : Prop := Mod (fun j => j = P ∨ v.ownBlock = some j) w w' ∧ ∀ k, v'.ownBlock = some k → v.ownBlock = some k ∨ w.heap.size ≤ k
theorem Frame.of {P : Nat} {v : Value} (h : Below w.heap.size w w') : Frame w w' P v v := ⟨.of_below h, fun k e => .inl e⟩
theorem add_frame {P g n cap m cc : Nat} {A : Option Addr} {w2 w4 w5 : World} {o : Obj} (h2 : Below w.heap.size w w2) (hb4 : Below w2.drew.heap.size w2.drew w4) (hgrow : (w4.alloc o).grownBy w5 (Value.slice A m cc).ownBlock) (hat : (Value.slice A m cc).ownBlock = some g ∨ g = (w4.alloc o).heap.size) :
    Frame w (w5.setCell ⟨P, 0, none⟩ (.slice (some ⟨g, 0, none⟩) n cap)) P (.slice A m cc) (.slice (some ⟨g, 0, none⟩) n cap) := by
  have hs2 : w.heap.size ≤ w2.heap.size := h2.size
  have hs4 : w2.heap.size ≤ w4.heap.size := hb4.size
  refine ⟨?_, fun k e => ?_⟩
  · have a1 : Mod (fun j => j = P ∨ (Value.slice A m cc).ownBlock = some j) w w2 := .of_below h2
    have a2 : Mod (fun j => j = P ∨ (Value.slice A m cc).ownBlock = some j) w2 w4 := (Mod.drew (Mod.refl _ _)).trans (.of_below hb4)
    have a3 : Mod (fun j => j = P ∨ (Value.slice A m cc).ownBlock = some j) (w4.alloc o) w5 := ⟨hgrow.os, hgrow.tape, hgrow.output, hgrow.size, fun k hk hn => hgrow.block k hk (fun e => hn (.inr e.symm))⟩
    exact (((a1.trans a2).alloc o).trans a3).trans (Mod.setCell _ _ _ _ (.inl rfl))
  · obtain rfl : g = k := Option.some.inj e
    rcases hat with h | h
    · exact .inl h
    · right; rw [h, World.size_alloc]; omega
def AddPost (base w : World) (P bd : Nat) (v : Value) (l : List LayR) (x : Lay) (e : Ending) (w' : World) : Prop :=
  (x.right = false ∧ e = .returned (.tuple #[.int .i64 0, .int .i64 2]) ∧ BookAt base w' P bd v l ∧ Frame w w' P v v) ∨
  (x.right = true ∧ l.length = 64 ∧ e = .returned (.tuple #[.int .i64 0, .int .i64 5]) ∧ BookAt base w' P bd v l ∧ Frame w w' P v v) ∨
  (x.right = true ∧ l.length < 64 ∧ ∃ v' r, r.x = x ∧ e = .returned (.tuple #[.int .i64 ((l.length + 1 : Nat) : Int), .int .i64 0]) ∧ BookAt base w' P bd v' (l ++ [r]) ∧ Frame w w' P v v')
set_option maxRecDepth 100000 in
set_option maxHeartbeats 4000000 in
theorem add_any {P bd : Nat} {v : Value} {l : List LayR} (h : BookAt base w P bd v l) (x : Lay) (A1 : Option Addr) (c1 : Nat) (A2 : Option Addr) (c2 : Nat) (hx : LayIs w x A1 c1 A2 c2) :
    Calls Try.prog 13 #[.pointer (some ⟨P, 0, none⟩), layV x A1 c1 A2 c2] w (AddPost base w P bd v l x) := by
  obtain ⟨i0, hi, hz0, hz1, hz2⟩ := info_parts infoLay
  have HI := Lib.hid hi
  have HZ0 := Lib.hid hz0
  have HZ1 := Lib.hid hz1
  have HZ2 := Lib.hid hz2
  clear hi hz0 hz1 hz2
  obtain ⟨A, cc, hv, hcc, _⟩ := own_slice layREnc layR0 (fun _ => rfl) h.row
  subst hv
  have HR : Hid (∀ W, LayIs W x A1 c1 A2 c2 → Calls Try.prog 23 #[.agg #[.int .i64 x.fixed, .slice A1 x.refs.length c1, .int .i64 x.record, .slice A2 x.recs.length c2]] W fun e w' => e = .returned (.bool x.right) ∧ Below W.heap.size W w') := Lib.hid (fun W hW => right_lay _ _ _ _ _ W hW)
  have HOW : Hid (x.refs.length ≤ 100 → x.recs.length ≤ 100 → ∀ W, LayIs W x A1 c1 A2 c2 → Calls Try.prog 26 #[.agg #[.int .i64 x.fixed, .slice A1 x.refs.length c1, .int .i64 x.record, .slice A2 x.recs.length c2]] W (OwnLay x W)) := Lib.hid (fun q1 q2 W hW => own_lay _ _ _ _ _ W hW q1 q2)
  have hb1 := below1 w (.cells #[.int .i64 x.fixed, .slice A1 x.refs.length c1, .int .i64 x.record, .slice A2 x.recs.length c2] 24)
  have hl1 := heap_alloc_new w (.cells #[.int .i64 x.fixed, .slice A1 x.refs.length c1, .int .i64 x.record, .slice A2 x.recs.length c2] 24)
  have k0 := (blk_cells hl1 0).trans rfl
  have k1 := (blk_cells hl1 1).trans rfl
  have k2 := (blk_cells hl1 2).trans rfl
  have k3 := (blk_cells hl1 3).trans rfl
  have HX := Lib.hid (hx.on hb1)
  have HB := Lib.hid (h.on hb1)
  have HL1 := Lib.hid hl1
  have HM1 := Lib.hid hb1
  unfold layV
  clear h hx hb1 hl1
  go_enter Try.func13, Try.ntmps13
  go_wp2_with fail
  generalize w.alloc (.cells #[.int .i64 x.fixed, .slice A1 x.refs.length c1, .int .i64 x.record, .slice A2 x.recs.length c2] 24) = W1 at *
  refine (HR.out _ HX.out).mono ?_
  rintro e w2 ⟨rfl, hb⟩
  have HB2 := Lib.hid (HB.out.on hb)
  have HX2 := Lib.hid (HX.out.on hb)
  have HM2 := Lib.hid (HM1.out.on hb)
  have HL2 := Lib.hid ((hb.block _ (block_lt HL1.out)).trans HL1.out)
  clear hb HB HX HL1 k0 k1 k2 k3
  have k0 := (blk_cells HL2.out 0).trans rfl
  have k1 := (blk_cells HL2.out 1).trans rfl
  have k2 := (blk_cells HL2.out 2).trans rfl
  have k3 := (blk_cells HL2.out 3).trans rfl
  have p0 := (blk_cells HB2.out.head 0).trans rfl
  have pt := blk_thaw HB2.out.head 0
  cases hr : x.right with
  | false =>
    go_wp2
    go_ret2
    exact .inl ⟨hr, rfl, HB2.out, Frame.of HM2.out⟩
  | true =>
    by_cases hf : l.length = 64
    · rw [hf] at p0
      have hB2 := HB2.out
      go_wp2
      go_ret2
      exact .inr (.inl ⟨hr, hf, rfl, hB2, Frame.of HM2.out⟩)
    · have hmany := HB2.out.many
      obtain ⟨r1, r2, r3, r4, r5, r6, r7⟩ := Lay.right_out hr
      have hl1 := rise_len r6 r1
      have hl2 := rise_len r7 r3
      have hB2 := HB2.out
      have hhead := hB2.head
      have hrow := hB2.row
      have hle := hB2.le
      have hne : some P ≠ (Value.slice A l.length cc).ownBlock := fun e => by have := (hrow.lt P e.symm).1; have := hB2.hP; omega
      have hrowd := own_on hrow (below_drewN (Below.refl _ w2) 1)
      have hPb := hB2.hP
      have hq1 : x.refs.length ≤ 100 := by omega
      have hq2 : x.recs.length ≤ 100 := by omega
      have HOX := Lib.hid (HOW.out hq1 hq2)
      have HX3 : Hid (LayIs w2.drew x A1 c1 A2 c2) := Lib.hid (HX2.out.on (below_drewN (Below.refl _ _) 1))
      clear r5 r6 r7
      have d64 : ((l.length : Int) == 64) = false := by simp; omega
      go_wp2_with fail
      go_region_law (first | (go_simp; go_at_call 26; refine (HOX.out _ HX3.out).mono ?_; rintro e w4 ⟨u1, u2, rfl, ho1, ho2, hb4⟩; obtain ⟨B1, d1, e1, hd1, -⟩ := own_slice encI 0 (fun _ => rfl) ho1; subst e1; obtain ⟨B2, d2, e2, hd2, -⟩ := own_slice encI 0 (fun _ => rfl) ho2; subst e2; have zp := (hb4.block _ (block_lt hhead)).trans hhead; have p0 := (blk_cells zp 0).trans rfl; have pt := blk_thaw zp 0; have zl := (hb4.block _ (block_lt HL2.out)).trans HL2.out; have k0 := (blk_cells zl 0).trans rfl; have k1 := (blk_cells zl 1).trans rfl; have k2 := (blk_cells zl 2).trans rfl; have k3 := (blk_cells zl 3).trans rfl; have hrow4 := own_on hrowd hb4; have hle4 := Nat.le_trans hle hb4.size; have zpa := (Below.heap_alloc w4 (.cells #[.int .i64 x.fixed, .slice B1 x.refs.length d1, .int .i64 x.record, .slice B2 x.recs.length d2] 24) P (block_lt zp)).trans zp; have p0a := (blk_cells zpa 0).trans rfl; have pta := blk_thaw zpa 0) | (refine step_append_lies _ rfl (.tmp 24) (.tmp 27) 33 rfl bd 24 i0 (.agg #[.int .i64 0, .slice none 0 0, .int .i64 0, .slice none 0 0]) 4 64 Try.underlying33 HI.out HZ0.out HZ1.out HZ2.out rfl (by decide) (.slice A l.length cc) _ _ rfl (hrow4.alloc _) ⟨w4.heap.size, 0, none⟩ 1 1 [.int .i64 x.fixed, .slice B1 x.refs.length d1, .int .i64 x.record, .slice B2 x.recs.length d2] rfl rfl (World.news_of_block (cs := #[.int .i64 x.fixed, .slice B1 x.refs.length d1, .int .i64 x.record, .slice B2 x.recs.length d2]) (t := 24) (fr := (0, 0)) (heap_alloc_new w4 _)) (by simp [Value.oneCell']) (by decide) (by unfold maxLen; omega) (by omega) (by simp; omega) _ rfl ?_; intro g cap w5 hown' hgrow hat hlt; have zp5 := (hgrow.block P (Nat.lt_of_lt_of_le (block_lt zp) (by simp)) hne).trans ((Below.heap_alloc _ _ _ (block_lt zp)).trans zp); have p0 := (blk_cells zp5 0).trans rfl; have pt := blk_thaw zp5 0))
      all_goals
        have HAD := Lib.hid (BookAt.added (g := g) (cap := cap) hB2 hb4 ho1 ho2 (by omega) (by omega) (by omega) hgrow hown' zp5)
        have HFR := Lib.hid (add_frame (P := P) (n := l.length + 1) (cap := cap) HM2.out hb4 hgrow hat)
        clear hB2 hb4 ho1 ho2 hgrow hown' zp zpa p0a pta zl hrow4 hrow hrowd k0 k1 k2 k3
        go_wp2
        go_ret2
        exact .inr (.inr ⟨hr, by omega, _, ⟨x, B1, d1, B2, d2⟩, rfl, by first | rfl | (simp; done) | trace_state, HAD.out, HFR.out⟩)
theorem add_nil (x : Lay) (A1 : Option Addr) (c1 : Nat) (A2 : Option Addr) (c2 : Nat) (w : World) : Calls Try.prog 13 #[.pointer none, layV x A1 c1 A2 c2] w fun e w' => e = .returned (.tuple #[.int .i64 0, .int .i64 1]) ∧ Below w.heap.size w w' := by
  unfold layV
  go_enter Try.func13, Try.ntmps13
  go_wp2
  go_ret2
  exact ⟨rfl, below1 _ _⟩
theorem get_nil (i : Int) (w : World) : Calls Try.prog 14 #[.pointer none, .int .i64 i] w fun e w' => e = .returned (.tuple #[.agg #[.int .i64 0, .slice none 0 0, .int .i64 0, .slice none 0 0], .int .i64 1]) ∧ Below w.heap.size w w' := by
  go_enter Try.func14, Try.ntmps14
  go_wp2
  (try simp only [Exit.inBlock, Exit.then])
  refine bodyPost_ret (v := .tuple #[.agg #[.int .i64 0, .slice none 0 0, .int .i64 0, .slice none 0 0], .int .i64 1]) ?_ rfl ⟨rfl, ?_⟩
  · rw [results_cell_tmp rfl]
    go_simp
    (try rfl)
  · exact below1 _ _
theorem len_nil (w : World) : Calls Try.prog 16 #[.pointer none] w fun e w' => e = .returned (.int .i64 0) ∧ w = w' := by
  go_enter Try.func16, Try.ntmps16
  go_wp2
  go_ret
  exact ⟨rfl, rfl⟩
theorem book_new (w : World) : Calls Try.prog 15 #[] w fun e w' => e = .returned (.pointer (some ⟨w.heap.size, 0, none⟩)) ∧ BookAt w w' w.heap.size w'.heap.size (.slice none 0 0) [] := by
  go_enter Try.func15, Try.ntmps15
  go_wp2
  go_ret
  exact ⟨rfl, ⟨heap_alloc_new w _, World.ownsRow_nil _ _ _ _, fun r hr => absurd hr List.not_mem_nil, (by simp), Nat.le_refl _, Nat.le_refl _, below1 _ _, by simp⟩⟩
theorem len_any {P bd : Nat} {v : Value} {l : List LayR} (h : BookAt base w P bd v l) : Calls Try.prog 16 #[.pointer (some ⟨P, 0, none⟩)] w fun e w' => e = .returned (.int .i64 l.length) ∧ w = w' := by
  obtain ⟨A, cc, hv, hcc, _⟩ := own_slice layREnc layR0 (fun _ => rfl) h.row
  subst hv
  have p0 := (blk_cells h.head 0).trans rfl
  clear h
  go_enter Try.func16, Try.ntmps16
  go_wp2
  go_ret
  exact ⟨rfl, rfl⟩
set_option maxRecDepth 100000 in
theorem get_out {P bd : Nat} {v : Value} {l : List LayR} (h : BookAt base w P bd v l) (i : Int) (hi : i < 1 ∨ (l.length : Int) < i) : Calls Try.prog 14 #[.pointer (some ⟨P, 0, none⟩), .int .i64 i] w fun e w' => e = .returned (.tuple #[.agg #[.int .i64 0, .slice none 0 0, .int .i64 0, .slice none 0 0], .int .i64 6]) ∧ Below w.heap.size w w' := by
  obtain ⟨A, cc, hv, hcc, _⟩ := own_slice layREnc layR0 (fun _ => rfl) h.row
  subst hv
  have hb := below1 w (.cells #[.int .i64 0, .slice none 0 0, .int .i64 0, .slice none 0 0] 24)
  have p0 := cell_on hb ((blk_cells h.head 0).trans rfl)
  have HB := Lib.hid hb
  clear h hb
  by_cases h1 : i < 1
  · have d : decide (i < 1) = true := decide_eq_true h1
    clear hi h1
    go_enter Try.func14, Try.ntmps14
    go_wp2
    (try simp only [Exit.inBlock, Exit.then])
    refine bodyPost_ret (v := .tuple #[.agg #[.int .i64 0, .slice none 0 0, .int .i64 0, .slice none 0 0], .int .i64 6]) ?_ rfl ⟨rfl, ?_⟩
    · rw [results_cell_tmp rfl]
      go_simp
      (try rfl)
    · exact HB.out
  · have d : decide (i < 1) = false := decide_eq_false h1
    have d2 : decide ((l.length : Int) < i) = true := decide_eq_true (by omega)
    clear hi h1
    go_enter Try.func14, Try.ntmps14
    go_wp2
    (try simp only [Exit.inBlock, Exit.then])
    refine bodyPost_ret (v := .tuple #[.agg #[.int .i64 0, .slice none 0 0, .int .i64 0, .slice none 0 0], .int .i64 6]) ?_ rfl ⟨rfl, ?_⟩
    · rw [results_cell_tmp rfl]
      go_simp
      (try rfl)
    · exact HB.out
def GetPost (x : Lay) (w : World) (e : Ending) (w' : World) : Prop := ∃ A1 c1 A2 c2, e = .returned (.tuple #[layV x A1 c1 A2 c2, .int .i64 0]) ∧ LayIs w' x A1 c1 A2 c2 ∧ Below w.heap.size w w'
set_option maxRecDepth 100000 in
set_option maxHeartbeats 2000000 in
theorem get_in {P bd : Nat} {v : Value} {l : List LayR} (h : BookAt base w P bd v l) (k : Nat) (hk : k < l.length) : Calls Try.prog 14 #[.pointer (some ⟨P, 0, none⟩), .int .i64 ((k : Int) + 1)] w (GetPost (l.getD k layR0).x w) := by
  obtain ⟨A, cc, hv, hcc, hs⟩ := own_slice layREnc layR0 (fun _ => rfl) h.row
  subst hv
  have hmany := h.many
  have hgd : Good w (l.getD k layR0) := h.good _ (by
    have : l.getD k layR0 = l[k] := by simp [List.getD, hk]
    rw [this]; exact List.getElem_mem hk)
  obtain ⟨b, o, rfl, hc⟩ := hs k hk
  generalize l.getD k layR0 = r at *
  have hb := below1 w (.cells #[.int .i64 0, .slice none 0 0, .int .i64 0, .slice none 0 0] 24)
  have hr0 := heap_alloc_new w (.cells #[.int .i64 0, .slice none 0 0, .int .i64 0, .slice none 0 0] 24)
  have p0 := cell_on hb ((blk_cells h.head 0).trans rfl)
  have c0 := cell_on hb (hc 0 _ rfl)
  have c1 := cell_on hb (hc 1 _ rfl)
  have c2 := cell_on hb (hc 2 _ rfl)
  have c3 := cell_on hb (hc 3 _ rfl)
  rw [Nat.add_zero] at c0
  have hm1 := hgd.m1
  have hm2 := hgd.m2
  have HOW := Lib.hid (own_lay r.x r.A1 r.c1 r.A2 r.c2 _ ((hgd.on hb).lay) (by omega) (by omega))
  have HB := Lib.hid hb
  have HR0 := Lib.hid hr0
  have hk1 : decide ((l.length : Int) < (k : Int) + 1) = false := decide_eq_false (by omega)
  have hk2 : decide ((k : Int) + 1 < 1) = false := decide_eq_false (by omega)
  clear h hb hs hc hgd hr0
  unfold layV at HOW
  go_enter Try.func14, Try.ntmps14
  go_wp2_with fail
  refine HOW.out.mono ?_
  rintro e w4 ⟨u1, u2, rfl, ho1, ho2, hb4⟩
  obtain ⟨B1, d1, e1, hd1, -⟩ := own_slice encI 0 (fun _ => rfl) ho1
  subst e1
  obtain ⟨B2, d2, e2, hd2, -⟩ := own_slice encI 0 (fun _ => rfl) ho2
  subst e2
  have zr := (hb4.block _ (block_lt HR0.out)).trans HR0.out
  have HTW : Hid (Two w4 w 0 0 (.slice B1 r.x.refs.length d1) (.slice B2 r.x.recs.length d2) r.x.refs r.x.recs w.heap.size w.heap.size) := Lib.hid ⟨own_less ho1 (Nat.zero_le _), own_less ho2 (Nat.zero_le _), ⟨_, zr⟩, ⟨_, zr⟩, Nat.le_refl _, Nat.le_refl _, HB.out.on hb4⟩
  have r0 := (blk_cells zr 0).trans rfl
  have r1 := (blk_cells zr 1).trans rfl
  have r2 := (blk_cells zr 2).trans rfl
  have r3 := (blk_cells zr 3).trans rfl
  have s0 := blk_thaw zr 0
  have s1 := blk_thaw zr 1
  have s2 := blk_thaw zr 2
  have s3 := blk_thaw zr 3
  clear ho1 ho2 hb4 zr c0 c1 c2 c3 p0 HOW HR0
  go_wp2
  (try simp only [Exit.inBlock, Exit.then])
  refine bodyPost_ret (v := .tuple #[.agg #[.int .i64 r.x.fixed, .slice B1 r.x.refs.length d1, .int .i64 r.x.record, .slice B2 r.x.recs.length d2], .int .i64 0]) ?_ rfl ⟨B1, d1, B2, d2, rfl, ?_, ?_⟩
  · rw [results_cell_tmp rfl]
    go_simp
    (try rfl)
  · have hT := (((HTW.out.set (.inl rfl) 0 (.int .i64 r.x.fixed)).set (.inl rfl) 1 (.slice B1 r.x.refs.length d1)).set (.inl rfl) 2 (.int .i64 r.x.record)).set (.inl rfl) 3 (.slice B2 r.x.recs.length d2)
    exact Good.lay (r := ⟨r.x, B1, d1, B2, d2⟩) ⟨hT.o1, hT.o2, hm1, hm2⟩
  · exact ((((HTW.out.set (.inl rfl) 0 (.int .i64 r.x.fixed)).set (.inl rfl) 1 (.slice B1 r.x.refs.length d1)).set (.inl rfl) 2 (.int .i64 r.x.record)).set (.inl rfl) 3 (.slice B2 r.x.recs.length d2)).below
end Go.Proofs.Ytcffenekomiakaa
