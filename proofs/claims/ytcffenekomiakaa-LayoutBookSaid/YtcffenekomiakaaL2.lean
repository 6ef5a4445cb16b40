/- LayoutBook: a walk. -/
import Derived.Test.YtcffenekomiakaaBa
import Derived.Test.YtcffenekomiakaaAp
namespace Go.Proofs.Ytcffenekomiakaa
open Go.RowKit
set_option linter.unusedVariables false
set_option linter.unusedSimpArgs false
variable {w w' base : World} {P bd : Nat} {v vk : Value} {l kept : List LayR}
theorem own_mod2 {S : Nat → Prop} {b n size : Nat} {t : TypeId} {v : Value} {xs : List Value} (h : w.ownsRow b t size v n xs) (hm : Mod S w w') (hn : ∀ k, v.ownBlock = some k → ¬ S k) : w'.ownsRow b t size v n xs := by
  obtain ⟨h1, h2⟩ := h
  refine ⟨h1, ?_⟩
  rcases h2 with h2 | ⟨g, cap, cur, hv, hg, hh, r⟩
  · exact .inl h2
  · exact .inr ⟨g, cap, cur, hv, hg, hm.keeps hh (hn g (by rw [hv]; rfl)), r⟩
theorem BookAt.grown {row : Option Nat} (h : BookAt base w P bd v l) (hg : w.grownBy w' row) (hr : ∀ k, row = some k → bd ≤ k ∧ v.ownBlock ≠ some k ∧ ∃ cs t, w.heap[k]? = some (.cells cs t (0, 0)) ∧ t ≠ 3) : BookAt base w' P bd v l := by
  have hPb := h.hP
  have hlP := h.lP
  refine { h with head := (hg.block P (block_lt h.head) (fun e => by have := (hr P e.symm).1; omega)).trans h.head, row := h.row.kept hg ?_, good := fun r hr' => (h.good r hr').grown hg (fun k e => (hr k e).2.2), le := Nat.le_trans h.le hg.size, below := h.below.grown hg h.below.size (fun k e => by have := (hr k e).1; omega) }
  cases e : v.ownBlock with
  | none => exact .inl rfl
  | some k => exact .inr (fun e2 => (hr k e2.symm).2.1 e)
/-- A book, and the row of the layouts that it has. -/
structure BK (base w : World) (P bd : Nat) (v : Value) (l : List LayR) (vk : Value) (kept : List LayR) : Prop where
  book : BookAt base w P bd v l
  row : w.ownsRow bd 24 4 vk kept.length (kept.flatMap layREnc)
  apart : ∀ k, v.ownBlock = some k → vk.ownBlock = some k → False
  same : kept.map (·.x) = l.map (·.x)
  lays : ∀ r ∈ kept, LayIs base r.x r.A1 r.c1 r.A2 r.c2
theorem BK.on (h : BK base w P bd v l vk kept) (hb : Below w.heap.size w w') : BK base w' P bd v l vk kept := { h with book := h.book.on hb, row := own_on h.row hb }
theorem BK.len (h : BK base w P bd v l vk kept) : kept.length = l.length := by have := congrArg List.length h.same; simpa using this
theorem BK.frame {v' : Value} {l' : List LayR} (h : BK base w P bd v l vk kept) (hB : BookAt base w' P bd v' l') (hF : Frame w w' P v v') (hs : kept.map (·.x) = l'.map (·.x)) : BK base w' P bd v' l' vk kept := by
  have hPb := h.book.hP
  refine ⟨hB, own_mod2 h.row hF.1 (fun k e => ?_), fun k e1 e2 => ?_, hs, h.lays⟩
  · rintro (e2 | e2)
    · have := (h.row.lt k e).1; omega
    · exact h.apart k e2 e
  · rcases hF.2 k e1 with g | g
    · exact h.apart k g e2
    · have := (h.row.lt k e2).2; omega
/-- A book and its row, the row one short. -/
structure BK1 (base w : World) (P bd : Nat) (v : Value) (l : List LayR) (vk : Value) (kept : List LayR) (x : Lay) : Prop where
  book : BookAt base w P bd v l
  row : w.ownsRow bd 24 4 vk kept.length (kept.flatMap layREnc)
  apart : ∀ k, v.ownBlock = some k → vk.ownBlock = some k → False
  same : kept.map (·.x) ++ [x] = l.map (·.x)
  lays : ∀ r ∈ kept, LayIs base r.x r.A1 r.c1 r.A2 r.c2
theorem BK1.on {x : Lay} (h : BK1 base w P bd v l vk kept x) (hb : Below w.heap.size w w') : BK1 base w' P bd v l vk kept x := { h with book := h.book.on hb, row := own_on h.row hb }
theorem BK.frame1 {v' : Value} {r' : LayR} (h : BK base w P bd v l vk kept) (hB : BookAt base w' P bd v' (l ++ [r'])) (hF : Frame w w' P v v') : BK1 base w' P bd v' (l ++ [r']) vk kept r'.x := by
  have hPb := h.book.hP
  refine ⟨hB, own_mod2 h.row hF.1 (fun k e => ?_), fun k e1 e2 => ?_, by rw [List.map_append, h.same]; rfl, h.lays⟩
  · rintro (e2 | e2)
    · have := (h.row.lt k e).1; omega
    · exact h.apart k e2 e
  · rcases hF.2 k e1 with g | g
    · exact h.apart k g e2
    · have := (h.row.lt k e2).2; omega
theorem BK1.keep {r : LayR} {vk' : Value} (h : BK1 base w P bd v l vk kept r.x) (hr : LayIs base r.x r.A1 r.c1 r.A2 r.c2) (hg : w.grownBy w' vk.ownBlock) (hown : w'.ownsRow bd 24 4 vk' (kept.length + 1) (kept.flatMap layREnc ++ layREnc r)) (hat : ∀ k, vk'.ownBlock = some k → vk.ownBlock = some k ∨ k = w.heap.size) : BK base w' P bd v l vk' (kept ++ [r]) := by
  have ho := own_row h.row
  refine ⟨h.book.grown hg (fun k e => ⟨(h.row.lt k e).1, fun e2 => h.apart k e2 e, ho k e⟩), by simpa using hown, fun k e1 e2 => ?_, by rw [List.map_append]; exact h.same, fun q hq => ?_⟩
  · rcases hat k e2 with g | g
    · exact h.apart k e1 g
    · have := (h.book.row.lt k e1).2; omega
  · rcases List.mem_append.1 hq with hq | hq
    · exact h.lays q hq
    · rw [List.mem_singleton] at hq
      subst hq; exact hr
/-- A block of another's stays through an addition. -/
theorem frame_block {v' : Value} {tb : Nat} {o : Obj} (hF : Frame w w' P v v') (h : w.heap[tb]? = some o) (h1 : tb ≠ P) (h2 : v.ownBlock ≠ some tb) : w'.heap[tb]? = some o := hF.1.keeps h (by rintro (e | e); exact h1 e; exact h2 e)
theorem layR_cells {A : Option Addr} {ls : List LayR} (h : SliceOf w A 4 layREnc layR0 ls) (k : Nat) (hk : k < ls.length) : ∃ b o, A = some ⟨b, o, none⟩ ∧ ∀ j u, (layREnc (ls.getD k layR0))[j]? = some u → w.cell? ⟨b, o + k * 4 + j, none⟩ = some u := h k hk
theorem mem_getR {ls : List LayR} {k : Nat} (h : k < ls.length) : ls.getD k layR0 ∈ ls := by
  have : ls.getD k layR0 = ls[k] := by simp [List.getD, h]
  rw [this]; exact List.getElem_mem h
def emptyL : Lay := ⟨0, [], 0, []⟩
theorem same_get (h : BK base w P bd v l vk kept) {k : Nat} (hk : k < kept.length) : (l.getD k layR0).x = (kept.getD k layR0).x := by
  have hl := h.len
  have := congrArg (fun z => z.getD k layR0.x) h.same
  simpa [List.getD, hk, show k < l.length by omega] using this.symm
set_option maxRecDepth 100000 in
set_option maxHeartbeats 4000000 in
theorem lbook_walk (id : Int) (A : Option Addr) (cc : Nat) (ls : List LayR) (w : World) (hs : SliceOf w A 4 layREnc layR0 ls) (hcc : ls.length ≤ cc) (hm : ls.length ≤ maxLen) (hgd : ∀ r ∈ ls, LayIs w r.x r.A1 r.c1 r.A2 r.c2) :
    Calls Try.prog 4 #[.slice A ls.length cc, .int .i64 id] w fun e w' => e = .returned (.bool true) ∧ Below w.heap.size w w' := by
  unfold maxLen at hm
  obtain ⟨i0, hi, hz0, hz1, hz2⟩ := info_parts infoLay
  have HI := Lib.hid hi
  have HZ0 := Lib.hid hz0
  have HZ1 := Lib.hid hz1
  have HZ2 := Lib.hid hz2
  have HS := Lib.hid hs
  have HGD := Lib.hid hgd
  clear hi hz0 hz1 hz2 hs hgd
  go_enter Try.func4, Try.ntmps4
  go_wp2_with fail
  refine (add_nil ⟨1, [], 0, []⟩ none 0 none 0 _).mono ?_
  rintro e w1 ⟨rfl, hb⟩
  have HB1 := Lib.hid hb
  clear hb
  go_wp2_with fail
  refine (get_nil 1 _).mono ?_
  rintro e w2 ⟨rfl, hb⟩
  have HB2 := Lib.hid ((HB1.out.on hb).on (below1 w2 (.cells #[.int .i64 0, .slice none 0 0, .int .i64 0, .slice none 0 0] 24)))
  clear hb HB1
  go_wp2_with fail
  generalize w2.alloc (.cells #[.int .i64 0, .slice none 0 0, .int .i64 0, .slice none 0 0] 24) = W2 at *
  refine (book_new W2).mono ?_
  rintro e w3 ⟨rfl, hbk⟩
  have HBK3 : Hid (BK w w3 W2.heap.size w3.heap.size (.slice none 0 0) [] (.slice none 0 0) []) := Lib.hid ⟨{ hbk with lP := HB2.out.size, below := HB2.out.on hbk.below }, World.ownsRow_nil _ _ _ _, (fun k e => by cases e), rfl, fun r hr => absurd hr List.not_mem_nil⟩
  clear hbk HB2
  generalize W2.heap.size = P at *
  generalize w3.heap.size = bd at *
  go_wp2_with fail
  refine (alive_any _).mono ?_
  rintro e w4 ⟨rfl, hb⟩
  have HBK4 := Lib.hid (HBK3.out.on hb)
  clear hb HBK3
  go_wp2_with fail
  refine (len_nil _).mono ?_
  rintro e w5 ⟨rfl, rfl⟩
  by_cases hlong : 100 < ls.length
  · go_wp2_with fail
    refine (alive_any _).mono ?_
    rintro e w5 ⟨rfl, hb⟩
    have HBK5 := Lib.hid (HBK4.out.on hb)
    clear hb
    go_wp2
    go_ret
    exact ⟨rfl, HBK5.out.book.below⟩
  · go_wp2_with fail
    go_loopw [11, 75] (fun v11 v75 wr => ∃ (k : Nat) (l kept : List LayR) (v : Value), k ≤ ls.length ∧ v75 = .int .i64 k ∧ Hid (BK w wr P bd v l v11 kept)) (fun _ v75 _ => ls.length - (intOf v75).toNat)
    case atStart => exact ⟨0, [], [], _, by omega, rfl, HBK4⟩
    case round =>
      obtain ⟨k, l, kept, v, hk, rfl, HB⟩ := hrel
      clear HBK4
      obtain ⟨Ak, ck, ek, hck, -⟩ := own_slice layREnc layR0 (fun _ => rfl) HB.out.row
      subst ek
      have HKL := Lib.hid HB.out.len
      have hmany : kept.length ≤ 64 := by have h1 := HB.out.book.many; have h2 := HB.out.len; omega
      by_cases hlt : k < ls.length
      · obtain ⟨b, o, rfl, e1⟩ := layR_cells (HS.out.on HB.out.book.below) k hlt
        have hlr := HGD.out _ (mem_getR hlt)
        generalize ls.getD k layR0 = r at *
        have d0 := e1 0 _ rfl
        have d1 := e1 1 _ rfl
        have d2 := e1 2 _ rfl
        have d3 := e1 3 _ rfl
        rw [Nat.add_zero] at d0
        have HLR := Lib.hid hlr
        have hta := heap_alloc_new wr (.cells #[.int .i64 r.x.fixed, .slice r.A1 r.x.refs.length r.c1, .int .i64 r.x.record, .slice r.A2 r.x.recs.length r.c2] 24)
        have HBa := Lib.hid (HB.out.on (below1 wr (.cells #[.int .i64 r.x.fixed, .slice r.A1 r.x.refs.length r.c1, .int .i64 r.x.record, .slice r.A2 r.x.recs.length r.c2] 24)))
        have htP : wr.heap.size ≠ P := by have := HB.out.book.hP; have := HB.out.book.le; omega
        have htv : v.ownBlock ≠ some wr.heap.size := fun e => by have := (HB.out.book.row.lt _ e).2; omega
        have HSH : Hid (∀ W, Calls Try.prog 8 #[.agg #[.int .i64 r.x.fixed, .slice r.A1 r.x.refs.length r.c1, .int .i64 r.x.record, .slice r.A2 r.x.recs.length r.c2]] W fun e w' => e = .returned (.bool (shortB r.x)) ∧ Below W.heap.size W w') := Lib.hid (fun W => short_any r.x r.A1 r.c1 r.A2 r.c2 W)
        have HRR : Hid (∀ W, Below w.heap.size w W → Calls Try.prog 10 #[.agg #[.int .i64 r.x.fixed, .slice r.A1 r.x.refs.length r.c1, .int .i64 r.x.record, .slice r.A2 r.x.recs.length r.c2]] W fun e w' => e = .returned (.bool r.x.right) ∧ Below W.heap.size W w') := Lib.hid (fun W hW => refright_any _ _ _ _ _ W (HLR.out.on hW))
        have HAD : Hid (∀ W, BK w W P bd v l (.slice Ak kept.length ck) kept → Calls Try.prog 13 #[.pointer (some ⟨P, 0, none⟩), .agg #[.int .i64 r.x.fixed, .slice r.A1 r.x.refs.length r.c1, .int .i64 r.x.record, .slice r.A2 r.x.recs.length r.c2]] W (AddPost w W P bd v l r.x)) := Lib.hid (fun W hW => add_any hW.book r.x r.A1 r.c1 r.A2 r.c2 (HLR.out.on hW.book.below))
        clear hlr e1
        go_wp2_with fail
        generalize wr.alloc (.cells #[.int .i64 r.x.fixed, .slice r.A1 r.x.refs.length r.c1, .int .i64 r.x.record, .slice r.A2 r.x.recs.length r.c2] 24) = Wa at *
        generalize wr.heap.size = tb at *
        refine (HSH.out _).mono ?_
        rintro e w5 ⟨rfl, hb⟩
        have HB5 := Lib.hid (HBa.out.on hb)
        have ht5 := (hb.block _ (block_lt hta)).trans hta
        clear hb HBa hta d0 d1 d2 d3 HB
        have m0 := (blk_cells ht5 0).trans rfl
        have m1 := (blk_cells ht5 1).trans rfl
        have m2 := (blk_cells ht5 2).trans rfl
        have m3 := (blk_cells ht5 3).trans rfl
        cases hsh : shortB r.x with
        | false =>
          go_wp2
          go_ret
          exact ⟨rfl, HB5.out.book.below⟩
        | true =>
          clear hsh
          go_wp2_with fail
          refine (HAD.out _ HB5.out).mono ?_
          rintro e w6 (⟨hr, rfl, hB6, hF⟩ | ⟨hr, h64, rfl, hB6, hF⟩ | ⟨hr, h64, v', r', hrx, rfl, hB6, hF⟩)
          · have HB6 := Lib.hid (HB5.out.frame hB6 hF HB5.out.same)
            have ht6 := frame_block hF ht5 htP htv
            clear hB6 hF HB5 m0 m1 m2 m3 ht5
            have m0 := (blk_cells ht6 0).trans rfl
            have m1 := (blk_cells ht6 1).trans rfl
            have m2 := (blk_cells ht6 2).trans rfl
            have m3 := (blk_cells ht6 3).trans rfl
            go_wp2_with fail
            refine (HRR.out _ HB6.out.book.below).mono ?_
            rintro e w7 ⟨rfl, hb⟩
            have HB7 := Lib.hid (HB6.out.on hb)
            clear hb HB6 m0 m1 m2 m3 ht6
            rw [hr]
            go_wp2
            go_roundw
            case rel => exact ⟨k + 1, l, kept, v, by omega, by go_num, HB7⟩
            case measure => simp [intOf]; omega
          · have HB6 := Lib.hid (HB5.out.frame hB6 hF HB5.out.same)
            have ht6 := frame_block hF ht5 htP htv
            have dk : ((kept.length : Int) == 64) = true := by have := HKL.out; simp; omega
            clear h64
            clear hB6 hF HB5 m0 m1 m2 m3 ht5
            have m0 := (blk_cells ht6 0).trans rfl
            have m1 := (blk_cells ht6 1).trans rfl
            have m2 := (blk_cells ht6 2).trans rfl
            have m3 := (blk_cells ht6 3).trans rfl
            go_wp2_with fail
            refine (HRR.out _ HB6.out.book.below).mono ?_
            rintro e w7 ⟨rfl, hb⟩
            have HB7 := Lib.hid (HB6.out.on hb)
            clear hb HB6 m0 m1 m2 m3 ht6
            rw [hr]
            go_wp2
            go_roundw
            case rel => exact ⟨k + 1, l, kept, v, by omega, by go_num, HB7⟩
            case measure => simp [intOf]; omega
          · have HB6 : Hid (BK1 w w6 P bd v' (l ++ [r']) (.slice Ak kept.length ck) kept r.x) := Lib.hid (hrx ▸ HB5.out.frame1 hB6 hF)
            have ht6 := frame_block hF ht5 htP htv
            have hk64 : kept.length < 64 := by have := HKL.out; omega
            have dk : ((kept.length : Int) == 64) = false := by simp; omega
            rw [← HKL.out]
            clear h64
            clear hB6 hF HB5 m0 m1 m2 m3 ht5
            have m0 := (blk_cells ht6 0).trans rfl
            have m1 := (blk_cells ht6 1).trans rfl
            have m2 := (blk_cells ht6 2).trans rfl
            have m3 := (blk_cells ht6 3).trans rfl
            go_wp2_with fail
            refine (HRR.out _ HB6.out.book.below).mono ?_
            rintro e w7 ⟨rfl, hb⟩
            have HB7 := Lib.hid (HB6.out.on hb)
            have ht7 := (hb.block _ (block_lt ht6)).trans ht6
            clear hb HB6 m0 m1 m2 m3 ht6
            have m0 := (blk_cells ht7 0).trans rfl
            have m1 := (blk_cells ht7 1).trans rfl
            have m2 := (blk_cells ht7 2).trans rfl
            have m3 := (blk_cells ht7 3).trans rfl
            have hle7 := HB7.out.book.le
            rw [hr]
            go_wp2_with (at_builtin; go_loud (refine wpList_append_two _ rfl _ _ 33 rfl bd 24 i0 (.agg #[.int .i64 0, .slice none 0 0, .int .i64 0, .slice none 0 0]) 4 64 Try.underlying33 HI.out HZ0.out HZ1.out HZ2.out rfl (by decide) _ _ _ rfl (HB7.out.row.alloc _) ⟨w7.heap.size, 0, none⟩ 1 1 [.int .i64 r.x.fixed, .slice r.A1 r.x.refs.length r.c1, .int .i64 r.x.record, .slice r.A2 r.x.recs.length r.c2] rfl rfl (World.news_of_block (cs := #[.int .i64 r.x.fixed, .slice r.A1 r.x.refs.length r.c1, .int .i64 r.x.record, .slice r.A2 r.x.recs.length r.c2]) (t := 24) (fr := (0, 0)) (heap_alloc_new w7 _)) (by simp [Value.oneCell']) (by unfold maxLen; omega) (by omega) (by simp; omega) (by decide) ?_; intro vk' w8 hown' hgrow hat; obtain ⟨g', cap', rfl⟩ := ownsRow_succ hown'))
            have HB8 := Lib.hid ((HB7.out.on (below1 w7 (.cells #[.int .i64 r.x.fixed, .slice r.A1 r.x.refs.length r.c1, .int .i64 r.x.record, .slice r.A2 r.x.recs.length r.c2] 24))).keep (r := r) HLR.out hgrow hown' hat)
            clear hown' hgrow hat m0 m1 m2 m3 ht7 HB7
            go_roundw
            case rel => exact ⟨k + 1, l ++ [r'], kept ++ [r], v', by omega, by go_num, HB8⟩
            case measure => simp [intOf]; omega
      · obtain rfl : k = ls.length := by omega
        go_wp2_with fail
        go_loopw [123] (fun v123 wr => ∃ j : Nat, j ≤ kept.length ∧ v123 = .int .i64 j ∧ Hid (BK w wr P bd v l (.slice Ak kept.length ck) kept)) (fun v123 _ => kept.length - (intOf v123).toNat)
        case atStart => exact ⟨0, by omega, rfl, HB⟩
        case round =>
          obtain ⟨j, hj, rfl, HB2⟩ := hrel
          clear HB
          by_cases hlt2 : j < kept.length
          · obtain ⟨_, _, ek, _, hsk⟩ := own_slice layREnc layR0 (fun _ => rfl) HB2.out.row
            cases ek
            obtain ⟨b, o, rfl, e1⟩ := layR_cells hsk j hlt2
            have hjl : j < l.length := by have := HKL.out; omega
            have hq := HB2.out.lays _ (mem_getR hlt2)
            have hsame := same_get HB2.out hlt2
            have HG : Hid (∀ W, BK w W P bd v l (.slice (some ⟨b, o, none⟩) kept.length ck) kept → Calls Try.prog 14 #[.pointer (some ⟨P, 0, none⟩), .int .i64 ((j : Int) + 1)] W (GetPost (kept.getD j layR0).x W)) := Lib.hid (fun W hW => by rw [← hsame]; exact get_in hW.book j hjl)
            clear hsame
            generalize kept.getD j layR0 = r at *
            have d0 := e1 0 _ rfl
            have d1 := e1 1 _ rfl
            have d2 := e1 2 _ rfl
            have d3 := e1 3 _ rfl
            rw [Nat.add_zero] at d0
            have HQ := Lib.hid hq
            have hta := heap_alloc_new wr (.cells #[.int .i64 r.x.fixed, .slice r.A1 r.x.refs.length r.c1, .int .i64 r.x.record, .slice r.A2 r.x.recs.length r.c2] 24)
            have HBa := Lib.hid (HB2.out.on (below1 wr (.cells #[.int .i64 r.x.fixed, .slice r.A1 r.x.refs.length r.c1, .int .i64 r.x.record, .slice r.A2 r.x.recs.length r.c2] 24)))
            clear hq e1 hsk
            go_wp2_with fail
            generalize wr.alloc (.cells #[.int .i64 r.x.fixed, .slice r.A1 r.x.refs.length r.c1, .int .i64 r.x.record, .slice r.A2 r.x.recs.length r.c2] 24) = Wa at *
            generalize wr.heap.size = tb at *
            refine (HG.out _ HBa.out).mono ?_
            rintro e w5 ⟨B1, d1, B2, d2, rfl, hly, hb⟩
            have hty := heap_alloc_new w5 (.cells #[.int .i64 r.x.fixed, .slice B1 r.x.refs.length d1, .int .i64 r.x.record, .slice B2 r.x.recs.length d2] 24)
            have ht6 := (Below.heap_alloc w5 (.cells #[.int .i64 r.x.fixed, .slice B1 r.x.refs.length d1, .int .i64 r.x.record, .slice B2 r.x.recs.length d2] 24) _ (Nat.lt_of_lt_of_le (block_lt hta) hb.size)).trans ((hb.block _ (block_lt hta)).trans hta)
            have HB6 := Lib.hid ((HBa.out.on hb).on (below1 w5 (.cells #[.int .i64 r.x.fixed, .slice B1 r.x.refs.length d1, .int .i64 r.x.record, .slice B2 r.x.recs.length d2] 24)))
            have HSM : Hid (Calls Try.prog 17 #[.agg #[.int .i64 r.x.fixed, .slice r.A1 r.x.refs.length r.c1, .int .i64 r.x.record, .slice r.A2 r.x.recs.length r.c2], .agg #[.int .i64 r.x.fixed, .slice B1 r.x.refs.length d1, .int .i64 r.x.record, .slice B2 r.x.recs.length d2]] (w5.alloc (.cells #[.int .i64 r.x.fixed, .slice B1 r.x.refs.length d1, .int .i64 r.x.record, .slice B2 r.x.recs.length d2] 24)) fun e w' => e = .returned (.bool true) ∧ Below (w5.alloc (.cells #[.int .i64 r.x.fixed, .slice B1 r.x.refs.length d1, .int .i64 r.x.record, .slice B2 r.x.recs.length d2] 24)).heap.size (w5.alloc (.cells #[.int .i64 r.x.fixed, .slice B1 r.x.refs.length d1, .int .i64 r.x.record, .slice B2 r.x.recs.length d2] 24)) w') := Lib.hid (by
              have := ref_same r.x r.x r.A1 r.c1 r.A2 r.c2 B1 d1 B2 d2 _ (HQ.out.on HB6.out.book.below) (hly.on (below1 w5 (.cells #[.int .i64 r.x.fixed, .slice B1 r.x.refs.length d1, .int .i64 r.x.record, .slice B2 r.x.recs.length d2] 24)))
              rw [decide_eq_true ⟨rfl, rfl, rfl, rfl⟩] at this
              exact this)
            clear hb hly HBa hta HB2
            have m0 := (blk_cells ht6 0).trans rfl
            have m1 := (blk_cells ht6 1).trans rfl
            have m2 := (blk_cells ht6 2).trans rfl
            have m3 := (blk_cells ht6 3).trans rfl
            have n0 := (blk_cells hty 0).trans rfl
            have n1 := (blk_cells hty 1).trans rfl
            have n2 := (blk_cells hty 2).trans rfl
            have n3 := (blk_cells hty 3).trans rfl
            unfold layV
            go_wp2_with fail
            refine HSM.out.mono ?_
            rintro e w7 ⟨rfl, hb⟩
            have HB7 := Lib.hid (HB6.out.on hb)
            clear hb HSM HB6 m0 m1 m2 m3 n0 n1 n2 n3 ht6 hty
            go_wp2
            go_roundw
            case rel => exact ⟨j + 1, by omega, by go_num, HB7⟩
            case measure => simp [intOf]; omega
          · obtain rfl : j = kept.length := by omega
            by_cases hid1 : id < 1 ∨ (l.length : Int) < id
            · have HG := Lib.hid (get_out HB2.out.book id hid1)
              have hLN : Hid (∀ W, BK w W P bd v l (.slice Ak kept.length ck) kept → Calls Try.prog 16 #[.pointer (some ⟨P, 0, none⟩)] W fun e w' => e = .returned (.int .i64 kept.length) ∧ W = w') := Lib.hid (fun W hW => by rw [HKL.out]; exact len_any hW.book)
              have hidk : id < 1 ∨ (kept.length : Int) < id := by have := HKL.out; omega
              clear hid1
              go_wp2_with fail
              refine HG.out.mono ?_
              rintro e w5 ⟨rfl, hb⟩
              have hty := heap_alloc_new w5 (.cells #[.int .i64 0, .slice none 0 0, .int .i64 0, .slice none 0 0] 24)
              have HB6 := Lib.hid ((HB2.out.on hb).on (below1 w5 (.cells #[.int .i64 0, .slice none 0 0, .int .i64 0, .slice none 0 0] 24)))
              have hem : LayIs (w5.alloc (.cells #[.int .i64 0, .slice none 0 0, .int .i64 0, .slice none 0 0] 24)) emptyL none 0 none 0 := ⟨fun i hi => by simp [emptyL] at hi, Nat.le_refl _, Nat.zero_le _, fun i hi => by simp [emptyL] at hi, Nat.le_refl _, Nat.zero_le _⟩
              have HSM : Hid (Calls Try.prog 17 #[.agg #[.int .i64 0, .slice none 0 0, .int .i64 0, .slice none 0 0], .agg #[.int .i64 0, .slice none 0 0, .int .i64 0, .slice none 0 0]] (w5.alloc (.cells #[.int .i64 0, .slice none 0 0, .int .i64 0, .slice none 0 0] 24)) fun e w' => e = .returned (.bool true) ∧ Below (w5.alloc (.cells #[.int .i64 0, .slice none 0 0, .int .i64 0, .slice none 0 0] 24)).heap.size (w5.alloc (.cells #[.int .i64 0, .slice none 0 0, .int .i64 0, .slice none 0 0] 24)) w') := Lib.hid (by
                have := ref_same emptyL emptyL none 0 none 0 none 0 none 0 _ hem hem
                rw [decide_eq_true ⟨rfl, rfl, rfl, rfl⟩] at this
                exact this)
              clear hb hem HB2 HG
              have n0 := (blk_cells hty 0).trans rfl
              have n1 := (blk_cells hty 1).trans rfl
              have n2 := (blk_cells hty 2).trans rfl
              have n3 := (blk_cells hty 3).trans rfl
              by_cases h1 : id < 1
              · have q1 : decide (id < 1) = true := decide_eq_true h1
                clear hidk h1
                go_wp2_with fail
                refine HSM.out.mono ?_
                rintro e w7 ⟨rfl, hb⟩
                have HB7 := Lib.hid (HB6.out.on hb)
                clear hb HSM HB6 n0 n1 n2 n3 hty
                go_wp2_with fail
                refine (hLN.out _ HB7.out).mono ?_
                rintro e w8 ⟨rfl, rfl⟩
                go_wp2
                go_ret
                exact ⟨rfl, HB7.out.book.below⟩
              · have q1 : decide (id < 1) = false := decide_eq_false h1
                have q2 : decide ((kept.length : Int) < id) = true := decide_eq_true (by omega)
                clear hidk h1
                go_wp2_with fail
                refine HSM.out.mono ?_
                rintro e w7 ⟨rfl, hb⟩
                have HB7 := Lib.hid (HB6.out.on hb)
                clear hb HSM HB6 n0 n1 n2 n3 hty
                go_wp2_with fail
                refine (hLN.out _ HB7.out).mono ?_
                rintro e w8 ⟨rfl, rfl⟩
                go_wp2
                go_ret
                exact ⟨rfl, HB7.out.book.below⟩
            · obtain ⟨q, rfl⟩ : ∃ q : Nat, id = (q : Int) + 1 := ⟨(id - 1).toNat, by omega⟩
              have HG := Lib.hid (get_in HB2.out.book q (by omega))
              have hLN : Hid (∀ W, BK w W P bd v l (.slice Ak kept.length ck) kept → Calls Try.prog 16 #[.pointer (some ⟨P, 0, none⟩)] W fun e w' => e = .returned (.int .i64 kept.length) ∧ W = w') := Lib.hid (fun W hW => by rw [HKL.out]; exact len_any hW.book)
              have q1 : decide ((q : Int) + 1 < 1) = false := decide_eq_false (by omega)
              have q2 : decide ((kept.length : Int) < (q : Int) + 1) = false := decide_eq_false (by have := HKL.out; omega)
              clear hid1
              generalize (l.getD q layR0).x = y at *
              go_wp2_with fail
              refine HG.out.mono ?_
              rintro e w5 ⟨B1, d1, B2, d2, rfl, hly, hb⟩
              have HB6 := Lib.hid ((HB2.out.on hb).on (below1 w5 (.cells #[.int .i64 y.fixed, .slice B1 y.refs.length d1, .int .i64 y.record, .slice B2 y.recs.length d2] 24)))
              clear hb hly HB2 HG
              unfold layV
              go_wp2_with fail
              refine (hLN.out _ HB6.out).mono ?_
              rintro e w8 ⟨rfl, rfl⟩
              go_wp2
              go_ret
              exact ⟨rfl, HB6.out.book.below⟩
end Go.Proofs.Ytcffenekomiakaa
