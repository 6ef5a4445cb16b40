/- BumpMoves: plain words, and a walk. -/
import Derived.Test.YtkaflgbipjppmaaDoorBA
namespace Go.Proofs.YtkaflgbipjppmaaDoor
open Go Go.RowKit
set_option linter.unusedVariables false
set_option linter.unusedSimpArgs false
variable {base w w' : World} {B Wb Ob p q G Wg Og size bd nc P0 P1 D0 D1 : Nat} {W W' own own' : List Int} {x y : PSp} {z t : DSp} {o0 o1 ow : Int}
theorem many9 : ∀ own : List Int, many (own.map busy) + own.count 0 = own.length
  | [] => rfl
  | x :: t => by
    have ih := many9 t
    unfold many at *
    rw [List.map_cons, List.count_cons, List.count_cons, List.length_cons]
    by_cases h : x = 0
    · subst h
      have : busy 0 = false := by decide
      rw [this]; simp; omega
    · have : busy x = true := by simp [busy, h]
      rw [this]; simp [h]; omega
theorem free9 (own : List Int) : freeN own = own.count 0 := by have := many9 own; unfold freeN; omega
theorem count9 (own : List Int) (i : Nat) (h : i < own.length) (hz : own.getD i 0 ≠ 0) : (own.set i 0).count 0 = own.count 0 + 1 := by
  induction own generalizing i with
  | nil => simp at h
  | cons y t ih =>
    cases i with
    | zero =>
      have hy : y ≠ 0 := by simpa using hz
      simp only [List.set_cons_zero, List.count_cons]
      simp [hy]
    | succ i =>
      have := ih i (by simpa using h) (by simpa using hz)
      simp only [List.set_cons_succ, List.count_cons]
      omega
theorem fill9 (own : List Int) (m : Nat) : ∀ n, m + n ≤ own.length → (∀ c, c < n → own.getD (m + c) 0 ≠ 0) → (fillO own m 0 n).count 0 = own.count 0 + n
  | 0, _, _ => rfl
  | n + 1, h, hz => by
    have ih := fill9 own m n (by omega) (fun c hc => hz c (by omega))
    show (List.set _ _ _).count 0 = _
    rw [count9 _ _ (by rw [fillO_length]; omega) (by rw [fillO_getD _ _ _ _ _ (by omega), if_neg (by omega)]; exact hz n (by omega)), ih]
    omega
theorem freed9 {parts : List (Nat × Nat)} (h : SpInv own ow parts) (ho : 1 ≤ ow) : freeN (giveL own 0 parts) = freeN own + (chunksL parts).length := by
  have key : ∀ j, j ≤ parts.length → (giveL own 0 (parts.take j)).count 0 = own.count 0 + (chunksL (parts.take j)).length := fun j => by
    induction j with
    | zero => intro _; simp [giveL, chunksL]
    | succ j ih =>
      intro hj
      have hj2 : j < parts.length := by omega
      obtain ⟨m, n, hmn⟩ : ∃ m n, parts.getD j (0, 0) = (m, n) := ⟨_, _, rfl⟩
      have htk : parts.take (j + 1) = parts.take j ++ [parts.getD j (0, 0)] := by
        rw [List.take_add_one]; simp [List.getD, hj2]
      have hmem : parts.getD j (0, 0) ∈ parts := by
        have : parts.getD j (0, 0) = parts[j] := by simp [List.getD, hj2]
        rw [this]; exact List.getElem_mem hj2
      have hcut := (h.cut j hj2).2
      rw [hmn] at htk hmem hcut
      have hfit := h.fit _ hmem
      have hfit2 : ∀ x ∈ parts.take j, x.1 + x.2 ≤ own.length := fun x hx => h.fit x (List.mem_of_mem_take hx)
      rw [htk, giveL_snoc, chunksL_snoc, List.length_append, fill9 _ _ _ (by rw [giveL_length]; exact hfit) (fun c hc => ?_), ih (by omega)]
      · have : (chunkL (m, n)).length = n := by simp [chunkL]
        rw [this]; show _ + n = _; omega
      · rw [giveL_getD _ _ _ _ hfit2, if_neg (fun e => hcut (m + c) (mem_chunkL.2 ⟨Nat.le_add_right _ _, Nat.add_lt_add_left hc _⟩) (by
          rw [chunksL_append]; exact List.mem_append.2 (.inl e))), h.part hmem c hc]
        omega
  have := key parts.length (Nat.le_refl _)
  rw [List.take_length] at this
  rw [free9, free9, this]
theorem given9 {parts : List (Nat × Nat)} {o : Int} (h : SpInv own ow parts) (ho : 1 ≤ ow) (h1 : o ≠ 0) : freeN (giveL own o parts) = freeN own := by
  unfold freeN
  rw [giveL_length]
  congr 2
  refine List.ext_getElem? fun c => ?_
  by_cases hc : c < own.length
  · have e := giveL_getD o c parts own h.fit
    rw [List.getElem?_map, List.getElem?_map, List.getElem?_eq_getElem (by rw [giveL_length]; exact hc), List.getElem?_eq_getElem hc]
    have e1 : (giveL own o parts).getD c 0 = (giveL own o parts)[c]'(by rw [giveL_length]; exact hc) := by simp [List.getD, giveL_length, hc]
    have e2 : own.getD c 0 = own[c] := by simp [List.getD, hc]
    rw [e1] at e
    rw [e]
    by_cases hm : c ∈ chunksL parts
    · rw [if_pos hm]
      have h3 := (h.on c hm).2
      rw [e2] at h3
      rw [h3]
      have b1 : busy o = true := by simp [busy, h1]
      have b2 : busy ow = true := by simp [busy]; omega
      simp [b1, b2]
    · rw [if_neg hm, e2]
  · rw [List.getElem?_eq_none (by simp [giveL_length]; omega), List.getElem?_eq_none (by simp; omega)]
def val9 (x : Int) (c : Nat) : Int := IntKind.u64.wrap (x + (c : Int))
/-- What the first i chunks' first words hold. -/
def WOK (x : Int) (W : List Int) (l : List Nat) (i : Nat) : Prop := ∀ j, j < i → W.getD (4 * l.getD j 0) 0 = val9 x (l.getD j 0)
theorem WOK.next {x : Int} {l : List Nat} {i : Nat} (h : WOK x W l i) (hc : 4 * l.getD i 0 < W.length) : WOK x (W.set (4 * l.getD i 0) (val9 x (l.getD i 0))) l (i + 1) := fun j hj => by
  by_cases e : l.getD j 0 = l.getD i 0
  · rw [e, set_getD _ _ _ hc, if_pos rfl]
  · have h1 : j < i := by
      rcases Nat.lt_or_ge j i with g | g
      · exact g
      · exact absurd (by rw [show j = i by omega]) e
    have h2 := h j h1
    have h3 : 4 * l.getD i 0 ≠ 4 * l.getD j 0 := fun g => e (by omega)
    rw [set_getD _ _ _ hc, if_neg (fun g => h3 g.symm)]
    exact h2
/-- An append whose second slice may be empty. -/
theorem wpList_append_full {P : Program} (w : World) {ops : Array Oper} {rest : List Oper} {o : Oper} {a : Act} {Q : Exit → Act → World → Prop} (hgd : o.guard = none) (s x : Operand) (t : TypeId)
    (ho : o.op = .call { callee := .builtin .append, args := #[s, x], argTypes := #[t, t] })
    (base : Nat) (e : TypeId) (i : TypeInfo) (z : Value) (size bytes : Nat) (ht : P.underlying t = some (.slice e)) (hi : P.info? e = some i) (hz : i.zero = some z)
    (hsize : i.size = size) (hby : i.bytes = bytes) (hzs : z.cells.size = size) (hsz : 0 < size)
    (v : Value) (n : Nat) (xs : List Value) (hs : a.eval s = v) (hown : w.ownsRow base e size v n xs)
    (A : Option Addr) (m c : Nat) (news : List Value) (hx : a.eval x = .slice A m c) (hl : news.length = m * size) (hA : 0 < m → ∃ ad, A = some ad ∧ ∀ j u, news[j]? = some u → w.cell? (ad.add j) = some u) (h1 : ∀ u ∈ news, u.oneCell' = true)
    (h63 : n + m ≤ maxLen) (hbytes : (n + m) * bytes ≤ 140737488355328) (hbase : base ≤ w.heap.size)
    (h : ∀ v' w', w'.ownsRow base e size v' (n + m) (xs ++ news) → w.grownBy w' v.ownBlock → wpList P ops Q rest (a.put o.dst v') w') : wpList P ops Q (o :: rest) a w := by
  rcases Nat.eq_zero_or_pos m with rfl | hm
  · obtain rfl : news = [] := List.eq_nil_of_length_eq_zero (by rw [hl, Nat.zero_mul])
    refine wpList_plain hgd fun _ hK => ?_
    have hr : (Builtin.append_ #[t, t] o.type #[v, .slice A 0 c]).run P w = .ok v w := by
      subst hsize
      rcases hown.2 with ⟨rfl, rfl⟩ | ⟨g, cap, cur, rfl, _, _, hnc, _⟩
      · rcases A with _ | ad
        · simp [Builtin.append_, run_underlying ht, sizeOf, typeInfo, hi, Builtin.lenOf, Builtin.firstCells]
        · have hfc := run_firstCells_some (P := P) w i.size 0 ad 0 c [] (by simp) (by simp)
          simp [Builtin.append_, run_underlying ht, sizeOf, typeInfo, hi, Builtin.lenOf, hfc]
      · rcases A with _ | ad
        · simp [Builtin.append_, run_underlying ht, sizeOf, typeInfo, hi, Builtin.lenOf, Builtin.firstCells, hnc, storeCells]
        · have hfc := run_firstCells_some (P := P) w i.size 0 ad 0 c [] (by simp) (by simp)
          simp [Builtin.append_, run_underlying ht, sizeOf, typeInfo, hi, Builtin.lenOf, hfc, hnc, storeCells]
    unfold Oper.wp execOp
    simp only [ho, resolve, invoke, builtin, Sem.run_bind, Sem.run_pure, Result.andThen_ok, List.map_toArray, List.map_cons, List.map_nil, hs, hx, hr]
    exact hK _ _ (h v w (by rw [List.append_nil]; exact hown) ⟨rfl, rfl, rfl, Nat.le_refl _, fun _ _ _ => rfl⟩)
  · obtain ⟨ad, rfl, hc⟩ := hA hm
    exact wpList_append_own w hgd s x t ho base e i z size bytes ht hi hz hsize hby hzs hsz v n xs hs hown ad m c news hx hl hc h1 h63 hbytes hbase (fun v' w' g1 g2 _ => h v' w' g1 g2)
theorem row_src {w : World} {base : Nat} {e : TypeId} {A : Option Addr} {n c : Nat} {xs : List Value} (h : w.ownsRow base e 1 (.slice A n c) n xs) : 0 < n → ∃ ad, A = some ad ∧ ∀ j u, xs[j]? = some u → w.cell? (ad.add j) = some u := fun hn => by
  rcases h.2 with ⟨hv, h0⟩ | ⟨g, cap, cur, hv, _⟩
  · omega
  · injection hv with hv _ _
    subst hv
    exact ⟨⟨g, 0, none⟩, rfl, (rowW.of_own h).cells rfl⟩
theorem own_form {w : World} {base : Nat} {e : TypeId} {s n : Nat} {v : Value} {xs : List Value} (h : w.ownsRow base e s v n xs) : ∃ A c, v = .slice A n c := by
  rcases h.2 with ⟨hv, h0⟩ | ⟨g, cap, cur, hv, _⟩
  · exact ⟨none, 0, by rw [hv, h0]⟩
  · exact ⟨_, _, hv⟩
theorem encN_len (l : List Nat) : (l.flatMap encN).length = l.length * 1 := by
  induction l with
  | nil => rfl
  | cons a l ih => simp only [List.flatMap_cons, List.length_append, ih, List.length_cons, encN, List.length_nil]; omega
theorem encN_one (l : List Nat) : ∀ u ∈ l.flatMap encN, u.oneCell' = true := fun u hu => by
  obtain ⟨x, _, hx⟩ := List.mem_flatMap.1 hu
  simp only [encN, List.mem_cons, List.not_mem_nil, or_false] at hx
  subst hx; rfl
theorem own_empty (w : World) (e : TypeId) (s : Nat) : (w.alloc (.cells #[] e)).ownsRow w.heap.size e s (.slice (some ⟨w.heap.size, 0, none⟩) 0 0) 0 [] :=
  ⟨by simp, .inr ⟨w.heap.size, 0, #[], rfl, Nat.le_refl _, heap_alloc_new w _, Nat.le_refl _, Nat.zero_le _, by simp, by simp⟩⟩
theorem ints_row {w : World} {base : Nat} {v : Value} {l : List Nat} (h : w.ownsRow base 3 1 v l.length (l.flatMap encN)) (hl : l.length ≤ 1048576) : Ints w v l := by
  have e : l.flatMap encN = l.map intV := by
    clear h hl
    induction l with
    | nil => rfl
    | cons a l ih => simp only [List.flatMap_cons, ih, List.map_cons]; rfl
  rw [e] at h
  exact ints_of_own h hl
def MovS (wa wr : World) (bd B Wb Ob p q : Nat) (own : List Int) (x y : PSp) (xv : Int) (al : List Nat) (i : Nat) : Prop := ∃ W, PS wr bd B Wb Ob p q W 4 own x y ∧ WOK xv W al i ∧ Mod (Four3 Wb Ob p q) wa wr
set_option maxRecDepth 100000 in
set_option maxHeartbeats 4000000 in
theorem moves_walk (xv : Int) (A : Option Addr) (l : List Act9) (cp : Nat) (hl : l.length ≤ cp) (hm : l.length ≤ maxLen) (hS : SliceOf w A 4 act9Enc act90 l) (hT : Tab w) :
    Calls Tryd.prog 15 #[.slice A l.length cp, .int .u64 xv] w fun e w' => e = .returned (.bool true) ∧ Below w.heap.size w w' := by
  have HT := Lib.hid hT
  have HS := Lib.hid hS
  have h0 : 0 < w.heap.size := lt_of_cell (hT 0 (by decide))
  have HAL : Hid (∀ Y, Below w.heap.size w Y → Calls Tryd.prog 17 #[] Y fun e w' => e = .returned (.bool true) ∧ Below Y.heap.size Y w') := Lib.hid (fun Y hY => alive9_any (fun j hj => (hY.cell (p := ⟨0, j, none⟩) h0).trans (hT j hj)))
  have HGR : Hid (∀ Y, Below w.heap.size w Y → Calls Tryd.prog 45 #[.slice A l.length cp] Y fun e w' => e = .returned (.bool (great9 l)) ∧ Below Y.heap.size Y w') := Lib.hid (fun Y hY => great_any A l cp hl hm (hS.on hY))
  unfold maxLen at hm
  clear hT hS
  go_enter Tryd.func15, Tryd.ntmps15
  go_wp2_with fail
  refine (HAL.out _ (Below.refl _ _)).mono ?_
  rintro e w1 ⟨rfl, hb1⟩
  have HB1 := Lib.hid hb1
  clear hb1
  go_wp2_with fail
  refine (HGR.out _ HB1.out).mono ?_
  rintro e w2 ⟨rfl, hb2⟩
  have HB2 := Lib.hid (HB1.out.on hb2)
  clear hb2 HGR
  by_cases hgr : great9 l = true
  · rw [hgr]
    go_wp2_with fail
    refine (HAL.out _ HB2.out).mono ?_
    rintro e w3 ⟨rfl, hb3⟩
    have HB3 := Lib.hid (HB2.out.on hb3)
    clear hb3
    go_wp2
    go_ret
    exact ⟨rfl, HB3.out⟩
  · rw [Bool.not_eq_true] at hgr
    have HG9 := Lib.hid hgr
    rw [hgr]
    clear hgr HAL
    go_wp2_with fail
    refine (made9 16 4 w.heap.size w2 (by decide) (by decide) (by decide) (by decide)).mono ?_
    rintro e w3 ⟨B, Wb, Ob, p, q, P0, P1, rfl, h2, hb3, hF, hp0, hp1⟩
    have H2 := Lib.hid h2
    have HB3 := Lib.hid (HB2.out.on hb3)
    have HF := Lib.hid hF
    have hz2 := HB2.out.size
    have hz3 := hb3.size
    have hba := below1 w3 (.cells #[.pointer (some ⟨P0, 0, none⟩), .pointer (some ⟨P1, 0, none⟩)] 25)
    have HAP := Lib.hid (heap_alloc_new w3 (.cells #[.pointer (some ⟨P0, 0, none⟩), .pointer (some ⟨P1, 0, none⟩)] 25))
    have HBA := Lib.hid hba
    clear h2 hb3 hF hba
    go_wp2_with fail
    refine (rnew_any 16 4 _ (by decide) (by decide) (by decide) (by decide)).mono ?_
    rintro e w4 ⟨G, Wg, Og, rfl, hR, hb4, hG, hWg, hOg⟩
    rw [World.size_alloc] at hG hWg hOg
    have HR := Lib.hid hR
    have HB4 := Lib.hid hb4
    clear hR hb4
    go_wp2_with fail
    refine (dnew_any 1 w4).mono ?_
    rintro e w5 ⟨rfl, hD0, hb5⟩
    have HD0 := Lib.hid (hD0 w.heap.size)
    have HB5 := Lib.hid hb5
    have hz5 := block_lt (hD0 0).head
    clear hD0 hb5
    go_wp2_with fail
    refine (dnew_any 2 w5).mono ?_
    rintro e w6 ⟨rfl, hD1, hb6⟩
    have HD1 := Lib.hid (hD1 w.heap.size)
    have HB6 := Lib.hid hb6
    have hz6 := hb6.size
    have HAM := Lib.hid (heap_alloc_new w6 (.cells #[.pointer (some ⟨w4.heap.size, 0, none⟩), .pointer (some ⟨w5.heap.size, 0, none⟩)] 81))
    have HBM := Lib.hid (below1 w6 (.cells #[.pointer (some ⟨w4.heap.size, 0, none⟩), .pointer (some ⟨w5.heap.size, 0, none⟩)] 81))
    have hz4 := HB4.out.size
    rw [World.size_alloc] at hz4
    have hb36 := (HB4.out.on HB5.out).on HB6.out
    have HAP6 := Lib.hid ((HBM.out.block _ (Nat.lt_of_lt_of_le (block_lt HAP.out) hb36.size)).trans ((hb36.block _ (block_lt HAP.out)).trans HAP.out))
    have HX0 : Hid (TwX w (w6.alloc (.cells #[.pointer (some ⟨w4.heap.size, 0, none⟩), .pointer (some ⟨w5.heap.size, 0, none⟩)] 81)) B Wb Ob p q G Wg Og 4 16 P0 P1 w4.heap.size w5.heap.size 1 2) := Lib.hid (by
      have hb37 := (HBA.out.on hb36).on HBM.out
      refine twx_new ?_ ((HR.out.on (HB5.out.on HB6.out)).on HBM.out) ((HD0.out.on HB6.out).on HBM.out) (HD1.out.on HBM.out) (by omega) (fun k hk => ?_) (HB3.out.on hb37) (fun k hk => ?_)
      · have h2 := H2.out
        exact { h2 with st := h2.st.on hb37, s0 := h2.s0.on hb37, s1 := h2.s1.on hb37 }
      · have hlt : k < w3.heap.size := by
          have h2 := H2.out.st
          obtain ⟨u, hu⟩ := h2.map
          rcases hk with e | e | e | e | e
          · rw [e]; exact block_lt h2.head
          · rw [e]; exact block_lt h2.body
          · rw [e]; exact block_lt h2.owners
          · rw [e]; exact hu.plt
          · rw [e]; exact hu.qlt
        omega
      · rcases hk with e | e | e | e | e | e | e | e
        · exact Nat.le_trans hz2 (HF.out k e)
        all_goals omega)
    clear hD1 hb6 hb36
    have hz36 : w3.heap.size ≤ w6.heap.size := by omega
    go_wp2_with fail
    go_loopw [42] (fun v42 wr => ∃ k : Nat, k ≤ l.length ∧ v42 = .int .i64 k ∧ Hid (TwX w wr B Wb Ob p q G Wg Og 4 16 P0 P1 w4.heap.size w5.heap.size 1 2 ∧ wr.heap[w3.heap.size]? = some (.cells #[.pointer (some ⟨P0, 0, none⟩), .pointer (some ⟨P1, 0, none⟩)] 25 (0, 0)) ∧ wr.heap[w6.heap.size]? = some (.cells #[.pointer (some ⟨w4.heap.size, 0, none⟩), .pointer (some ⟨w5.heap.size, 0, none⟩)] 81 (0, 0)))) (fun v42 _ => l.length - (intOf v42).toNat)
    case atStart => exact ⟨0, by omega, rfl, Lib.hid ⟨HX0.out, HAP6.out, HAM.out⟩⟩
    case round =>
      obtain ⟨k, hk, rfl, HR9⟩ := hrel
      have hBr : Below w.heap.size w wr := by obtain ⟨_, _, _, _, _, _, h⟩ := HR9.out.1; exact h.bel
      by_cases hlt : k < l.length
      · obtain ⟨b, o, rfl, e0, e1, e2, e3⟩ := act9_cells (HS.out.on hBr) k hlt
        have hgx : (l.getD k act90).kind = 0 → (l.getD k act90).n ≤ 100000 := fun e => by
          have hmem : l.getD k act90 ∈ l := by
            have : l.getD k act90 = l[k] := by simp [List.getD, hlt]
            rw [this]; exact List.getElem_mem hlt
          have h1 := HG9.out
          unfold great9 at h1
          rw [Bool.or_eq_false_iff] at h1
          have h2 := List.any_eq_false.1 h1.2 _ hmem
          unfold big9 at h2
          rw [decide_eq_true e, Bool.true_and, decide_eq_true_iff] at h2
          omega
        generalize l.getD k act90 = x at *
        obtain ⟨xk, xw, xn, xr⟩ := x
        dsimp only at e0 e1 e2 e3 hgx
        have HBX := Lib.hid (below1 wr (.cells #[.int .i64 xk, .int .i64 xw, .int .i64 xn, .bool xr] 83))
        have ha0 := (HBX.out.block _ (block_lt HR9.out.2.1)).trans HR9.out.2.1
        have hm0 := (HBX.out.block _ (block_lt HR9.out.2.2)).trans HR9.out.2.2
        have HA0 := Lib.hid ha0
        have HM0 := Lib.hid hm0
        have p0 := (blk_cells ha0 0).trans rfl
        have p1 := (blk_cells ha0 1).trans rfl
        have m0 := (blk_cells hm0 0).trans rfl
        have m1 := (blk_cells hm0 1).trans rfl
        have HDO := Lib.hid (do9_any (HR9.out.1.on HBX.out) HT.out h0 xk xw xn xr hgx)
        clear ha0 hm0 hgx hBr
        go_wp2_with fail
        refine HDO.out.mono ?_
        rintro e wd1 ⟨rfl, hX1, hK1⟩
        have HX1 := Lib.hid (And.intro hX1 (And.intro (hK1.1 _ _ _ rfl HA0.out) (hK1.1 _ _ _ rfl HM0.out)))
        clear hX1 hK1 HDO p0 p1 m0 m1 e0 e1 e2 e3
        go_wp2
        go_roundw
        case rel => exact ⟨k + 1, by omega, by go_num, HX1⟩
        case measure => simp [intOf]; omega
      · obtain rfl : k = l.length := by omega
        obtain ⟨W, own, x, y, z, t, hS⟩ := HR9.out.1
        obtain ⟨L0, hL0⟩ : ∃ L0, L0 = chunksL x.l := ⟨_, rfl⟩
        obtain ⟨L1, hL1⟩ : ∃ L1, L1 = chunksL y.l := ⟨_, rfl⟩
        have HL0 := Lib.hid hL0
        have HL1 := Lib.hid hL1
        have HSt := Lib.hid hS
        have hpl := hS.pre.len
        have hpl1 := hS.pre.len1
        have hc0 := Nat.le_trans hS.pre.j0.inv.clen hS.pre.ol
        have hc1 := Nat.le_trans hS.pre.j1.inv.clen hS.pre.ol
        rw [← hL0] at hc0
        rw [← hL1] at hc1
        have HCH : Hid (∀ (P : Nat) (L : List Nat), (P = P0 ∧ L = L0) ∨ (P = P1 ∧ L = L1) → ∀ Y, Below wr.heap.size wr Y → Calls Tryd.prog 19 #[.pointer (some ⟨P, 0, none⟩)] Y fun e w' => ∃ A c, e = .returned (.slice A L.length c) ∧ w'.ownsRow wr.heap.size 3 1 (.slice A L.length c) L.length (L.flatMap encN) ∧ Below Y.heap.size Y w' ∧ Below wr.heap.size wr w') := Lib.hid (fun P L hPL Y hY => by
          rcases hPL with ⟨rfl, rfl⟩ | ⟨rfl, rfl⟩
          · have h1 := chunks_sp (HSt.out.on hY).ps.s0 (by omega)
            rw [HSt.out.e0] at h1
            rw [HL0.out]
            exact h1.mono fun e w' ⟨A, c, he, hr, hb⟩ => ⟨A, c, he, own_weak hr hY.size, hb, hY.on hb⟩
          · have h1 := chunks_sp (HSt.out.on hY).ps.s1 (by omega)
            rw [HSt.out.e1] at h1
            rw [HL1.out]
            exact h1.mono fun e w' ⟨A, c, he, hr, hb⟩ => ⟨A, c, he, own_weak hr hY.size, hb, hY.on hb⟩)
        have HCELL : Hid (∀ Y, Below wr.heap.size wr Y → (Y.cell? ⟨w3.heap.size, 0, none⟩ = some (.pointer (some ⟨P0, 0, none⟩)) ∧ Y.cell? ⟨w3.heap.size, 1, none⟩ = some (.pointer (some ⟨P1, 0, none⟩)))) := Lib.hid (fun Y hY => by
          have g1 := (hY.block _ (block_lt HR9.out.2.1)).trans HR9.out.2.1
          exact ⟨(blk_cells g1 0).trans rfl, (blk_cells g1 1).trans rfl⟩)
        have hcur : Below wr.heap.size wr wr.drew := Below.drew (Below.refl _ _)
        have kc := HCELL.out _ hcur
        clear hS hL0 hL1
        go_wp2_with fail
        go_region_held3 (fun wk => (wk.cell? ⟨w3.heap.size, 0, none⟩ = some (.pointer (some ⟨P0, 0, none⟩)) ∧ wk.cell? ⟨w3.heap.size, 1, none⟩ = some (.pointer (some ⟨P1, 0, none⟩))) ∧ Below wr.heap.size wr wk) (first | assumption | exact ⟨HCELL.out _ (by assumption), by assumption⟩ | exact ⟨kc, hcur⟩) (first | (go_at_call 19; refine (HCH.out _ _ (by exact .inl ⟨rfl, rfl⟩) _ (And.right (by assumption))).mono ?_; rintro e w8 ⟨A8, c8, rfl, hr8, hb8, hd8⟩) | (go_at_call 19; refine (HCH.out _ _ (by exact .inr ⟨rfl, rfl⟩) _ (And.right (by assumption))).mono ?_; rintro e w9 ⟨A9, c9, rfl, hr9, hb9, hd9⟩))
        have hrow0 := own_on hr8 hb9
        have HROW0 := Lib.hid hrow0
        have HROW1 := Lib.hid hr9
        have HD9 := Lib.hid hd9
        have hz9 := hd9.size
        have HPS9 := Lib.hid (HSt.out.on hd9).ps
        have HPLT : Hid (∀ k, ProgS Wb Ob p q x y k → k < wr.heap.size) := Lib.hid (fun k hk => by
          have h := HSt.out.ps
          obtain ⟨u, hu⟩ := h.st.map
          rcases hk with (e | e | e | e) | e | e | e | e
          · rw [e]; exact block_lt h.st.body
          · rw [e]; exact block_lt h.st.owners
          · rw [e]; exact hu.plt
          · rw [e]; exact hu.qlt
          · rw [e]; exact block_lt h.s0.head
          · rw [e]; exact block_lt h.s1.head
          · exact (h.s0.row.lt k e).2
          · exact (h.s1.row.lt k e).2)
        obtain ⟨i0, hi0, hz0, hz1, hz2'⟩ := info_parts infoI
        have HI := Lib.hid hi0
        have HZ0 := Lib.hid hz0
        have HZ1 := Lib.hid hz1
        have HZ2 := Lib.hid hz2'
        clear hi0 hz0 hz1 hz2' hrow0 hr8 hr9 hb8 hb9 hd8 hd9 kc hcur HCH
        obtain ⟨wo, hwo⟩ : ∃ wo, wo = wr := ⟨_, rfl⟩
        subst hwo
        have HEa := Lib.hid (own_empty w9 3 1)
        have HCa := Lib.hid (row_src (own_on HROW0.out (below1 w9 (.cells #[] 3))))
        have hzza : w9.heap.size ≤ (w9.alloc (.cells #[] 3)).heap.size := by rw [World.size_alloc]; omega
        go_wp2_with (at_builtin; first | (refine wpList_append_full _ rfl _ _ 22 rfl w9.heap.size 3 i0 (.int .i64 0) 1 8 Tryd.underlying22 HI.out HZ0.out HZ1.out HZ2.out rfl (by decide) (.slice (some ⟨w9.heap.size, 0, none⟩) 0 0) 0 [] rfl HEa.out A8 L0.length c8 (L0.flatMap encN) rfl (encN_len _) HCa.out (encN_one _) (by unfold maxLen; omega) (by omega) hzza ?_; intro v1a w10 hown1 hg1; have HOWNa := Lib.hid hown1; have hbx1 := (below1 w9 (.cells #[] 3)).grown hg1 hzza (fun z e => (HEa.out.lt z e).1); have HBXa := Lib.hid hbx1; have HR1a := Lib.hid (row_src (own_on HROW1.out hbx1)); have hzya := hbx1.size; clear hown1 hg1 hbx1) | (refine wpList_append_full _ rfl _ _ 22 rfl w9.heap.size 3 i0 (.int .i64 0) 1 8 Tryd.underlying22 HI.out HZ0.out HZ1.out HZ2.out rfl (by decide) v1a (0 + L0.length) _ rfl HOWNa.out A9 L1.length c9 (L1.flatMap encN) rfl (encN_len _) HR1a.out (encN_one _) (by unfold maxLen; omega) (by omega) hzya ?_; intro v2a w11 hown2 hg2; obtain ⟨AVa, cva, rfl⟩ := own_form hown2; have HALLa := Lib.hid hown2; have HBYa := Lib.hid (HBXa.out.grown hg2 hzya (fun z e => (HOWNa.out.lt z e).1)); clear hown2 hg2))
        have hsum : L0.length + L1.length = (L0 ++ L1).length := by rw [List.length_append]
        have hall : w11.ownsRow w9.heap.size 3 1 (.slice AVa (L0.length + L1.length) cva) (L0 ++ L1).length ((L0 ++ L1).flatMap encN) := by
          have h := HALLa.out
          rw [List.flatMap_append]
          rw [List.nil_append, Nat.zero_add] at h
          rw [← hsum]
          exact h
        obtain ⟨N, hN⟩ : ∃ N, N = L0.length + L1.length := ⟨_, rfl⟩
        rw [← hN] at hall ⊢
        obtain ⟨al, hal⟩ : ∃ al, al = L0 ++ L1 := ⟨_, rfl⟩
        rw [← hal] at hall hsum
        have hNl : N = al.length := by omega
        subst hNl
        have HALL := Lib.hid hall
        have HAL2 := Lib.hid hal
        have hal1024 : al.length ≤ 2048 := by omega
        have hsI : (L0.length : Int) + (L1.length : Int) = (al.length : Int) := by omega
        have HSI := Lib.hid hsI
        clear hsI
        have HMEM : Hid (∀ i, i < al.length → al.getD i 0 < 16 ∧ own.getD (al.getD i 0) 0 ≠ 0) := Lib.hid (fun i hi => by
          have hm : al.getD i 0 ∈ al := by
            have : al.getD i 0 = al[i] := by simp [List.getD, hi]
            rw [this]; exact List.getElem_mem hi
          have ho0 := HSt.out.pre.o0
          have ho1 := HSt.out.pre.o1
          generalize al.getD i 0 = c9 at hm ⊢
          rw [HAL2.out] at hm
          rcases List.mem_append.1 hm with g | g
          · rw [HL0.out] at g
            have h1 := HSt.out.pre.j0.inv.on _ g
            rw [HSt.out.len] at h1
            exact ⟨h1.1, by rw [h1.2]; omega⟩
          · rw [HL1.out] at g
            have h1 := HSt.out.pre.j1.inv.on _ g
            rw [HSt.out.len] at h1
            exact ⟨h1.1, by rw [h1.2]; omega⟩)
        have HMS : Hid (MovS w11 w11 w.heap.size B Wb Ob p q own x y xv al 0) := Lib.hid ⟨W, HPS9.out.on HBYa.out, fun j hj => by omega, Mod.refl _ _⟩
        have hz11 := HBYa.out.size
        clear hall hsum hN hal
        clear HALLa
        go_loopw [63] (fun v63 wr => ∃ i : Nat, i ≤ al.length ∧ v63 = .int .i64 i ∧ Hid (MovS w11 wr w.heap.size B Wb Ob p q own x y xv al i)) (fun v63 _ => al.length - (intOf v63).toNat)
        case atStart => exact ⟨0, by omega, rfl, HMS⟩
        case round =>
          obtain ⟨i, hi, rfl, HM⟩ := hrel
          obtain ⟨W2, m1, m2, m3⟩ := HM.out
          by_cases hlt : i < al.length
          · have hrw := own_mod HALL.out m3 (fun k hk e => by
              have h1 := (HALL.out.lt k hk).1
              have h2 := HPLT.out k (.inl e)
              omega)
            obtain ⟨A2, c2, e2, hc2, hS2⟩ := own_slice encN 0 (fun _ => rfl) hrw
            injection e2 with e2 e3 e4
            subst e2
            subst e4
            obtain ⟨b2, o2, rfl, hcell⟩ := hS2 i hlt
            have hc0' := hcell 0 _ rfl
            rw [Nat.mul_one, Nat.add_zero] at hc0'
            obtain ⟨hlt16, hnz⟩ := HMEM.out i hlt
            have HWN := Lib.hid (fun (hc : 4 * al.getD i 0 < W2.length) => m2.next hc)
            have HIX : Hid (∃ c, c = al.getD i 0) := Lib.hid ⟨_, rfl⟩
            obtain ⟨c, hcx⟩ : ∃ c, c = al.getD i 0 := ⟨_, rfl⟩
            rw [← hcx] at hc0' hlt16 hnz HWN
            have hWl : W2.length = 64 := by
              have h1 := m1.st.hW
              rw [HSt.out.len] at h1
              exact h1
            have HWR : Hid (Calls Tryd.prog 26 #[.pointer (some ⟨B, 0, none⟩), .int .i64 (4 * c : Nat), .int .u64 (val9 xv c)] wr fun e w' => e = .returned (.int .i64 0) ∧ MovS w11 w' w.heap.size B Wb Ob p q own x y xv al (i + 1)) := Lib.hid (by
              have h1 := write_in m1.st (4 * c) (val9 xv c) (by omega)
              have hdv : 4 * c / 4 = c := by omega
              rw [hdv] at h1
              have hch : chE own c = 0 := by unfold chE; rw [if_neg hnz]
              rw [hch] at h1
              refine h1.mono ?_
              rintro e w' ⟨he, hst, hm⟩
              have hwr : writeW W2 own 4 (4 * c) (val9 xv c) = W2.set (4 * c) (val9 xv c) := by unfold writeW; rw [hdv, if_neg hnz]
              rw [hwr] at hst
              have f0 := m1.s0.far m1.st
              have f1 := m1.s1.far m1.st
              refine ⟨he, _, ⟨hst, m1.s0.mod hm (fun e => (f0 _ (.inr e)).1 rfl) (fun k hk e => (f0 k (.inr e)).2 hk), m1.s1.mod hm (fun e => (f1 _ (.inr e)).1 rfl) (fun k hk e => (f1 k (.inr e)).2 hk), m1.ne, m1.far⟩, HWN.out (by omega), m3.trans hm⟩)
            have q0 : ¬ (c : Int) < 0 := by omega
            have q1 : (c : Int) < 16 := by omega
            have q2' : ¬ (16 : Int) ≤ (c : Int) := by omega
            have q3 : IntKind.i64.wrap (4 * (c : Int)) = ((4 * c : Nat) : Int) := by rw [IntKind.wrap_i64]; omega
            have q4 : IntKind.u64.wrap (c : Int) = (c : Int) := by have h9 : IntKind.u64.wrap (c : Int) = (c : Int) % 18446744073709551616 := rfl; rw [h9]; omega
            obtain ⟨vv, hvv⟩ : ∃ vv, vv = val9 xv c := ⟨_, rfl⟩
            rw [← hvv] at HWR
            have q5 : IntKind.u64.wrap (xv + (c : Int)) = vv := by rw [hvv]; rfl
            obtain ⟨c4, hc4⟩ : ∃ c4, c4 = 4 * c := ⟨_, rfl⟩
            rw [← hc4] at HWR q3
            have q6 : (i : Int) < (L0.length : Int) + (L1.length : Int) := by rw [HSI.out]; omega
            clear m1 m2 m3 hrw hS2 hcell hcx HWN hvv hc4 hWl hnz HIX
            go_wp2_with fail
            refine HWR.out.mono ?_
            rintro e w5' ⟨rfl, hm5⟩
            have HM5 := Lib.hid hm5
            clear hm5 HWR
            go_wp2
            go_roundw
            case rel => exact ⟨i + 1, by omega, by go_num, HM5⟩
            case measure => simp [intOf]; omega
          · obtain rfl : i = al.length := by omega
            have q6 : ¬ (al.length : Int) < (L0.length : Int) + (L1.length : Int) := by rw [HSI.out]; omega
            have HFR := Lib.hid (free_any m1.st)
            have HPM := Lib.hid m1
            have HWOK := Lib.hid m2
            have HM3 := Lib.hid m3
            obtain ⟨fr, hfr⟩ : ∃ fr, fr = freeN own := ⟨_, rfl⟩
            rw [← hfr] at HFR
            have HFRE := Lib.hid hfr
            clear m1 m2 m3 HM hfr
            go_wp2_with fail
            refine HFR.out.mono ?_
            rintro e w12 ⟨rfl, hb12⟩
            have HB12 := Lib.hid hb12
            have HK12 : Hid (Keeps9 wo w12) := Lib.hid (((Keeps9.of_below (HD9.out.on HBYa.out)).trans ((HPS9.out.on HBYa.out).keeps (HM3.out.mono fun k _ e => .inl e))).trans (.of_below hb12))
            have HP12 := Lib.hid (HK12.out.1 _ _ _ rfl HR9.out.2.1)
            have HBL12 : Hid (Below w.heap.size w w12) := Lib.hid ((Mod.below ((HSt.out.bel.on HD9.out).on HBYa.out) HM3.out (fun k e => HSt.out.phi k (.inl e)) ((HSt.out.bel.on HD9.out).on HBYa.out).size).on hb12)
            obtain ⟨own', x', y', z', t', hp, -, hboth, hxl, hyl, hya, hye, hown'⟩ := join_tw HSt.out.pre w.heap.size B Wb Ob p q G Wg Og W2
            have hj := hp w12 (HPM.out.on hb12) (fun j hj => (HBL12.out.cell (p := ⟨0, j, none⟩) h0).trans (HT.out j hj)) HBL12.out.size
            rw [HSt.out.e0, HSt.out.e1] at hj
            have HJ := Lib.hid hj
            have HBOTH := Lib.hid hboth
            have HXL := Lib.hid hxl
            have HYL := Lib.hid hyl
            have HYA := Lib.hid hya
            have HYE := Lib.hid hye
            have HOWN' := Lib.hid hown'
            have p0 := (blk_cells HP12.out 0).trans rfl
            have p1 := (blk_cells HP12.out 1).trans rfl
            clear hb12 HFR hp hj hboth hxl hyl hya hye hown'
            go_wp2_with fail
            refine HJ.out.mono ?_
            rintro e w13 ⟨rfl, ⟨v1, v2, hP13⟩, hm13⟩
            have HP13 := Lib.hid hP13
            have HM13 := Lib.hid hm13
            have hk13 := ((HPM.out.on HB12.out).keeps hm13).1 _ _ _ rfl HP12.out
            have HKP := Lib.hid hk13
            have HBL13 : Hid (Below w.heap.size w w13) := Lib.hid (Mod.below HBL12.out hm13 HSt.out.phi HBL12.out.size)
            have HCL : Hid (∀ Y, Below w13.heap.size w13 Y → Y.cell? ⟨w3.heap.size, 0, none⟩ = some (.pointer (some ⟨P0, 0, none⟩)) ∧ Y.cell? ⟨w3.heap.size, 1, none⟩ = some (.pointer (some ⟨P1, 0, none⟩))) := Lib.hid (fun Y hY => by
              have g1 := (hY.block _ (block_lt HKP.out)).trans HKP.out
              exact ⟨(blk_cells g1 0).trans rfl, (blk_cells g1 1).trans rfl⟩)
            have HCE : Hid (∀ Y, Below w13.heap.size w13 Y → Calls Tryd.prog 19 #[.pointer (some ⟨P1, 0, none⟩)] Y fun e w' => ∃ A c, e = .returned (.slice A 0 c) ∧ Below w13.heap.size w13 w') := Lib.hid (fun Y hY => by
              have h1 := chunks_sp (HP13.out.on hY).s1 (by show y'.l.length ≤ _; rw [HYL.out]; exact Nat.zero_le _)
              have e1 : y'.P = P1 := HBOTH.out.e2.trans HSt.out.e1
              have h2 : (y'.to v2).P = P1 := e1
              rw [h2] at h1
              refine h1.mono ?_
              rintro e w' ⟨A, c, he, hr, hb⟩
              have h3 : (y'.to v2).l = [] := HYL.out
              rw [h3] at he
              exact ⟨A, c, he, hY.on hb⟩)
            have HRM : Hid (∀ Y, Below w13.heap.size w13 Y → Calls Tryd.prog 32 #[.pointer (some ⟨P1, 0, none⟩)] Y fun e w' => e = .returned (.int .i64 0) ∧ Below w13.heap.size w13 w') := Lib.hid (fun Y hY => by
              have h1 := room_any (HP13.out.on hY).s1
              have h2 : (y'.to v2).P = P1 := HBOTH.out.e2.trans HSt.out.e1
              have h3 : (y'.to v2).e = 0 := HYE.out
              have h4 : (y'.to v2).a = 0 := HYA.out
              rw [h2, h3, h4] at h1
              exact h1.mono fun e w' h => ⟨h.1, hY.on h.2⟩)
            have HFR2 : Hid (∀ Y, Below w13.heap.size w13 Y → Calls Tryd.prog 20 #[.pointer (some ⟨B, 0, none⟩)] Y fun e w' => e = .returned (.int .i64 fr) ∧ Below w13.heap.size w13 w') := Lib.hid (fun Y hY => by
              have h1 := free_any (HP13.out.on hY).st
              have h2 : freeN own' = fr := by rw [HOWN'.out, HFRE.out]; exact given9 HSt.out.pre.j1.inv HSt.out.pre.o1 (by have := HSt.out.pre.o0; omega)
              rw [h2] at h1
              exact h1.mono fun e w' h => ⟨h.1, hY.on h.2⟩)
            clear p0 p1 hP13 hm13 hk13 HJ
            obtain ⟨p0, p1⟩ := HCL.out _ (Below.refl _ _)
            go_wp2_with fail
            refine (HCE.out _ (Below.refl _ _)).mono ?_
            rintro e w14 ⟨A14, c14, rfl, hb14⟩
            have HB14 := Lib.hid hb14
            clear p0 p1 hb14 HCE
            obtain ⟨p0, p1⟩ := HCL.out _ HB14.out
            go_wp2_with fail
            refine (HRM.out _ HB14.out).mono ?_
            rintro e w15 ⟨rfl, hb15⟩
            have HB15 := Lib.hid hb15
            clear p0 p1 hb15 HRM
            go_wp2_with fail
            refine (HFR2.out _ HB15.out).mono ?_
            rintro e w16 ⟨rfl, hb16⟩
            have HB16 := Lib.hid hb16
            clear hb16 HFR2
            have hm916 : Mod (ProgS Wb Ob p q x y) w9 w16 := (((Mod.of_below HBYa.out).trans (HM3.out.mono fun k _ e => .inl e)).trans (.of_below HB12.out)).trans (HM13.out.trans (.of_below HB16.out))
            have hrc := own_mod HROW0.out hm916 (fun k hk e => by
              have h1 := (HROW0.out.lt k hk).1
              have h2 := HPLT.out k e
              omega)
            have hrd := own_mod HROW1.out hm916 (fun k hk e => by
              have h1 := (HROW1.out.lt k hk).1
              have h2 := HPLT.out k e
              omega)
            have HRC := Lib.hid hrc
            have HRD := Lib.hid hrd
            have hf0 : ((fr : Int) != (fr : Int)) = false := by simp
            clear hrc hrd hm916
            have HEb := Lib.hid (own_empty w16 3 1)
            have HCb := Lib.hid (row_src (own_on HRC.out (below1 w16 (.cells #[] 3))))
            have hzzb : w16.heap.size ≤ (w16.alloc (.cells #[] 3)).heap.size := by rw [World.size_alloc]; omega
            go_wp2_with (at_builtin; first | (refine wpList_append_full _ rfl _ _ 22 rfl w16.heap.size 3 i0 (.int .i64 0) 1 8 Tryd.underlying22 HI.out HZ0.out HZ1.out HZ2.out rfl (by decide) (.slice (some ⟨w16.heap.size, 0, none⟩) 0 0) 0 [] rfl HEb.out A8 L0.length c8 (L0.flatMap encN) rfl (encN_len _) HCb.out (encN_one _) (by unfold maxLen; omega) (by omega) hzzb ?_; intro v1b w17 hown1 hg1; have HOWNb := Lib.hid hown1; have hbx1 := (below1 w16 (.cells #[] 3)).grown hg1 hzzb (fun z e => (HEb.out.lt z e).1); have HBXb := Lib.hid hbx1; have HR1b := Lib.hid (row_src (own_on HRD.out hbx1)); have hzyb := hbx1.size; clear hown1 hg1 hbx1) | (refine wpList_append_full _ rfl _ _ 22 rfl w16.heap.size 3 i0 (.int .i64 0) 1 8 Tryd.underlying22 HI.out HZ0.out HZ1.out HZ2.out rfl (by decide) v1b (0 + L0.length) _ rfl HOWNb.out A9 L1.length c9 (L1.flatMap encN) rfl (encN_len _) HR1b.out (encN_one _) (by unfold maxLen; omega) (by omega) hzyb ?_; intro v2b w18 hown2 hg2; obtain ⟨AVb, cvb, rfl⟩ := own_form hown2; have HALLb := Lib.hid hown2; have HBYb := Lib.hid (HBXb.out.grown hg2 hzyb (fun z e => (HOWNb.out.lt z e).1)); clear hown2 hg2; obtain ⟨pk0, pk1⟩ := HCL.out _ (HB16.out.on HBYb.out)))
            have hsN : L0.length + L1.length = al.length := by have := HSI.out; omega
            have hall18 : w18.ownsRow w16.heap.size 3 1 (.slice AVb al.length cvb) al.length (al.flatMap encN) := by
              have h := HALLb.out
              rw [List.nil_append, Nat.zero_add, hsN, ← List.flatMap_append, ← HAL2.out] at h
              exact h
            rw [hsN]
            have HALL18 := Lib.hid hall18
            have HB18 := Lib.hid (HB16.out.on HBYb.out)
            have hchx : chunksL x'.l = al := by rw [HXL.out, chunksL_append, ← HL0.out, ← HL1.out, ← HAL2.out]
            have HCHX := Lib.hid hchx
            have hxlen : x'.l.length ≤ 1000000 := by
              have h1 := HBOTH.out.j0.inv.len
              have h2 := HBOTH.out.len
              have h3 := HSt.out.pre.ol
              omega
            have HC19 : Hid (∀ Y, Below w13.heap.size w13 Y → Calls Tryd.prog 19 #[.pointer (some ⟨P0, 0, none⟩)] Y fun e w' => ∃ A c, e = .returned (.slice A al.length c) ∧ Ints w' (.slice A al.length c) al ∧ Below Y.heap.size Y w') := Lib.hid (fun Y hY => by
              have h1 := chunks_sp (HP13.out.on hY).s0 hxlen
              have h2 : (x'.to v1).P = P0 := HBOTH.out.e1.trans HSt.out.e0
              rw [h2] at h1
              refine h1.mono ?_
              rintro e w' ⟨A, c, he, hr, hb⟩
              have h3 : chunksL (x'.to v1).l = al := HCHX.out
              rw [h3] at he hr
              exact ⟨A, c, he, ints_row hr (by omega), hb⟩)
            clear HALLb hall18 hchx
            refine (HC19.out _ HB18.out).mono ?_
            rintro e w19 ⟨A19, c19, rfl, hI19, hb19⟩
            have HB19 := Lib.hid hb19
            have hsm := same_any hI19 (ints_row (own_on HALL18.out hb19) (by omega))
            rw [decide_eq_true rfl] at hsm
            have HSM := Lib.hid hsm
            clear hI19 hb19 hsm HC19 pk0 pk1
            go_wp2_with fail
            refine HSM.out.mono ?_
            rintro e w20 ⟨rfl, hb20⟩
            have HB20 : Hid (Below w18.heap.size w18 w20) := Lib.hid (HB19.out.on hb20)
            clear hb20 HSM
            obtain ⟨wq, hwq⟩ : ∃ wq, wq = wr := ⟨_, rfl⟩
            subst hwq
            go_wp2_with fail
            go_loopw [125] (fun v125 wr => ∃ i : Nat, i ≤ al.length ∧ v125 = .int .i64 i ∧ Hid (Below w20.heap.size w20 wr)) (fun v125 _ => al.length - (intOf v125).toNat)
            case atStart => exact ⟨0, by omega, rfl, Lib.hid (Below.refl _ _)⟩
            case round =>
              obtain ⟨i, hi, rfl, HBi⟩ := hrel
              have HB13 : Hid (Below w13.heap.size w13 wr) := Lib.hid ((HB18.out.on HB20.out).on HBi.out)
              by_cases hlt : i < al.length
              · have hrw := own_on HALL18.out (HB20.out.on HBi.out)
                obtain ⟨A2, c2, e2, hc2, hS2⟩ := own_slice encN 0 (fun _ => rfl) hrw
                injection e2 with e2 e3 e4
                subst e2
                subst e4
                obtain ⟨b2, o2, rfl, hcell⟩ := hS2 i hlt
                have hc0' := hcell 0 _ rfl
                rw [Nat.mul_one, Nat.add_zero] at hc0'
                obtain ⟨hlt16, hnz⟩ := HMEM.out i hlt
                have hval := HWOK.out i hlt
                have hown1 : own'.getD (al.getD i 0) 0 = 1 := by
                  have hm : al.getD i 0 ∈ al := by
                    have : al.getD i 0 = al[i] := by simp [List.getD, hlt]
                    rw [this]; exact List.getElem_mem hlt
                  generalize al.getD i 0 = c9 at hm ⊢
                  rw [← HCHX.out] at hm
                  have h1 := (HBOTH.out.j0.inv.on _ hm).2
                  rw [h1, HBOTH.out.e5, HSt.out.w0]
                obtain ⟨c, hcx⟩ : ∃ c, c = al.getD i 0 := ⟨_, rfl⟩
                rw [← hcx] at hc0' hlt16 hval hown1
                have hWl : W2.length = 64 := by
                  have h1 := HPM.out.st.hW
                  rw [HSt.out.len] at h1
                  exact h1
                obtain ⟨vv, hvv⟩ : ∃ vv, vv = val9 xv c := ⟨_, rfl⟩
                obtain ⟨c4, hc4⟩ : ∃ c4, c4 = 4 * c := ⟨_, rfl⟩
                have HRD2 : Hid (Calls Tryd.prog 23 #[.pointer (some ⟨B, 0, none⟩), .int .i64 c4] wr fun e w' => e = .returned (.tuple #[.int .u64 vv, .int .i64 0]) ∧ wr = w') := Lib.hid (by
                  have h1 := read_in (HP13.out.on HB13.out).st c4 (by omega)
                  have hdv : c4 / 4 = c := by omega
                  have h2 : chE own' (c4 / 4) = 0 := by unfold chE; rw [hdv, hown1]; rfl
                  have h3 : readV W2 own' 4 c4 = vv := by unfold readV; rw [hdv, hown1, if_neg (by decide), hc4, hval, hvv]
                  rw [h2, h3] at h1
                  exact h1)
                have HOW2 : Hid (Calls Tryd.prog 25 #[.pointer (some ⟨B, 0, none⟩), .int .i64 c] wr fun e w' => e = .returned (.int .i64 1) ∧ wr = w') := Lib.hid (by
                  have h1 := owner_in (HP13.out.on HB13.out).st c (by rw [HBOTH.out.len, HSt.out.len]; exact hlt16)
                  rw [hown1] at h1
                  exact h1)
                have q3 : IntKind.i64.wrap (4 * (c : Int)) = (c4 : Int) := by rw [hc4, IntKind.wrap_i64]; omega
                have q4 : IntKind.u64.wrap (c : Int) = (c : Int) := by have h9 : IntKind.u64.wrap (c : Int) = (c : Int) % 18446744073709551616 := rfl; rw [h9]; omega
                have q5 : IntKind.u64.wrap (xv + (c : Int)) = vv := by rw [hvv]; rfl
                have q7 : ((vv : Int) != (vv : Int)) = false := by simp
                clear hrw hS2 hcell hcx hvv hc4 hWl hnz hval hown1
                go_wp2_with fail
                refine HRD2.out.mono ?_
                rintro e w21 ⟨rfl, rfl⟩
                go_wp2_with fail
                refine HOW2.out.mono ?_
                rintro e w22 ⟨rfl, rfl⟩
                go_wp2
                go_roundw
                case rel => exact ⟨i + 1, by omega, by go_num, HBi⟩
                case measure => simp [intOf]; omega
              · obtain rfl : i = al.length := by omega
                have hcl := clear_any (HP13.out.on HB13.out).s0 (HP13.out.on HB13.out).st HBOTH.out.j0.inv HBOTH.out.j0.pp (Nat.le_trans HBL13.out.size HB13.out.size)
                have h2 : (x'.to v1).P = P0 := HBOTH.out.e1.trans HSt.out.e0
                rw [h2] at hcl
                have HCLR := Lib.hid hcl
                obtain ⟨p0, p1⟩ := HCL.out _ HB13.out
                clear hcl h2
                go_wp2_with fail
                refine HCLR.out.mono ?_
                rintro e w23 ⟨rfl, ⟨v9, hX9, hv9⟩, hS9, hM9⟩
                have h2 : (x'.to v1).P = P0 := HBOTH.out.e1.trans HSt.out.e0
                have hone := (HP13.out.on HB13.out).one (by rw [h2]; exact hX9) hS9 (hM9.mono fun k _ e => by
                  rw [h2]
                  rcases e with e | e
                  · exact .inl e
                  · exact .inr (.inl e)) hv9
                have hk23 := ((HP13.out.on HB13.out).keeps hone.2).1 _ _ _ rfl ((HB13.out.block _ (block_lt HKP.out)).trans HKP.out)
                have HK23 := Lib.hid hk23
                have HX9 := Lib.hid hX9
                have HS9 := Lib.hid hS9
                have hBF : Below w.heap.size w w23 := by
                  refine Mod.below (HBL13.out.on HB13.out) hone.2 (fun k e => ?_) (HBL13.out.on HB13.out).size
                  rcases e with e | e | e | e | e
                  · exact HSt.out.hi k (.inl (.inr e))
                  · exact HSt.out.hi k (.inr (.inr (.inr (.inr (.inl (e.trans (HBOTH.out.e1.trans HSt.out.e0)))))))
                  · exact HSt.out.hi k (.inr (.inr (.inr (.inr (.inr (.inl (e.trans (HBOTH.out.e2.trans HSt.out.e1))))))))
                  · exact (HP13.out.s0.row.lt k e).1
                  · exact (HP13.out.s1.row.lt k e).1
                have HBF := Lib.hid hBF
                clear hX9 hS9 hM9 hv9 hone hk23 hBF h2 HCLR p0 p1
                have HFR9 : Hid (∀ Y, Below w23.heap.size w23 Y → Calls Tryd.prog 20 #[.pointer (some ⟨B, 0, none⟩)] Y fun e w' => e = .returned (.int .i64 (fr + al.length : Nat)) ∧ Below w23.heap.size w23 w') := Lib.hid (fun Y hY => by
                  have h1 := free_any (HS9.out.on hY)
                  have h3 : freeN (giveL own' 0 x'.l) = fr + al.length := by
                    rw [freed9 HBOTH.out.j0.inv (by rw [HBOTH.out.e5]; exact HSt.out.pre.o0), HCHX.out, HFRE.out]
                    congr 1
                    rw [HOWN'.out]; exact given9 HSt.out.pre.j1.inv HSt.out.pre.o1 (by have := HSt.out.pre.o0; omega)
                  have h4 : freeN (giveL own' 0 (x'.to v1).l) = fr + al.length := h3
                  rw [h4] at h1
                  exact h1.mono fun e w' h => ⟨h.1, hY.on h.2⟩)
                have HC9 : Hid (Calls Tryd.prog 19 #[.pointer (some ⟨P0, 0, none⟩)] w23 fun e w' => ∃ A c, e = .returned (.slice A 0 c) ∧ Below w23.heap.size w23 w') := Lib.hid ((chunks_sp HX9.out (Nat.zero_le _)).mono fun e w' ⟨A, c, he, hr, hb⟩ => ⟨A, c, he, hb⟩)
                have HR9' : Hid (∀ Y, Below w23.heap.size w23 Y → Calls Tryd.prog 32 #[.pointer (some ⟨P0, 0, none⟩)] Y fun e w' => e = .returned (.int .i64 0) ∧ Below w23.heap.size w23 w') := Lib.hid (fun Y hY => (room_any (HX9.out.on hY)).mono fun e w' h => ⟨h.1, hY.on h.2⟩)
                have HCL9 : Hid (∀ Y, Below w23.heap.size w23 Y → Y.cell? ⟨w3.heap.size, 0, none⟩ = some (.pointer (some ⟨P0, 0, none⟩))) := Lib.hid (fun Y hY => (blk_cells ((hY.block _ (block_lt HK23.out)).trans HK23.out) 0).trans rfl)
                have p0 := HCL9.out _ (Below.refl _ _)
                have q9 : IntKind.i64.wrap ((fr : Int) + (al.length : Int)) = ((fr + al.length : Nat) : Int) := by
                  have h1 : fr ≤ 1024 := by rw [HFRE.out]; unfold freeN; have := HSt.out.pre.ol; omega
                  rw [IntKind.wrap_i64]; omega
                obtain ⟨fz, hfz⟩ : ∃ fz, fz = fr + al.length := ⟨_, rfl⟩
                rw [← hfz] at HFR9 q9
                have q10 : ((fz : Int) == (fz : Int)) = true := by simp
                clear hfz
                go_wp2_with fail
                refine HC9.out.mono ?_
                rintro e w24 ⟨A24, c24, rfl, hb24⟩
                have HB24 := Lib.hid hb24
                clear hb24 HC9 p0
                go_wp2_with fail
                refine (HFR9.out _ HB24.out).mono ?_
                rintro e w25 ⟨rfl, hb25⟩
                have HB25 := Lib.hid hb25
                have p0 := HCL9.out _ hb25
                clear hb25 HFR9
                go_wp2_with fail
                refine (HR9'.out _ HB25.out).mono ?_
                rintro e w26 ⟨rfl, hb26⟩
                go_wp2
                go_ret
                exact ⟨rfl, HBF.out.on hb26⟩
end Go.Proofs.YtkaflgbipjppmaaDoor
