/- BumpApart: a walk. -/
import Derived.Test.YtkaflgbipjppmaaDoorBq
import Derived.Test.YtkaflgbipjppmaaDoorB1
namespace Go.Proofs.YtkaflgbipjppmaaDoor
open Go.RowKit
set_option linter.unusedVariables false
set_option linter.unusedSimpArgs false
variable {base w w' : World} {B Wb Ob p q size P0 P1 bd i : Nat} {ps : List (Nat × Nat)} {v8 v9 : Value}
/-- The rows of the pieces' places and sizes. -/
structure Rows2 (w : World) (bd : Nat) (v8 v9 : Value) (ps : List (Nat × Nat)) : Prop where
  r8 : w.ownsRow bd 3 1 v8 ps.length ((ps.map Prod.fst).flatMap encN)
  r9 : w.ownsRow bd 3 1 v9 ps.length ((ps.map Prod.snd).flatMap encN)
  ne : ∀ k, v8.ownBlock = some k → v9.ownBlock ≠ some k
  pb : ∀ y ∈ ps, 1 ≤ y.2 ∧ y.2 ≤ 30
theorem Rows2.keep (h : Rows2 w bd v8 v9 ps) (hk : KeepR bd w w') : Rows2 w' bd v8 v9 ps := ⟨hk _ _ _ h.r8, hk _ _ _ h.r9, h.ne, h.pb⟩
theorem w64_nat (a : Nat) (h : a ≤ 1000000) : wrap64 (a : Int) = (a : Int) := by simp only [wrap64]; omega
theorem k64_nat (a : Nat) (h : a ≤ 1000000) : IntKind.i64.wrap (a : Int) = (a : Int) := by rw [IntKind.wrap_i64]; omega
theorem tdiv_nat (a b : Nat) : (a : Int).tdiv (b : Int) = ((a / b : Nat) : Int) := by rw [Int.tdiv_eq_ediv_of_nonneg (by omega)]; simp
def Box2 (w : World) (bd P0 P1 : Nat) : Prop := w.heap[bd]? = some (.cells #[.pointer (some ⟨P0, 0, none⟩), .pointer (some ⟨P1, 0, none⟩)] 25 (0, 0))
theorem Rows2.s8 (h : Rows2 w bd v8 v9 ps) : ∃ A c, v8 = .slice A ps.length c ∧ SliceOf w A 1 encN 0 (ps.map Prod.fst) := by
  obtain ⟨A, c, h1, h2, h3⟩ := own_slice (l := ps.map Prod.fst) encN 0 (fun _ => rfl) (by rw [List.length_map]; exact h.r8)
  rw [List.length_map] at h1
  exact ⟨A, c, h1, h3⟩
theorem Rows2.s9 (h : Rows2 w bd v8 v9 ps) : ∃ A c, v9 = .slice A ps.length c ∧ SliceOf w A 1 encN 0 (ps.map Prod.snd) := by
  obtain ⟨A, c, h1, h2, h3⟩ := own_slice (l := ps.map Prod.snd) encN 0 (fun _ => rfl) (by rw [List.length_map]; exact h.r9)
  rw [List.length_map] at h1
  exact ⟨A, c, h1, h3⟩
theorem own_apart {w w' : World} {b2 : Nat} {t2 : TypeId} {s2 n2 : Nat} {v1 v2 : Value} {xs2 : List Value} (h2 : w.ownsRow b2 t2 s2 v2 n2 xs2) (hne : ∀ k, v1.ownBlock = some k → v2.ownBlock ≠ some k) (hg : w.grownBy w' v1.ownBlock) : w'.ownsRow b2 t2 s2 v2 n2 xs2 :=
  own_mod h2 (P := fun k => v1.ownBlock = some k) ⟨hg.os, hg.tape, hg.output, hg.size, fun k hk hn => hg.block k hk (fun e => hn e.symm)⟩ (fun k hk e => hne k e hk)
theorem ApSt.grow {v : Value} {n : Nat} {xs : List Value} (h : ApSt base B Wb Ob p q size P0 P1 bd i ps w) (hr : w.ownsRow bd 3 1 v n xs) (hg : w.grownBy w' v.ownBlock) (hbd : base.heap.size ≤ bd) : ApSt base B Wb Ob p q size P0 P1 bd i ps w' := by
  obtain ⟨W, own, v0, v1, l0, l1, a0, e0, a1, e1, h1, h2⟩ := h
  have hm : Mod (fun k => v.ownBlock = some k) w w' := ⟨hg.os, hg.tape, hg.output, hg.size, fun k hk hn => hg.block k hk (fun e => hn e.symm)⟩
  refine ⟨W, own, v0, v1, l0, l1, a0, e0, a1, e1, { h1 with tw := h1.tw.set hm (fun k hk e => ?_) (fun k hk e => row_rows h1.tw.two.s0.row hr (by decide) k e hk) (fun k hk e => row_rows h1.tw.two.s1.row hr (by decide) k e hk) (fun k e => Nat.le_trans hbd (hr.lt k e).1) }, h2⟩
  rcases hk with (rfl | hk) | rfl | rfl
  · exact own_type hr h1.tw.two.st.head (by decide) e
  · have h3 := h1.lt k hk
    have h4 := (hr.lt k e).1
    omega
  · exact own_type hr h1.tw.two.s0.head (by decide) e
  · exact own_type hr h1.tw.two.s1.head (by decide) e
theorem Box2.grow {v : Value} {n : Nat} {xs : List Value} (h : Box2 w bd P0 P1) (hr : w.ownsRow bd 3 1 v n xs) (hg : w.grownBy w' v.ownBlock) : Box2 w' bd P0 P1 :=
  (hg.block _ (block_lt h) (fun e => own_type hr h (by decide) e.symm)).trans h
theorem ap_close {wr w5 w6 : World} {o1 o2 : Obj} {v8' v9' : Value} {x n : Nat} {ow : Int} (hP : ApPend base B Wb Ob p q size P0 P1 bd i ps x n n ow wr) (ho : ow ≠ 0) (hR : Rows2 wr bd v8 v9 ps) (hB : Box2 wr bd P0 P1) (hbd : base.heap.size ≤ bd) (hn : 1 ≤ n ∧ n ≤ 30)
    (hown8 : w5.ownsRow bd 3 1 v8' (ps.length + 1) ((ps.map Prod.fst).flatMap encN ++ [.int .i64 x])) (hg1 : (wr.alloc o1).grownBy w5 v8.ownBlock) (hat8 : ∀ k, v8'.ownBlock = some k → v8.ownBlock = some k ∨ k = (wr.alloc o1).heap.size)
    (hown9 : w6.ownsRow bd 3 1 v9' (ps.length + 1) ((ps.map Prod.snd).flatMap encN ++ [.int .i64 n])) (hg2 : (w5.alloc o2).grownBy w6 v9.ownBlock) (hat9 : ∀ k, v9'.ownBlock = some k → v9.ownBlock = some k ∨ k = (w5.alloc o2).heap.size) :
    ApSt base B Wb Ob p q size P0 P1 bd i (ps ++ [(x, n)]) w6 ∧ Rows2 w6 bd v8' v9' (ps ++ [(x, n)]) ∧ Box2 w6 bd P0 P1 := by
  have hb1 := below1 wr o1
  have hb2 := below1 w5 o2
  have r8 := own_on hR.r8 hb1
  have r9 := own_on hR.r9 hb1
  have r9' := own_on (own_apart r9 hR.ne hg1) hb2
  have h1 := (((hP.close ho).on hb1).grow r8 hg1 hbd).on hb2
  have hB1 : Box2 (wr.alloc o1) bd P0 P1 := (hb1.block _ (block_lt hB)).trans hB
  have hB2 := hB1.grow r8 hg1
  have hB3 : Box2 (w5.alloc o2) bd P0 P1 := (hb2.block _ (block_lt hB2)).trans hB2
  have hne1 : ∀ k, v8'.ownBlock = some k → v9.ownBlock ≠ some k := fun k hk e => by
    rcases hat8 k hk with g | g
    · exact hR.ne k g e
    · have h3 := (hR.r9.lt k e).2
      have h4 : (wr.alloc o1).heap.size = wr.heap.size + 1 := World.size_alloc _ _
      omega
  have hne2 : ∀ k, v8'.ownBlock = some k → v9'.ownBlock ≠ some k := fun k hk e => by
    rcases hat9 k e with g | g
    · exact hne1 k hk g
    · have h3 := (hown8.lt k hk).2
      have h4 : (w5.alloc o2).heap.size = w5.heap.size + 1 := World.size_alloc _ _
      omega
  refine ⟨h1.grow r9' hg2 hbd, ⟨?_, ?_, hne2, fun y hy => ?_⟩, hB3.grow r9' hg2⟩
  · have := own_apart (own_on hown8 hb2) (v1 := v9) (fun k hk e => hne1 k e hk) hg2
    simpa [encN] using this
  · simpa [encN] using hown9
  · rcases List.mem_append.1 hy with g | g
    · exact hR.pb y g
    · rw [List.mem_singleton.1 g]; exact hn
theorem ap_pick (h : ApSt base B Wb Ob p q size P0 P1 bd i ps w) (hT : Tab base) (h0 : 0 < base.heap.size) (n : Nat) (hn1 : 1 ≤ n) (hn2 : n ≤ 30) (hi : i ≤ 60) (hB : Box2 w bd P0 P1) :
    ∃ b Px : Nat, b < 2 ∧ Go.bits .and .i64 (i : Int) 1 = (b : Int) ∧ w.cell? ⟨bd, b, none⟩ = some (.pointer (some ⟨Px, 0, none⟩)) ∧
    Calls Tryd.prog 18 #[.pointer (some ⟨Px, 0, none⟩), .int .i64 n] w fun e w' => Keeps w w' ∧ KeepR bd w w' ∧ ((e = .returned (.tuple #[.int .i64 0, .int .i64 11]) ∧ ApSt base B Wb Ob p q size P0 P1 bd (i + 1) ps w') ∨ ∃ x : Nat, e = .returned (.tuple #[.int .i64 x, .int .i64 0]) ∧ x + n ≤ 24 * size ∧ (n ≤ size → x / size = (x + n - 1) / size) ∧ ApPend base B Wb Ob p q size P0 P1 bd (i + 1) ps x n 0 (1 + (b : Int)) w') := by
  have ha := and_one64 (i : Int) (by omega) (by omega)
  rcases Nat.mod_two_eq_zero_or_one i with e | e
  · exact ⟨0, P0, by decide, by rw [ha]; omega, (blk_cells hB 0).trans rfl, h.step0 hT h0 n hn1 hn2 hi⟩
  · exact ⟨1, P1, by decide, by rw [ha]; omega, (blk_cells hB 1).trans rfl, h.step1 hT h0 n hn1 hn2 hi⟩
set_option maxRecDepth 100000 in
set_option maxHeartbeats 4000000 in
theorem apart_walk (wd : Int) (A : Option Addr) (al : List Int) (c : Nat) (hc : al.length ≤ c) (hm : al.length ≤ maxLen) (hS : SliceOf w A 1 encI 0 al) (hT : Tab w) :
    Calls Tryd.prog 5 #[.int .i64 wd, .slice A al.length c] w fun e w' => e = .returned (.bool true) ∧ Below w.heap.size w w' := by
  unfold maxLen at hm
  obtain ⟨i0, hi, hz0, hz1, hz2⟩ := info_parts infoI
  have HI := Lib.hid hi
  have HZ0 := Lib.hid hz0
  have HZ1 := Lib.hid hz1
  have HZ2 := Lib.hid hz2
  clear hi hz0 hz1 hz2
  obtain ⟨size, hk⟩ : ∃ k : Nat, (k : Int) = 1 + max 0 wd % 10 := ⟨(1 + max 0 wd % 10).toNat, by have := Int.emod_nonneg (max 0 wd) (show (10 : Int) ≠ 0 by decide); omega⟩
  have hs1 : 1 ≤ size := by have := Int.emod_nonneg (max 0 wd) (show (10 : Int) ≠ 0 by decide); omega
  have hs10 : size ≤ 10 := by have := Int.emod_lt_of_pos (max 0 wd) (show (0 : Int) < 10 by decide); omega
  have HK := Lib.hid hk
  have HT := Lib.hid hT
  have HS := Lib.hid hS
  have h0 : 0 < w.heap.size := lt_of_cell (hT 0 (by decide))
  have HAL : Hid (∀ Y, Below w.heap.size w Y → Calls Tryd.prog 17 #[] Y fun e w' => e = .returned (.bool true) ∧ Below Y.heap.size Y w') := Lib.hid (fun Y hY => alive9_any (fun j hj => (hY.cell (p := ⟨0, j, none⟩) h0).trans (hT j hj)))
  have hmax : (if (0 : Int) < wd then wd else 0) = max 0 wd := by omega
  clear hT hS hk
  go_enter Tryd.func5, Tryd.ntmps5
  go_wp2_with fail
  rw [← HK.out]
  refine (made9 24 size w.heap.size w (by decide) (by decide) hs1 (by omega)).mono ?_
  rintro e w1 ⟨B, Wb, Ob, p, q, P0, P1, rfl, h2, hb, hF, hp0, hp1⟩
  have hTW : TW w w1 B Wb Ob p q (List.replicate (24 * size) 0) size (List.replicate 24 0) P0 P1 (.slice none 0 0) (.slice none 0 0) [] [] 0 0 0 0 := ⟨h2, hb, fun k e => by rcases e with e | e | e; exact hF k e; omega; omega⟩
  have hlt4 : ∀ k, Four3 Wb Ob p q k → k < w1.heap.size := fun k e => by
    obtain ⟨u, hu⟩ := h2.st.map
    rcases e with rfl | rfl | rfl | rfl
    · exact block_lt h2.st.body
    · exact block_lt h2.st.owners
    · exact hu.plt
    · exact hu.qlt
  have HF0 : Hid (ApSt w B Wb Ob p q size P0 P1 w1.heap.size 0 [] w1) := Lib.hid ⟨_, _, _, _, [], [], 0, 0, 0, 0, ⟨hTW, by simp, by simp, by simp, hlt4⟩, Pcs.start _ _ _⟩
  have ha := heap_alloc_new w1 (.cells #[.pointer (some ⟨P0, 0, none⟩), .pointer (some ⟨P1, 0, none⟩)] 25)
  have hba := below1 w1 (.cells #[.pointer (some ⟨P0, 0, none⟩), .pointer (some ⟨P1, 0, none⟩)] 25)
  have hBa := hb.on hba
  have hb1 := hb.size
  clear h2 hb hF hp0 hp1 hTW hmax hlt4
  go_wp2_with fail
  refine (HAL.out _ hBa).mono ?_
  rintro e w2 ⟨rfl, hb2⟩
  have hB2 := hBa.on hb2
  have HF2 : Hid (ApSt w B Wb Ob p q size P0 P1 w1.heap.size 0 [] w2) := Lib.hid ((HF0.out.on hba).on hb2)
  have HA2 : Hid (Box2 w2 w1.heap.size P0 P1) := Lib.hid ((hb2.block _ (block_lt ha)).trans ha)
  have hz2 := block_lt HA2.out
  clear ha hba hBa hb2 HF0
  by_cases hlong : 60 < al.length
  · have hl' : (60 : Int) < (al.length : Int) := by omega
    go_wp2_with fail
    refine (HAL.out _ hB2).mono ?_
    rintro e w3 ⟨rfl, hb3⟩
    go_wp2
    go_ret
    exact ⟨rfl, hB2.on hb3⟩
  · have hl' : decide ((60 : Int) < (al.length : Int)) = false := decide_eq_false (by omega)
    have hl2 : al.length ≤ 60 := by omega
    have HR2 : Hid (Rows2 w2 w1.heap.size (.slice none 0 0) (.slice none 0 0) []) := Lib.hid ⟨World.ownsRow_nil _ _ _ _, World.ownsRow_nil _ _ _ _, (fun k e => by cases e), fun y hy => by cases hy⟩
    go_wp2_with fail
    go_loopw [8, 9, 47] (fun v8 v9 v47 wr => ∃ (i : Nat) (ps : List (Nat × Nat)), i ≤ al.length ∧ v47 = .int .i64 i ∧ ps.length ≤ i ∧ Hid (ApSt w B Wb Ob p q size P0 P1 w1.heap.size i ps wr) ∧ Hid (Rows2 wr w1.heap.size v8 v9 ps) ∧ Hid (Box2 wr w1.heap.size P0 P1)) (fun _ _ v47 _ => al.length - (intOf v47).toNat)
    case atStart => exact ⟨0, [], by omega, rfl, by simp, HF2, HR2, HA2⟩
    case round =>
      obtain ⟨i, ps, hi, rfl, hpl, HFr, HRr, HAr⟩ := hrel
      have hBr : Below w.heap.size w wr := HFr.out.below
      by_cases hlt : i < al.length
      · obtain ⟨b2, o2, rfl, e0⟩ := HS.out.on hBr i hlt
        have e1 := e0 0 _ rfl
        rw [Nat.add_zero, Nat.mul_one] at e1
        generalize al.getD i 0 = y at e0 e1
        obtain ⟨n, hn⟩ : ∃ n : Nat, (n : Int) = 1 + max 0 y % 30 := ⟨(1 + max 0 y % 30).toNat, by have := Int.emod_nonneg (max 0 y) (show (30 : Int) ≠ 0 by decide); omega⟩
        have hn1 : 1 ≤ n := by have := Int.emod_nonneg (max 0 y) (show (30 : Int) ≠ 0 by decide); omega
        have hn30 : n ≤ 30 := by have := Int.emod_lt_of_pos (max 0 y) (show (0 : Int) < 30 by decide); omega
        have HN := Lib.hid hn
        have hmax2 : (if (0 : Int) < y then y else 0) = max 0 y := by omega
        obtain ⟨b, Px, hb2, hand, kb, hst⟩ := ap_pick HFr.out HT.out h0 n hn1 hn30 (by omega) HAr.out
        have HST := Lib.hid hst
        have HAND := Lib.hid hand
        clear e0 hn hst
        go_wp2_with fail
        rw [← HN.out]
        refine HST.out.mono ?_
        rintro e w4 ⟨hK4, hR4, hh⟩
        have HR4 := Lib.hid (HRr.out.keep hR4)
        have HA4 : Hid (Box2 w4 w1.heap.size P0 P1) := Lib.hid (hK4.1 _ _ _ rfl HAr.out)
        clear hK4 hR4 HST kb e1 hmax2 hand HRr
        rcases hh with ⟨rfl, hS4⟩ | ⟨x, rfl, hx1, hx2, hP4⟩
        · have HS4 := Lib.hid hS4
          clear hS4
          go_wp2
          go_roundw
          case rel => exact ⟨i + 1, ps, by omega, by go_num, by omega, HS4, HR4, HA4⟩
          case measure => simp [intOf]; omega
        · have HP4 := Lib.hid hP4
          have HX1 := Lib.hid hx1
          obtain ⟨xn, hxn⟩ : ∃ xn, xn = x + n := ⟨_, rfl⟩
          obtain ⟨xm, hxm⟩ : ∃ xm, xm = x + n - 1 := ⟨_, rfl⟩
          obtain ⟨s24, hs24⟩ : ∃ s24, s24 = 24 * size := ⟨_, rfl⟩
          obtain ⟨cx, hcx⟩ : ∃ cx, cx = x / size := ⟨_, rfl⟩
          obtain ⟨cy, hcy⟩ : ∃ cy, cy = (x + n - 1) / size := ⟨_, rfl⟩
          have f1 : decide ((x : Int) < 0) = false := decide_eq_false (by omega)
          have f23 : decide ((s24 : Int) < (x : Int) + (n : Int)) = false := decide_eq_false (by omega)
          have f3 : ¬ (size : Int) = 0 := by omega
          have f3' : ¬ size = 0 := by omega
          have hcx2 : cx ≤ x := by rw [hcx]; exact Nat.div_le_self _ _
          have hcy2 : cy ≤ xm := by rw [hcy, hxm]; exact Nat.div_le_self _ _
          have r1 : IntKind.i64.wrap ((x : Int) + (n : Int)) = (x : Int) + (n : Int) := by rw [show (x : Int) + (n : Int) = (xn : Int) by omega]; exact k64_nat _ (by omega)
          have r2 : IntKind.i64.wrap (24 * (size : Int)) = (s24 : Int) := by rw [show 24 * (size : Int) = (s24 : Int) by omega]; exact k64_nat _ (by omega)
          have r4 : IntKind.i64.wrap ((x : Int) + (n : Int) - 1) = (xm : Int) := by rw [show (x : Int) + (n : Int) - 1 = (xm : Int) by omega]; exact k64_nat _ (by omega)
          have r8 : IntKind.i64.wrap (cy : Int) = (cy : Int) := k64_nat _ (by omega)
          have hw1 : wrap64 ((x : Int) + (n : Int) - 1) = (xm : Int) := by rw [show (x : Int) + (n : Int) - 1 = (xm : Int) by omega]; exact w64_nat _ (by omega)
          have r5 : (x : Int).tdiv (size : Int) = (cx : Int) := by rw [tdiv_nat, hcx]
          have r6 : (xm : Int).tdiv (size : Int) = (cy : Int) := by rw [tdiv_nat, hcy, hxm]
          have r7 : IntKind.i64.wrap (cx : Int) = (cx : Int) := k64_nat _ (by omega)
          have hw2 : wrap64 (cy : Int) = (cy : Int) := w64_nat _ (by omega)
          rw [← hcx, ← hcy] at hx2
          clear hP4 hx1 hxm hxn hcx hcy hcx2 hcy2 hs24
          have hcase : decide (n ≤ size) = true ∧ cx = cy ∨ decide (n ≤ size) = false := by
            by_cases e : n ≤ size
            · exact .inl ⟨decide_eq_true e, hx2 e⟩
            · exact .inr (decide_eq_false e)
          have hxb : x ≤ 240 := by have := HX1.out; omega
          have hbd : w.heap.size ≤ w1.heap.size := hb1
          obtain ⟨A8, c8, rfl, -⟩ := HR4.out.s8
          obtain ⟨A9', c9, rfl, -⟩ := HR4.out.s9
          obtain ⟨wo, hwo⟩ : ∃ wo, wo = wr := ⟨_, rfl⟩
          subst hwo
          clear hx2
          rcases hcase with ⟨hns', rfl⟩ | hns'
          all_goals
            go_wp2_with fail
            go_quiet (fail)
            go_wp2_with fail
            clear f1 f23 f3 f3' r1 r2 hw1 r5 r6 r7 hw2 hns' r4 r8
            go_loopw [99] (fun v99 wr => ∃ m : Nat, m ≤ n ∧ v99 = .int .i64 m ∧ Hid (ApPend w B Wb Ob p q size P0 P1 w1.heap.size (i + 1) ps x n m (1 + (b : Int)) wr) ∧ Hid (Rows2 wr w1.heap.size (.slice A8 ps.length c8) (.slice A9' ps.length c9) ps) ∧ Hid (Box2 wr w1.heap.size P0 P1)) (fun v99 _ => n - (intOf v99).toNat)
            case atStart => exact ⟨0, by omega, rfl, Lib.hid (HP4.out.on (below_drewN (Below.refl _ _) _)), Lib.hid (HR4.out.keep (.of_below (below_drewN (Below.refl _ _) _))), HA4⟩
            case round =>
              obtain ⟨m, hm2, rfl, HPm, HRm, HAm⟩ := hrel
              clear HP4 HR4 HA4
              by_cases hmn : m < n
              · obtain ⟨d, hd⟩ : ∃ d, d = (x + m) / size := ⟨_, rfl⟩
                have hd2 : d ≤ x + m := by rw [hd]; exact Nat.div_le_self _ _
                have hdv : ((x : Int) + (m : Int)).tdiv (size : Int) = (d : Int) := by rw [show (x : Int) + (m : Int) = ((x + m : Nat) : Int) by omega, tdiv_nat, hd]
                have HOW := Lib.hid (HPm.out.owner hmn)
                rw [← hd] at HOW
                have HWR : Hid (Calls Tryd.prog 26 #[.pointer (some ⟨B, 0, none⟩), .int .i64 ((x : Int) + (m : Int)), .int .u64 ((ps.length : Int) + 1)] wr fun e w' => e = .returned (.int .i64 0) ∧ ApPend w B Wb Ob p q size P0 P1 w1.heap.size (i + 1) ps x n (m + 1) (1 + (b : Int)) w' ∧ Keeps wr w' ∧ KeepR w1.heap.size wr w') := Lib.hid (by
                  have := HPm.out.write hmn (by omega)
                  rwa [show ((x + m : Nat) : Int) = (x : Int) + (m : Int) by omega] at this)
                have hand := HAND.out
                have hf3 : ¬ (size : Int) = 0 := by omega
                have hf3' : ¬ size = 0 := by omega
                clear hd
                go_wp2_with fail
                refine HOW.out.mono ?_
                rintro e w5 ⟨rfl, rfl⟩
                go_wp2_with fail
                refine HWR.out.mono ?_
                rintro e w5 ⟨rfl, hP5, hK5, hR5⟩
                have HP5 := Lib.hid hP5
                have HR5 := Lib.hid (HRm.out.keep hR5)
                have HA5 : Hid (Box2 w5 w1.heap.size P0 P1) := Lib.hid (hK5.1 _ _ _ rfl HAm.out)
                clear hP5 hK5 hR5 HOW HWR hand hdv
                go_wp2
                go_roundw
                case rel => exact ⟨m + 1, by omega, by go_num, HP5, HR5, HA5⟩
                case measure => simp [intOf]; omega
              · obtain rfl : n = m := by omega
                have hz3 := block_lt HAm.out
                go_wp2_with (first
                  | (at_builtin; refine wpList_append_two _ rfl _ _ 22 rfl w1.heap.size 3 i0 (.int .i64 0) 1 8 Tryd.underlying22 HI.out HZ0.out HZ1.out HZ2.out rfl (by decide) _ _ _ rfl (own_on HRm.out.r8 (below1 wr (.cells #[.int .i64 x] 3))) ⟨wr.heap.size, 0, none⟩ 1 1 [.int .i64 x] rfl rfl (World.news_of_block (heap_alloc_new wr (.cells #[.int .i64 x] 3))) (by simp [Value.oneCell']) (by unfold maxLen; omega) (by omega) (by simp; omega) (by decide) ?_; intro v8' w5 hown8 hg1 hat8; have HO8 := Lib.hid hown8; have HG8 := Lib.hid hg1; have HT8 := Lib.hid hat8; clear hown8 hg1 hat8)
                  | (at_builtin; refine wpList_append_two _ rfl _ _ 22 rfl w1.heap.size 3 i0 (.int .i64 0) 1 8 Tryd.underlying22 HI.out HZ0.out HZ1.out HZ2.out rfl (by decide) _ _ _ rfl (own_on (own_apart (own_on HRm.out.r9 (below1 wr (.cells #[.int .i64 x] 3))) HRm.out.ne HG8.out) (below1 w5 (.cells #[.int .i64 n] 3))) ⟨w5.heap.size, 0, none⟩ 1 1 [.int .i64 n] rfl rfl (World.news_of_block (heap_alloc_new w5 (.cells #[.int .i64 n] 3))) (by simp [Value.oneCell']) (by unfold maxLen; omega) (by omega) (by have := HG8.out.size; simp at this ⊢; omega) (by decide) ?_; intro v9' w6 hown9 hg2 hat9; have HFIN := Lib.hid (ap_close HPm.out (by omega) HRm.out HAm.out hbd ⟨hn1, hn30⟩ HO8.out HG8.out HT8.out hown9 hg2 hat9); clear hown9 hg2 hat9 HO8 HG8 HT8))
                go_roundw
                case rel => exact ⟨i + 1, ps ++ [(x, n)], by omega, by go_num, by simp; omega, Lib.hid HFIN.out.1, Lib.hid HFIN.out.2.1, Lib.hid HFIN.out.2.2⟩
                case measure => simp [intOf]; omega
      · obtain rfl : i = al.length := by omega
        obtain ⟨A8, c8, rfl, hS8⟩ := HRr.out.s8
        obtain ⟨A9', c9, rfl, hS9⟩ := HRr.out.s9
        have HS8 := Lib.hid hS8
        have HS9 := Lib.hid hS9
        have HPB := Lib.hid HRr.out.pb
        obtain ⟨wo, hwo⟩ : ∃ wo, wo = wr := ⟨_, rfl⟩
        subst hwo
        have HBW := Lib.hid hBr
        have hps : ps.length ≤ 60 := by omega
        clear hS8 hS9 HRr HAr hBr hlt
        go_wp2_with fail
        go_loopw [137] (fun v137 wr => ∃ j : Nat, j ≤ ps.length ∧ v137 = .int .i64 j ∧ wo = wr) (fun v137 _ => ps.length - (intOf v137).toNat)
        case atStart => exact ⟨0, by omega, rfl, rfl⟩
        case round =>
          obtain ⟨j, hj, rfl, rfl⟩ := hrel
          by_cases hlt2 : j < ps.length
          · obtain ⟨p8, o8, rfl, g8⟩ := HS8.out j (by rw [List.length_map]; exact hlt2)
            obtain ⟨p9, o9, rfl, g9⟩ := HS9.out j (by rw [List.length_map]; exact hlt2)
            have c8' := g8 0 _ rfl
            have c9' := g9 0 _ rfl
            rw [Nat.add_zero, Nat.mul_one] at c8' c9'
            have hj? : ps[j]? = some (ps[j].1, ps[j].2) := by rw [List.getElem?_eq_getElem hlt2]
            have d8 : (ps.map Prod.fst).getD j 0 = ps[j].1 := by simp [List.getD, hlt2]
            have d9 : (ps.map Prod.snd).getD j 0 = ps[j].2 := by simp [List.getD, hlt2]
            have hb9 := HPB.out _ (List.getElem_mem hlt2)
            rw [d8] at c8'
            rw [d9] at c9'
            generalize ps[j].1 = x at *
            generalize ps[j].2 = n at *
            have hsm := HFr.out.small hj? hb9.1
            have HJ := Lib.hid hj?
            clear hj? d8 d9 g8 g9 HS8 HS9
            have hcv : IntKind.u64.wrap ((j : Int) + 1) = (j : Int) + 1 := by rw [IntKind.wrap_u64]; omega
            go_wp2_with fail
            go_loopw [146] (fun v146 wr => ∃ k : Nat, k ≤ n ∧ v146 = .int .i64 k ∧ wo = wr) (fun v146 _ => n - (intOf v146).toNat)
            case atStart => exact ⟨0, by omega, rfl, rfl⟩
            case round =>
              obtain ⟨k, hk, rfl, rfl⟩ := hrel
              by_cases hkn : k < n
              · have HRD := Lib.hid (HFr.out.read HJ.out hkn)
                rw [show ((x + k : Nat) : Int) = (x : Int) + (k : Int) by omega] at HRD
                go_wp2_with fail
                refine HRD.out.mono ?_
                rintro e w5 ⟨rfl, rfl⟩
                go_wp2
                go_roundw
                case rel => exact ⟨k + 1, by omega, by go_num, trivial⟩
                case measure => simp [intOf]; omega
              · obtain rfl : n = k := by omega
                go_wp2
                go_roundw
                case rel => exact ⟨j + 1, by omega, by go_num, trivial⟩
                case measure => simp [intOf]; omega
          · obtain rfl : j = ps.length := by omega
            go_wp2
            go_ret
            exact ⟨rfl, HBW.out⟩
end Go.Proofs.YtkaflgbipjppmaaDoor
