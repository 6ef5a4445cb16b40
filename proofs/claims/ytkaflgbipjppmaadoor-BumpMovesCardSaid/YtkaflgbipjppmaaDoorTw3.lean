/- Two spaces on a store of the call's own: what the calls leave; Big: walks. -/
import Derived.Test.YtkaflgbipjppmaaDoorMa
namespace Go.Proofs.YtkaflgbipjppmaaDoor
open Go.RowKit
set_option linter.unusedVariables false
set_option linter.unusedSimpArgs false
variable {base w w' : World} {B Wb Ob p q size Pb bd at_ end_ P0 P1 a0 e0 a1 e1 : Nat} {W W' own own' : List Int} {v v0 v1 : Value} {parts l0 l1 : List (Nat × Nat)} {ow : Int}
theorem AllocS_not {k : Nat} {ys : Array Value} {u : TypeId} {f : Nat × Nat} (h : SpaceAt w Pb B bd ow v parts at_ end_) (hs : StoreAt w B Wb Ob p q W size own) (hk : w.heap[k]? = some (.cells ys u f))
    (h1 : u ≠ 46) (h2 : u ≠ 3) (h3 : u ≠ 122) (h4 : u ≠ 91) (h5 : u ≠ 93) : ¬ AllocS Wb Ob p q Pb v k := by
  obtain ⟨m, hm⟩ := hs.map
  rintro ((e | e | e | e) | e | e)
  · exact type_ne hk hs.body h1 e
  · exact type_ne hk hs.owners h2 e
  · exact type_ne hk hm.head h3 e
  · exact type_ne hk hm.body h1 e
  · exact type_ne hk h.head h4 e
  · exact wrow_type h.row hk (fun e => h5 e.symm) e
/-- A type of which no block is that the calls turn. -/
def calm (u : TypeId) : Bool := u != 46 && u != 3 && u != 122 && u != 91 && u != 93
/-- The blocks of calm types stay. -/
def Keeps (w w' : World) : Prop := (∀ (k : Nat) (ys : Array Value) (u : TypeId), calm u = true → w.heap[k]? = some (.cells ys u (0, 0)) → w'.heap[k]? = some (.cells ys u (0, 0))) ∧ w.heap.size ≤ w'.heap.size
theorem AllocS_calm (h : SpaceAt w Pb B bd ow v parts at_ end_) (hs : StoreAt w B Wb Ob p q W size own) (hm : Mod (AllocS Wb Ob p q Pb v) w w') : Keeps w w' := ⟨fun k ys u hc hk => by
  simp only [calm, Bool.and_eq_true, bne_iff_ne, ne_eq] at hc
  obtain ⟨⟨⟨⟨h1, h2⟩, h3⟩, h4⟩, h5⟩ := hc
  exact hm.keeps hk (AllocS_not h hs hk h1 h2 h3 h4 h5), hm.size⟩
theorem Keeps.of_below (hb : Below w.heap.size w w') : Keeps w w' := ⟨fun k ys u _ hk => (hb.block k (block_lt hk)).trans hk, hb.size⟩
theorem Keeps.trans {w2 : World} (h1 : Keeps w w') (h2 : Keeps w' w2) : Keeps w w2 := ⟨fun k ys u hc hk => h2.1 k ys u hc (h1.1 k ys u hc hk), Nat.le_trans h1.2 h2.2⟩
/-- A store and two spaces, made by the call: all in blocks of base's heap and above. -/
structure TW (base w : World) (B Wb Ob p q : Nat) (W : List Int) (size : Nat) (own : List Int) (P0 P1 : Nat) (v0 v1 : Value) (l0 l1 : List (Nat × Nat)) (a0 e0 a1 e1 : Nat) : Prop where
  two : TwoAt w B Wb Ob p q W size own base.heap.size P0 P1 v0 v1 l0 l1 a0 e0 a1 e1
  below : Below base.heap.size base w
  hi : ∀ k, Five B Wb Ob p q k ∨ k = P0 ∨ k = P1 → base.heap.size ≤ k
theorem TwoAt.on {w2 : World} (h : TwoAt w B Wb Ob p q W size own bd P0 P1 v0 v1 l0 l1 a0 e0 a1 e1) (hb : Below w.heap.size w w2) : TwoAt w2 B Wb Ob p q W size own bd P0 P1 v0 v1 l0 l1 a0 e0 a1 e1 :=
  { h with st := h.st.on hb, s0 := h.s0.on hb, s1 := h.s1.on hb }
theorem TW.on {w2 : World} (h : TW base w B Wb Ob p q W size own P0 P1 v0 v1 l0 l1 a0 e0 a1 e1) (hb : Below w.heap.size w w2) : TW base w2 B Wb Ob p q W size own P0 P1 v0 v1 l0 l1 a0 e0 a1 e1 :=
  { h with two := h.two.on hb, below := h.below.on hb }
theorem TW.put (h : TW base w B Wb Ob p q W size own P0 P1 v0 v1 l0 l1 a0 e0 a1 e1) (o : Obj) : TW base (w.alloc o) B Wb Ob p q W size own P0 P1 v0 v1 l0 l1 a0 e0 a1 e1 := h.on (below1 w o)
theorem TW.set (h : TW base w B Wb Ob p q W size own P0 P1 v0 v1 l0 l1 a0 e0 a1 e1) {P : Nat → Prop} {w2 : World} (hm : Mod P w w2) (h1 : ∀ k, Five B Wb Ob p q k ∨ k = P0 ∨ k = P1 → ¬ P k) (h2 : ∀ k, v0.ownBlock = some k → ¬ P k) (h3 : ∀ k, v1.ownBlock = some k → ¬ P k) (h4 : ∀ k, P k → base.heap.size ≤ k) :
    TW base w2 B Wb Ob p q W size own P0 P1 v0 v1 l0 l1 a0 e0 a1 e1 :=
  ⟨⟨h.two.st.mod hm (fun k hk => h1 k (.inl hk)), h.two.s0.mod hm (h1 _ (.inr (.inl rfl))) h2, h.two.s1.mod hm (h1 _ (.inr (.inr rfl))) h3, h.two.ne, h.two.far⟩, Mod.below h.below hm h4 h.below.size, h.hi⟩
theorem TW.tab (h : TW base w B Wb Ob p q W size own P0 P1 v0 v1 l0 l1 a0 e0 a1 e1) (hT : Tab base) (h0 : 0 < base.heap.size) : Tab w := fun j hj => (h.below.cell (p := ⟨0, j, none⟩) h0).trans (hT j hj)
theorem TW.s_hi (h : TW base w B Wb Ob p q W size own P0 P1 v0 v1 l0 l1 a0 e0 a1 e1) : ∀ k, AllocS Wb Ob p q P0 v0 k → base.heap.size ≤ k := fun k e => by
  rcases e with e | e | e
  · exact h.hi k (.inl (.inr e))
  · exact h.hi k (.inr (.inl e))
  · exact (h.two.s0.row.lt k e).1
theorem TW.s_hi1 (h : TW base w B Wb Ob p q W size own P0 P1 v0 v1 l0 l1 a0 e0 a1 e1) : ∀ k, AllocS Wb Ob p q P1 v1 k → base.heap.size ≤ k := fun k e => by
  rcases e with e | e | e
  · exact h.hi k (.inl (.inr e))
  · exact h.hi k (.inr (.inr e))
  · exact (h.two.s1.row.lt k e).1
/-- Alloc of the first one, where there is room. -/
theorem TW.room0 (h : TW base w B Wb Ob p q W size own P0 P1 v0 v1 l0 l1 a0 e0 a1 e1) (n : Nat) (hn : 1 ≤ n) (hr : n ≤ e0 - a0) :
    Calls Tryd.prog 18 #[.pointer (some ⟨P0, 0, none⟩), .int .i64 n] w fun e w' => e = .returned (.tuple #[.int .i64 a0, .int .i64 0]) ∧ TW base w' B Wb Ob p q W size own P0 P1 v0 v1 l0 l1 (a0 + n) e0 a1 e1 ∧ Mod (AllocS Wb Ob p q P0 v0) w w' := by
  refine (alloc_room h.two.s0 n hn hr).mono ?_
  rintro e w' ⟨rfl, h1, h2⟩
  have hf := h.two.s0.far h.two.st
  have h1np : v1.ownBlock ≠ some P0 := wrow_type h.two.s1.row h.two.s0.head (by decide)
  exact ⟨rfl, ⟨⟨h.two.st.mod h2 (fun k hk e => (hf k hk).1 e), h1, h.two.s1.mod h2 (fun e => h.two.ne e.symm) (fun k hk e => h1np (hk.trans (by rw [e]))), h.two.ne, h.two.far⟩, Mod.below h.below h2 (fun k e => h.hi k (.inr (.inl e))) h.below.size, h.hi⟩, h2.mono fun k _ e => .inr (.inl e)⟩
/-- Alloc of the first one, where a run is found. -/
theorem TW.run0 (h : TW base w B Wb Ob p q W size own P0 P1 v0 v1 l0 l1 a0 e0 a1 e1) (hT : Tab base) (h0 : 0 < base.heap.size) (n a : Nat) (hn : 1 ≤ n) (hn2 : n < 9223372036854775808) (hr : ¬ n ≤ e0 - a0) (hrun : runAtO own (need size n) = (a, true)) (hpl : l0.length ≤ 1000000) :
    Calls Tryd.prog 18 #[.pointer (some ⟨P0, 0, none⟩), .int .i64 n] w fun e w' => e = .returned (.tuple #[.int .i64 (a * size : Nat), .int .i64 0]) ∧ (∃ v', TW base w' B Wb Ob p q (zeroW W (a * size) (need size n * size)) size (fillO own a 1 (need size n)) P0 P1 v' v1 (l0 ++ [(a, need size n)]) l1 (if need size n = 1 then a * size + n else a0) (if need size n = 1 then (a + 1) * size else e0) a1 e1) ∧ Mod (AllocS Wb Ob p q P0 v0) w w' := by
  refine (alloc_in h.two.s0 h.two.st (h.tab hT h0) n a hn hn2 hr hrun hpl h.below.size).mono ?_
  rintro e w' ⟨rfl, v', h1, h2, h3, h4⟩
  have hf1 := h.two.s1.far h.two.st
  have hP1 : ¬ AllocS Wb Ob p q P0 v0 P1 := by
    rintro (e | e | e)
    · exact (hf1 _ (.inr e)).1 rfl
    · exact h.two.ne e.symm
    · exact wrow_type h.two.s0.row h.two.s1.head (by decide) e
  have hv1 : ∀ k, v1.ownBlock = some k → ¬ AllocS Wb Ob p q P0 v0 k := by
    rintro k hk (e | e | e)
    · exact (hf1 _ (.inr e)).2 hk
    · exact wrow_type h.two.s1.row h.two.s0.head (by decide) (hk.trans (by rw [e]))
    · exact h.two.far k e hk
  refine ⟨rfl, ⟨v', ⟨⟨h2, h1, h.two.s1.mod h3 hP1 hv1, h.two.ne, fun k hk hk1 => ?_⟩, Mod.below h.below h3 h.s_hi h.below.size, h.hi⟩⟩, h3⟩
  rcases h4 k hk with g | g
  · exact h.two.far k g hk1
  · have := (h.two.s1.row.lt k hk1).2
    omega
theorem runAtO_first {own : List Int} {n a : Nat} (hn : 1 ≤ n) (h1 : a + n ≤ own.length) (h2 : ∀ j, j < a + n → a ≤ j → own.getD j 0 = 0) (h3 : ∀ j, j < a → own.getD j 0 ≠ 0) : runAtO own n = (a, true) := by
  have hb : ∀ j, j < own.length → (own.map busy).getD j false = busy (own.getD j 0) := fun j hj => by simp [List.getD, hj]
  unfold runAtO
  rw [run_to (k := a) (Nat.zero_le _) (fun j _ hj g => ?_)]
  · exact run_hit ⟨by simpa using h1, fun j g1 g2 => by rw [hb j (by omega), h2 j g2 g1]; rfl⟩
  · have := g.2 j (Nat.le_refl _) (by omega)
    rw [hb j (by omega)] at this
    exact h3 j hj (by simpa [busy] using this)
/-- Is a chunk in a run? -/
def bigL (parts : List (Nat × Nat)) (ch : Int) : Bool := parts.any fun x => decide (1 < x.2) && (decide ((x.1 : Int) ≤ ch) && decide (ch < (x.1 : Int) + (x.2 : Int)))
theorem big_nil (ch : Int) (w : World) : Calls Tryd.prog 33 #[.pointer none, .int .i64 ch] w fun e w' => e = .returned (.bool false) ∧ w = w' := by
  go_enter Tryd.func33, Tryd.ntmps33
  go_wp2
  go_ret
  exact ⟨rfl, rfl⟩
set_option maxRecDepth 100000 in
set_option maxHeartbeats 1000000 in
theorem big_any (h : SpaceAt w Pb B bd ow v parts at_ end_) (hpl : parts.length ≤ 1000000) (ch : Int) : Calls Tryd.prog 33 #[.pointer (some ⟨Pb, 0, none⟩), .int .i64 ch] w fun e w' => e = .returned (.bool (bigL parts ch)) ∧ Below w.heap.size w w' := by
  obtain ⟨A2, c2, rfl, hc2, hS2⟩ := wrow_slice partEnc (0, 0) (fun _ => rfl) h.row
  have HS2 := Lib.hid hS2
  have HPIN := Lib.hid h.pin
  have d2 := h.c2
  clear h hS2
  go_enter Tryd.func33, Tryd.ntmps33
  go_wp2
  go_loopw [14] (fun v14 wr => ∃ i : Nat, i ≤ parts.length ∧ v14 = .int .i64 i ∧ Hid (bigL (parts.take i) ch = false) ∧ Hid (Below w.heap.size w wr)) (fun v14 _ => parts.length - (intOf v14).toNat)
  case atStart => exact ⟨0, by omega, rfl, Lib.hid rfl, Lib.hid (Below.refl _ _)⟩
  case round =>
    obtain ⟨i, hi, rfl, HBI, HB⟩ := hrel
    by_cases hlt : i < parts.length
    · obtain ⟨b2, o2, rfl, e0, e1⟩ := part_at (HS2.out.on HB.out) i hlt
      have hmem : parts.getD i (0, 0) ∈ parts := by
        have : parts.getD i (0, 0) = parts[i] := by simp [List.getD, hlt]
        rw [this]; exact List.getElem_mem hlt
      have hpin := HPIN.out _ hmem
      have htk : parts.take (i + 1) = parts.take i ++ [parts.getD i (0, 0)] := by
        rw [List.take_add_one]; simp [List.getD, hlt]
      generalize parts.getD i (0, 0) = x at *
      obtain ⟨f, m⟩ := x
      replace hpin : f + m ≤ 1024 := hpin
      replace e0 : wr.cell? ⟨b2, o2 + i * 2, none⟩ = some (.int .i64 (f : Nat)) := e0
      replace e1 : wr.cell? ⟨b2, o2 + i * 2 + 1, none⟩ = some (.int .i64 (m : Nat)) := e1
      have HTK := Lib.hid htk
      have HME := Lib.hid hmem
      have tk := heap_alloc_new wr (.cells #[.int .i64 (f : Nat), .int .i64 (m : Nat)] 93)
      have k0 := (blk_cells tk 0).trans rfl
      have k1 := (blk_cells tk 1).trans rfl
      have HBb := Lib.hid (HB.out.on (below1 wr (.cells #[.int .i64 (f : Nat), .int .i64 (m : Nat)] 93)))
      clear htk hmem tk
      by_cases c1 : 1 < m
      · have c1' : (1 : Int) < (m : Int) := by omega
        by_cases c2 : (f : Int) ≤ ch
        · by_cases c3 : ch < (f : Int) + (m : Int)
          · have HR : Hid (bigL parts ch = true) := Lib.hid (List.any_eq_true.2 ⟨_, HME.out, by simp [c1, c2, c3]⟩)
            go_wp2
            go_ret
            rw [HR.out]
            exact ⟨rfl, HBb.out⟩
          · have HR : Hid (bigL (parts.take (i + 1)) ch = false) := Lib.hid (by
              rw [HTK.out]; unfold bigL; rw [List.any_append, show List.any (parts.take i) _ = false from HBI.out]; simp [c3])
            go_wp2
            go_roundw
            case rel => exact ⟨i + 1, by omega, by go_num, HR, HBb⟩
            case measure => simp [intOf]; omega
        · have HR : Hid (bigL (parts.take (i + 1)) ch = false) := Lib.hid (by
            rw [HTK.out]; unfold bigL; rw [List.any_append, show List.any (parts.take i) _ = false from HBI.out]; simp [c2])
          go_wp2
          go_roundw
          case rel => exact ⟨i + 1, by omega, by go_num, HR, HBb⟩
          case measure => simp [intOf]; omega
      · have HR : Hid (bigL (parts.take (i + 1)) ch = false) := Lib.hid (by
          rw [HTK.out]; unfold bigL; rw [List.any_append, show List.any (parts.take i) _ = false from HBI.out]; simp [c1])
        have c1' : ¬ (1 : Int) < (m : Int) := by omega
        go_wp2
        go_roundw
        case rel => exact ⟨i + 1, by omega, by go_num, HR, HBb⟩
        case measure => simp [intOf]; omega
    · obtain rfl : i = parts.length := by omega
      rw [List.take_length] at HBI
      go_wp2
      go_ret
      rw [HBI.out]
      exact ⟨rfl, HB.out⟩
end Go.Proofs.YtkaflgbipjppmaaDoor
