/- Ia Io Ib Ic Id Ie If Ig Ih -/
import Derived.Test.YtfflacggaebonaaGreatDoorGB
import Derived.Test.YtfflacggaebonaaGreatDoorGC
import Derived.Test.YtfflacggaebonaaGreatDoorGH
section
namespace Go.Proofs.YtfflacggaebonaaGreatDoor
open Go.RowKit
set_option linter.unusedVariables false
set_option linter.unusedSimpArgs false
variable {w w' : World} {M B Wb Ob p q P D G Wg Og size : Nat} {W W' own own' : List Int} {ls : List Lay}
instance (L : Nat) (a n : Int) : Decidable (inW L a n) := by unfold inW; infer_instance
/-- The words are words. -/
def Wds (W : List Int) : Prop := ∀ x ∈ W, 0 ≤ x ∧ x < 18446744073709551616
theorem Wds.get (h : Wds W) (i : Nat) : 0 ≤ W.getD i 0 ∧ W.getD i 0 < 18446744073709551616 := by
  by_cases hi : i < W.length
  · have e : W.getD i 0 = W[i] := by simp [List.getD, hi]
    rw [e]
    exact h _ (List.getElem_mem hi)
  · have e : W.getD i 0 = 0 := by simp [List.getD, hi]
    rw [e]
    decide
/-- A layout of the list, by its number. -/
def layI (ls : List Lay) (l : Int) : Lay := ls.getD (l - 1).toNat ⟨0, [], 0, []⟩
/-- What of an address is wrong. -/
def adE (W own : List Int) (size : Nat) (a : Int) : Int := if a < 0 ∨ (W.length : Int) ≤ a then 3 else chE own (a.toNat / size)
theorem adE_ok {a : Int} (h : adE W own size a = 0) : ∃ m : Nat, a = m ∧ m < W.length ∧ own.getD (m / size) 0 ≠ 0 := by
  unfold adE at h
  split at h
  · cases h
  · refine ⟨a.toNat, by omega, by omega, fun e => ?_⟩
    unfold chE at h
    rw [if_pos e] at h
    cases h
/-- How many words an object of these has behind its header; what is wrong. -/
def szI (ls : List Lay) (l c : Int) : Int × Int := if (ls.length : Int) < l then (0, 6) else if ((layI ls l).size c).2 ≠ 0 then (0, ((layI ls l).size c).2) else (((layI ls l).size c).1, 0)
theorem szI_ok {l c : Int} (h : (szI ls l c).2 = 0) : l ≤ ls.length ∧ ((layI ls l).size c).2 = 0 ∧ (szI ls l c).1 = ((layI ls l).size c).1 := by
  unfold szI at h ⊢
  split at h
  · cases h
  · split at h
    · rename_i h1 h2; exact absurd h h2
    · rename_i h1 h2
      rw [if_neg h1, if_neg h2]
      exact ⟨by omega, by simpa using h2, rfl⟩
/-- The header's numbers at an address. -/
def hdI (W : List Int) (a : Int) : Int × Int × Int × Int := decI (W.getD a.toNat 0)
/-- What is wrong with an object. -/
def findE (W own : List Int) (size : Nat) (ls : List Lay) (a : Int) : Int :=
  if adE W own size a ≠ 0 then adE W own size a else if decOK (W.getD a.toNat 0) = false then 4 else (szI ls (hdI W a).1 (hdI W a).2.1).2
/-- An object: its header, its layout, how many words it has behind the header. -/
structure ObjAt (W own : List Int) (size : Nat) (ls : List Lay) (a : Int) (l c s : Int) (x : Lay) (n : Int) : Prop where
  ad : adE W own size a = 0
  may : mayB l c s = true
  word : W.getD a.toNat 0 = encH l c s
  ll : l ≤ ls.length
  lay : layI ls l = x
  sz : x.size c = (n, 0)
theorem ObjAt.l1 {a l c s n : Int} {x : Lay} (h : ObjAt W own size ls a l c s x n) : 1 ≤ l := (mayB_iff.1 h.may).1
theorem ObjAt.dec {a l c s n : Int} {x : Lay} (h : ObjAt W own size ls a l c s x n) : decI (W.getD a.toNat 0) = (l, c, s, 0) := by rw [h.word, back_enc h.may]
theorem ObjAt.ok {a l c s n : Int} {x : Lay} (h : ObjAt W own size ls a l c s x n) : decOK (W.getD a.toNat 0) = true := by
  have := h.dec
  unfold decI at this
  by_cases g : decOK (W.getD a.toNat 0) = true
  · exact g
  · rw [if_neg g] at this; cases this
theorem ObjAt.n0 {a l c s n : Int} {x : Lay} (h : ObjAt W own size ls a l c s x n) : 0 ≤ n ∧ n < 8192 ∧ x.right = true := by
  have h2 : (x.size c).2 = 0 := by rw [h.sz]
  obtain ⟨h3, h4, h5, h6, h7, h8⟩ := Lay.size_ok h2
  rw [h.sz] at h7 h8
  obtain ⟨r1, r2, r3, r4, r5, r6, r7⟩ := Lay.right_out h3
  have : 0 ≤ c * x.record := Int.mul_nonneg h4 r3
  exact ⟨by show 0 ≤ (n, (0 : Int)).1; rw [h7]; omega, h8, h3⟩
theorem ObjAt.szI {a l c s n : Int} {x : Lay} (h : ObjAt W own size ls a l c s x n) : Go.Proofs.YtfflacggaebonaaGreatDoor.szI ls l c = (n, 0) := by
  have := h.ll
  unfold Go.Proofs.YtfflacggaebonaaGreatDoor.szI
  rw [if_neg (by omega), h.lay, h.sz]
  simp
theorem ObjAt.find {a l c s n : Int} {x : Lay} (h : ObjAt W own size ls a l c s x n) : findE W own size ls a = 0 := by
  unfold findE hdI
  rw [if_neg (by rw [h.ad]; simp), if_neg (by rw [h.ok]; simp), h.dec]
  exact congrArg Prod.snd h.szI
theorem obj_of (hW : Wds W) {a : Int} (h : findE W own size ls a = 0) : ∃ l c s x n, ObjAt W own size ls a l c s x n := by
  unfold findE at h
  split at h
  · rename_i h1; exact absurd h h1
  · rename_i h1
    split at h
    · cases h
    · rename_i h2
      obtain ⟨g1, g2⟩ := hW.get a.toNat
      rcases dec_parts g1 g2 with ⟨l, c, s, e, hm, he⟩ | e
      · have e' : hdI W a = (l, c, s, 0) := e
        rw [e'] at h
        obtain ⟨k1, k2, k3⟩ := szI_ok h
        exact ⟨l, c, s, layI ls l, ((layI ls l).size c).1, by simpa using h1, hm, he.symm, k1, rfl, Prod.ext rfl k2⟩
      · unfold decI at e
        rw [if_pos (by simpa using h2)] at e
        have : (0 : Int) = 4 := congrArg (fun z => z.2.2.2) e
        cases this
/-- The program's images. -/
structure ImgP (T : Nat → Prop) (w : World) (M B Wb Ob p q P : Nat) (W : List Int) (size : Nat) (own : List Int) (ls : List Lay) : Prop where
  head : w.heap[M]? = some (.cells #[.pointer (some ⟨B, 0, none⟩), .pointer (some ⟨P, 0, none⟩)] 113 (0, 0))
  st : StoreAt w B Wb Ob p q W size own
  bk : BookT T w P ls
  hM : ¬ T M
  hT : ∀ k, Four3 Wb Ob p q k → T k
theorem ImgP.on {T : Nat → Prop} (h : ImgP T w M B Wb Ob p q P W size own ls) (hb : Below w.heap.size w w') : ImgP T w' M B Wb Ob p q P W size own ls := { h with head := (hb.block _ (block_lt h.head)).trans h.head, st := h.st.on hb, bk := h.bk.on hb }
theorem ImgP.turn {T : Nat → Prop} (h : ImgP T w M B Wb Ob p q P W size own ls) (hs : StoreAt w' B Wb Ob p q W' size own) (hm : Mod (Four3 Wb Ob p q) w w') : ImgP T w' M B Wb Ob p q P W' size own ls := { h with head := hm.keeps h.head (fun e => h.hM (h.hT _ e)), st := hs, bk := h.bk.mod (hm.mono fun _ _ e => h.hT _ e) }
theorem ImgP.c0 {T : Nat → Prop} (h : ImgP T w M B Wb Ob p q P W size own ls) : w.cell? ⟨M, 0, none⟩ = some (.pointer (some ⟨B, 0, none⟩)) := (blk_cells h.head 0).trans rfl
theorem ImgP.c1 {T : Nat → Prop} (h : ImgP T w M B Wb Ob p q P W size own ls) : w.cell? ⟨M, 1, none⟩ = some (.pointer (some ⟨P, 0, none⟩)) := (blk_cells h.head 1).trans rfl
/-- The document's. -/
structure ImgD (T : Nat → Prop) (base w : World) (D G Wg Og : Nat) (v : Value) (W : List Int) (size : Nat) (own : List Int) (dl : List LayR) : Prop where
  head : w.heap[D]? = some (.cells #[.pointer (some ⟨G, 0, none⟩), v] 47 (0, 0))
  rf : RefSt w G Wg Og W size own
  row : w.ownsRow 0 64 4 v dl.length (dl.flatMap layREnc)
  arg : ∀ r ∈ dl, LayIs base r.x r.A1 r.c1 r.A2 r.c2
  below : Below base.heap.size base w
  hD : ¬ T D
  hv : ∀ k, v.ownBlock = some k → ¬ T k
  hB : ∀ k, T k → base.heap.size ≤ k
  hT : ∀ k, Two3 Wg Og k → T k
theorem ImgD.on {T : Nat → Prop} {base : World} {v : Value} {dl : List LayR} (h : ImgD T base w D G Wg Og v W size own dl) (hb : Below w.heap.size w w') : ImgD T base w' D G Wg Og v W size own dl := { h with head := (hb.block _ (block_lt h.head)).trans h.head, rf := h.rf.on hb, row := own_on h.row hb, below := h.below.on hb }
theorem ImgD.turn {T : Nat → Prop} {base : World} {v : Value} {dl : List LayR} (h : ImgD T base w D G Wg Og v W size own dl) (hs : RefSt w' G Wg Og W' size own) (hm : Mod (Two3 Wg Og) w w') : ImgD T base w' D G Wg Og v W' size own dl := { h with head := hm.keeps h.head (fun e => h.hD (h.hT _ e)), rf := hs, row := own_mod h.row hm (fun k e g => h.hv k e (h.hT _ g)), below := hm.below h.below (fun k e => h.hB k (h.hT _ e)) h.below.size }
theorem ImgD.c0 {T : Nat → Prop} {base : World} {v : Value} {dl : List LayR} (h : ImgD T base w D G Wg Og v W size own dl) : w.cell? ⟨D, 0, none⟩ = some (.pointer (some ⟨G, 0, none⟩)) := (blk_cells h.head 0).trans rfl
theorem ImgD.c1 {T : Nat → Prop} {base : World} {v : Value} {dl : List LayR} (h : ImgD T base w D G Wg Og v W size own dl) : w.cell? ⟨D, 1, none⟩ = some v := (blk_cells h.head 1).trans rfl
/-- What is wrong with a place. -/
def wordE (W own : List Int) (size : Nat) (ls : List Lay) (a p : Int) (r : Bool) : Int :=
  if findE W own size ls a ≠ 0 then findE W own size ls a else
  if ((layI ls (hdI W a).1).isRefE (hdI W a).2.1 p).2 ≠ 0 then ((layI ls (hdI W a).1).isRefE (hdI W a).2.1 p).2 else
  if ((layI ls (hdI W a).1).isRefE (hdI W a).2.1 p).1 = r then 0 else 9
theorem ObjAt.wordE {a l c s n p : Int} {x : Lay} (h : ObjAt W own size ls a l c s x n) (r : Bool) : Go.Proofs.YtfflacggaebonaaGreatDoor.wordE W own size ls a p r = if p < 0 ∨ n ≤ p then 3 else if x.isRef p = r then 0 else 9 := by
  have e : hdI W a = (l, c, s, 0) := h.dec
  unfold Go.Proofs.YtfflacggaebonaaGreatDoor.wordE
  rw [if_neg (by rw [h.find]; simp), e]
  simp only [h.lay]
  have hs := h.sz
  by_cases g : p < 0 ∨ n ≤ p
  · have e1 : x.isRefE c p = (false, 3) := by unfold Lay.isRefE; rw [hs]; simp only [if_true]; rw [if_pos g]
    rw [e1, if_pos g]
    rfl
  · have e1 : x.isRefE c p = (x.isRef p, 0) := by unfold Lay.isRefE; rw [hs]; simp only [if_true]; rw [if_neg g]
    rw [e1, if_neg g]
    simp
theorem wordE_in (hW : Wds W) {a p : Int} {r : Bool} (h : wordE W own size ls a p r = 0) : ∃ l c s x n, ObjAt W own size ls a l c s x n ∧ 0 ≤ p ∧ p < n ∧ x.isRef p = r := by
  by_cases hf : findE W own size ls a = 0
  · obtain ⟨l, c, s, x, n, ho⟩ := obj_of hW hf
    rw [ho.wordE] at h
    split at h
    · cases h
    · split at h
      · exact ⟨l, c, s, x, n, ho, by omega, by omega, by assumption⟩
      · cases h
  · unfold wordE at h
    rw [if_pos hf] at h
    exact absurd h hf
/-- Load: the word, and what is wrong. -/
def loadR (W own : List Int) (size : Nat) (ls : List Lay) (a p : Int) : Int × Int :=
  if wordE W own size ls a p false ≠ 0 then (0, wordE W own size ls a p false) else if adE W own size (a + 1 + p) ≠ 0 then (0, adE W own size (a + 1 + p)) else (W.getD (a + 1 + p).toNat 0, 0)
/-- Follow: the link, and what is wrong. -/
def followR (W own : List Int) (size : Nat) (ls : List Lay) (a p : Int) : Int × Int × Int × Int :=
  if wordE W own size ls a p true ≠ 0 then (0, 0, 0, wordE W own size ls a p true) else if adE W own size (a + 1 + p) ≠ 0 then (0, 0, 0, adE W own size (a + 1 + p)) else linkI (W.getD (a + 1 + p).toNat 0)
/-- Save: what is wrong, and the words. -/
def saveR (W own : List Int) (size : Nat) (ls : List Lay) (a p x : Int) : Int × List Int :=
  if wordE W own size ls a p false ≠ 0 then (wordE W own size ls a p false, W) else if adE W own size (a + 1 + p) ≠ 0 then (adE W own size (a + 1 + p), W) else (0, W.set (a + 1 + p).toNat x)
/-- Tie. -/
def tieR (W own : List Int) (size : Nat) (ls : List Lay) (a p k i g : Int) : Int × List Int :=
  if wordE W own size ls a p true ≠ 0 then (wordE W own size ls a p true, W) else if mayLinkB k i g = false then (2, W) else if adE W own size (a + 1 + p) ≠ 0 then (adE W own size (a + 1 + p), W) else (0, W.set (a + 1 + p).toNat (refWordI k i g))
/-- Make. -/
def makeR (W own : List Int) (size : Nat) (ls : List Lay) (a l c s : Int) : (Int × Int) × List Int :=
  if mayB l c s = false then ((0, 3), W) else if (szI ls l c).2 ≠ 0 then ((0, (szI ls l c).2), W) else if ¬ inW W.length a ((szI ls l c).1 + 1) then ((0, 3), W) else if okW own size a.toNat ((szI ls l c).1 + 1).toNat = false then ((0, 17), W) else
  (((szI ls l c).1 + 1, 0), (zeroW W a.toNat ((szI ls l c).1 + 1).toNat).set a.toNat (encH l c s))
theorem Wds.set (h : Wds W) (i : Nat) {x : Int} (h0 : 0 ≤ x) (h1 : x < 18446744073709551616) : Wds (W.set i x) := fun y hy => by
  rcases List.mem_or_eq_of_mem_set hy with g | g
  · exact h y g
  · rw [g]; exact ⟨h0, h1⟩
theorem Wds.splice (h : Wds W) {cs : List Int} (hc : Wds cs) (a : Nat) : Wds (Go.splice W a cs) := fun y hy => by
  unfold Go.splice at hy
  rcases List.mem_append.1 hy with g | g
  · exact h y (List.mem_of_mem_take g)
  · rcases List.mem_append.1 g with g | g
    · exact hc y g
    · exact h y (List.mem_of_mem_drop g)
theorem Wds.zero (h : Wds W) (a n : Nat) : Wds (zeroW W a n) := h.splice (fun y hy => by rw [List.eq_of_mem_replicate hy]; decide) a
theorem Wds.copy (h : Wds W) (t f n : Nat) : Wds (copyW W t f n) := h.splice (fun y hy => h y (List.mem_of_mem_drop (List.mem_of_mem_take hy))) t
theorem Wds.save (h : Wds W) (a p : Int) {x : Int} (h0 : 0 ≤ x) (h1 : x < 18446744073709551616) : Wds (saveR W own size ls a p x).2 := by
  unfold saveR
  split
  · exact h
  · split
    · exact h
    · exact h.set _ h0 h1
theorem Wds.tie (h : Wds W) (a p k i g : Int) : Wds (tieR W own size ls a p k i g).2 := by
  unfold tieR
  split
  · exact h
  · split
    · exact h
    · rename_i hm
      split
      · exact h
      · obtain ⟨h0, h1⟩ := refWord_in (show mayLinkB k i g = true by simpa using hm)
        exact h.set _ h0 h1
theorem Wds.make (h : Wds W) (a l c s : Int) : Wds (makeR W own size ls a l c s).2 := by
  unfold makeR
  split
  · exact h
  · rename_i hm
    obtain ⟨h0, h1⟩ := enc_in (show mayB l c s = true by simpa using hm)
    split
    · exact h
    · split
      · exact h
      · split
        · exact h
        · exact (h.zero _ _).set _ h0 h1
theorem save_len (a p x : Int) : (saveR W own size ls a p x).2.length = W.length := by
  unfold saveR
  split
  · rfl
  · split <;> simp
theorem tie_len (a p k i g : Int) : (tieR W own size ls a p k i g).2.length = W.length := by
  unfold tieR
  split
  · rfl
  · split
    · rfl
    · split <;> simp
theorem make_len (a l c s : Int) : (makeR W own size ls a l c s).2.length = W.length := by
  unfold makeR
  split
  · rfl
  · split
    · rfl
    · split
      · rfl
      · rename_i h
        split
        · rfl
        · obtain ⟨g1, g2, g3, g4⟩ := Classical.not_not.1 h
          simp only [List.length_set]
          exact zeroW_length _ _ _ (by omega)
end Go.Proofs.YtfflacggaebonaaGreatDoor
end
section
namespace Go.Proofs.YtfflacggaebonaaGreatDoor
open Go.RowKit
set_option linter.unusedVariables false
set_option linter.unusedSimpArgs false
theorem rep0_get (n j : Nat) : (List.replicate n (0 : Int)).getD j 0 = 0 := by
  by_cases h : j < n
  · simp [List.getD, h]
  · simp [List.getD, h]
/-- The owner 1 has the first i of six chunks. -/
def onesO (i : Nat) : List Int := fillO (List.replicate 6 0) 0 1 i
def zerosW : List Int := List.replicate 48 0
theorem onesO_len (i : Nat) : (onesO i).length = 6 := by unfold onesO; rw [fillO_length]; rfl
theorem onesO_get {i : Nat} (hi : i ≤ 6) (j : Nat) : (onesO i).getD j 0 = if j < i then 1 else 0 := by
  unfold onesO
  rw [fillO_getD _ _ _ _ _ (by simpa using hi)]
  by_cases h : j < i
  · rw [if_pos (by omega), if_pos h]
  · rw [if_neg (by omega), if_neg h]
    exact rep0_get 6 j
theorem onesO_step (i : Nat) : fillO (onesO i) i 1 1 = onesO (i + 1) := by
  show (fillO (onesO i) i 1 0).set (i + 0) 1 = (fillO (List.replicate 6 0) 0 1 i).set (0 + i) 1
  rw [Nat.zero_add]
  rfl
theorem onesO_run {i : Nat} (hi : i < 5) : runAtO (onesO i) 1 = (i, true) := by
  have hl := onesO_len i
  refine runAtO_hit ⟨by simp [hl]; omega, fun j h1 h2 => ?_⟩ (fun j hj ho => ?_)
  · obtain rfl : j = i := by omega
    rw [busy_get (by omega), onesO_get (by omega), if_neg (by omega)]
    rfl
  · have := ho.2 j (Nat.le_refl _) (by omega)
    rw [busy_get (by omega), onesO_get (by omega), if_pos hj] at this
    cases this
theorem zerosW_step (i : Nat) (hi : i < 5) : zeroW zerosW (i * 8) (1 * 8) = zerosW := by
  have hl : zerosW.length = 48 := by unfold zerosW; simp
  have hz : i * 8 + 1 * 8 ≤ zerosW.length := by omega
  refine ext_getD (zeroW_length _ _ _ hz) (fun j hj => ?_)
  rw [zeroW_getD hz]
  have h0 : ∀ j, zerosW.getD j 0 = 0 := fun j => rep0_get 48 j
  rw [h0]
  split <;> rfl
theorem zerosW_len : zerosW.length = 48 := by unfold zerosW; simp
theorem zerosW_words : Wds zerosW := fun y hy => by rw [List.eq_of_mem_replicate hy]; decide
/-- Which addresses are the owner's. -/
theorem ones_at {W : List Int} (hW : W.length = 48) (a : Int) : adE W (onesO 5) 8 a = if a < 0 ∨ 48 ≤ a then 3 else if a < 40 then 0 else 17 := by
  unfold adE chE
  rw [hW]
  by_cases h : a < 0 ∨ 48 ≤ a
  · rw [if_pos (by omega), if_pos h]
  · rw [if_neg (by omega), if_neg h, onesO_get (by omega)]
    by_cases g : a < 40
    · have g5 : a.toNat / 8 < 5 := by omega
      rw [if_pos g5, if_pos g]
      decide
    · have g5 : ¬ a.toNat / 8 < 5 := by omega
      rw [if_neg g5, if_neg g]
      decide
theorem ones_ok (a n : Nat) (h : a + n ≤ 40) : okW (onesO 5) 8 a n = true := by
  rw [okW_iff]
  intro j hj
  rw [onesO_get (by omega), if_pos (by omega)]
  decide
/-- The layouts of which there may be an image. -/
def madeL (l : List Lay) : List Lay := (l.take 6).filter (·.right)
theorem madeL_len (l : List Lay) : (madeL l).length ≤ 6 := Nat.le_trans (List.length_filter_le _ _) (by simp; omega)
end Go.Proofs.YtfflacggaebonaaGreatDoor
end
section
namespace Go.Proofs.YtfflacggaebonaaGreatDoor
open Go.RowKit
set_option linter.unusedVariables false
set_option linter.unusedSimpArgs false
variable {w w' : World} {M B Wb Ob p q P D G Wg Og size : Nat} {W W' own own' : List Int} {ls : List Lay} {T : Nat → Prop}
theorem layI_at {l : List LayR} (i : Int) : (l.getD (i - 1).toNat layR0).x = layI (l.map (·.x)) i := by
  unfold layI
  unfold List.getD
  rw [List.getElem?_map]
  cases l[(i - 1).toNat]? <;> rfl
theorem below_set {n : Nat} (h : Below n w w') {b i : Nat} (hb : n ≤ b) (v : Value) : Below n w (w'.setCell ⟨b, i, none⟩ v) := h.setCell (p := ⟨b, i, none⟩) hb v
theorem lay_set {x : Lay} {A1 A2 : Option Addr} {c1 c2 m b i : Nat} (h : LayIs w x A1 c1 A2 c2) (hf : LayF A1 A2 m) (hb : b < m) (v : Value) : LayIs (w.setCell ⟨b, i, none⟩ v) x A1 c1 A2 c2 :=
  h.mod (Mod.setCell (fun k => k < m) w ⟨b, i, none⟩ v hb) (fun b' o e g => by have := hf b' o e; have g' : b' < m := g; omega)
theorem LayF.less {A1 A2 : Option Addr} {m n : Nat} (h : LayF A1 A2 m) (hn : n ≤ m) : LayF A1 A2 n := fun b o e => Nat.le_trans hn (h b o e)
/-- Read: the word at an address, or what is wrong. -/
def rdV (W own : List Int) (size : Nat) (a : Int) : Int := if adE W own size a = 0 then W.getD a.toNat 0 else 0
theorem read_t (h : StoreAt w B Wb Ob p q W size own) (a : Int) : Calls Tryz.prog 12 #[.pointer (some ⟨B, 0, none⟩), .int .i64 a] w fun e w' => e = .returned (.tuple #[.int .u64 (rdV W own size a), .int .i64 (adE W own size a)]) ∧ w = w' := by
  unfold rdV adE
  by_cases g : a < 0 ∨ (W.length : Int) ≤ a
  · rw [if_pos g, if_neg (by decide)]
    exact read_out h a g
  · rw [if_neg g]
    obtain ⟨m, rfl⟩ : ∃ m : Nat, a = m := ⟨a.toNat, by omega⟩
    refine (read_in h m (by omega)).mono ?_
    rintro e w1 ⟨rfl, hw⟩
    refine ⟨?_, hw⟩
    unfold readV chE
    rw [Int.toNat_natCast]
    by_cases g2 : own.getD (m / size) 0 = 0
    · rw [if_pos g2, if_pos g2, if_neg (by decide)]
    · rw [if_neg g2, if_neg g2, if_pos rfl]
/-- Write. -/
def wrW (W own : List Int) (size : Nat) (a x : Int) : List Int := if adE W own size a = 0 then W.set a.toNat x else W
theorem write_t (h : StoreAt w B Wb Ob p q W size own) (a x : Int) : Calls Tryz.prog 35 #[.pointer (some ⟨B, 0, none⟩), .int .i64 a, .int .u64 x] w fun e w' => e = .returned (.int .i64 (adE W own size a)) ∧ StoreAt w' B Wb Ob p q (wrW W own size a x) size own ∧ Mod (Four3 Wb Ob p q) w w' := by
  unfold wrW adE
  by_cases g : a < 0 ∨ (W.length : Int) ≤ a
  · rw [if_pos g, if_neg (by decide)]
    exact (write_out h a x g).mono fun e w1 ⟨he, hw⟩ => ⟨he, hw ▸ h, hw ▸ Mod.refl _ _⟩
  · rw [if_neg g]
    obtain ⟨m, rfl⟩ : ∃ m : Nat, a = m := ⟨a.toNat, by omega⟩
    refine (write_in h m x (by omega)).mono ?_
    rintro e w1 ⟨rfl, hs, hm⟩
    rw [Int.toNat_natCast]
    refine ⟨rfl, ?_, hm⟩
    have e1 : (if chE own (m / size) = 0 then W.set m x else W) = writeW W own size m x := by
      unfold chE writeW
      by_cases g2 : own.getD (m / size) 0 = 0
      · rw [if_pos g2, if_pos g2, if_neg (by decide)]
      · rw [if_neg g2, if_neg g2, if_pos rfl]
    rw [e1]
    exact hs
/-- What Get hands out. -/
def GetT (ls : List Lay) (l : Int) (w : World) (e : Ending) (w' : World) : Prop := ∃ x A1 c1 A2 c2, e = .returned (.tuple #[.agg #[.int .i64 x.fixed, .slice A1 x.refs.length c1, .int .i64 x.record, .slice A2 x.recs.length c2], .int .i64 (if (ls.length : Int) < l then 6 else 0)]) ∧ (l ≤ ls.length → x = layI ls l ∧ LayIs w' x A1 c1 A2 c2 ∧ LayF A1 A2 w.heap.size) ∧ Below w.heap.size w w'
theorem get_t (h : BookT T w P ls) (l : Int) (hl : 1 ≤ l) : Calls Tryz.prog 75 #[.pointer (some ⟨P, 0, none⟩), .int .i64 l] w (GetT ls l w) := by
  obtain ⟨v, r, bd, hb, he, -⟩ := h
  subst he
  by_cases g : ((r.map (·.x)).length : Int) < l
  · refine (get_out hb l (.inr (by simpa using g))).mono ?_
    rintro e w1 ⟨rfl, hb1⟩
    exact ⟨⟨0, [], 0, []⟩, none, 0, none, 0, by rw [if_pos g]; rfl, fun hk => by omega, hb1⟩
  · have gl : l ≤ r.length := by simp at g; omega
    have hk := get_in hb (l - 1).toNat (by omega)
    rw [show (((l - 1).toNat : Nat) : Int) + 1 = l by omega, layI_at] at hk
    refine hk.mono ?_
    rintro e w1 ⟨A1, c1, A2, c2, rfl, h1, h2, h3⟩
    exact ⟨_, A1, c1, A2, c2, by rw [if_neg g]; rfl, fun _ => ⟨rfl, h1, h2⟩, h3⟩
/-- An object's layout and size. -/
def SizeT (ls : List Lay) (l c : Int) (w : World) (e : Ending) (w' : World) : Prop := ∃ x A1 c1 A2 c2 n, e = .returned (.tuple #[.agg #[.int .i64 x.fixed, .slice A1 x.refs.length c1, .int .i64 x.record, .slice A2 x.recs.length c2], .int .i64 n, .int .i64 (szI ls l c).2]) ∧ ((szI ls l c).2 = 0 → x = layI ls l ∧ n = (szI ls l c).1 ∧ LayIs w' x A1 c1 A2 c2 ∧ LayF A1 A2 w.heap.size) ∧ Below w.heap.size w w'
theorem results_cell_tmp2 {fn : Func} {p u v : Tmp} {ty : TypeId} (h : fn.results = #[.cell p ty, .tmp u, .tmp v]) (tmps : Array Value) (P : Program) (w : World) :
    (results fn tmps).run P w = ((asAddr (tmps.getD p undef)).run P w).andThen fun a w₁ => ((loadVar ty a).run P w₁).andThen fun x w₂ => .ok (.tuple #[x, tmps.getD u undef, tmps.getD v undef]) w₂ := by
  simp only [results, h]
  simp [Sem.run_bind, Result.andThen]
theorem szI_in {l c : Int} (h : l ≤ ls.length) : (szI ls l c).2 = ((layI ls l).size c).2 ∧ ((szI ls l c).2 = 0 → (szI ls l c).1 = ((layI ls l).size c).1) := by
  refine ⟨?_, fun hk => (szI_ok hk).2.2⟩
  unfold szI
  rw [if_neg (by omega)]
  split
  · rfl
  · rename_i h2; exact (Classical.not_not.1 h2).symm
/-- What lies behind Get. -/
structure PkS (w W2 X : World) (nb : Nat) (x : Lay) (A1 : Option Addr) (d1 : Nat) (A2 : Option Addr) (d2 : Nat) : Prop where
  nn : X.heap[nb]? = some (.cells #[.int .i64 x.fixed, .slice A1 x.refs.length d1, .int .i64 x.record, .slice A2 x.recs.length d2] 64 (0, 0))
  zr : X.heap[w.heap.size + 1]? = some (.cells #[.int .i64 0, .slice none 0 0, .int .i64 0, .slice none 0 0] 64 (0, 0))
  ly : LayIs X x A1 d1 A2 d2
  lf : LayF A1 A2 W2.heap.size
  bl : Below W2.heap.size W2 X
theorem PkS.on {W2 X Y : World} {nb d1 d2 : Nat} {x : Lay} {A1 A2 : Option Addr} (h : PkS w W2 X nb x A1 d1 A2 d2) (hb : Below X.heap.size X Y) : PkS w W2 Y nb x A1 d1 A2 d2 :=
  ⟨(hb.block _ (block_lt h.nn)).trans h.nn, (hb.block _ (block_lt h.zr)).trans h.zr, h.ly.on hb, h.lf, h.bl.on hb⟩
set_option maxRecDepth 100000 in
set_option maxHeartbeats 1000000 in
theorem isize_any (h : ImgP T w M B Wb Ob p q P W size own ls) (l c s : Int) (hl : 1 ≤ l) : Calls Tryz.prog 46 #[.pointer (some ⟨M, 0, none⟩), .agg #[.int .i64 l, .int .i64 c, .int .i64 s]] w (SizeT ls l c w) := by
  have hb1 := below1 w (.cells #[.int .i64 l, .int .i64 c, .int .i64 s] 32)
  have hl1 := heap_alloc_new w (.cells #[.int .i64 l, .int .i64 c, .int .i64 s] 32)
  have hz1 : (w.alloc (.cells #[.int .i64 l, .int .i64 c, .int .i64 s] 32)).heap.size = w.heap.size + 1 := World.size_alloc _ _
  go_enter Tryz.func46, Tryz.ntmps46
  go_wp2_with fail
  generalize hW1 : w.alloc (.cells #[.int .i64 l, .int .i64 c, .int .i64 s] 32) = W1 at *
  have hb2 := hb1.on (below1 W1 (.cells #[.int .i64 0, .slice none 0 0, .int .i64 0, .slice none 0 0] 64))
  have hl2 := (Below.heap_alloc W1 (.cells #[.int .i64 0, .slice none 0 0, .int .i64 0, .slice none 0 0] 64) _ (block_lt hl1)).trans hl1
  have hr2 := heap_alloc_new W1 (.cells #[.int .i64 0, .slice none 0 0, .int .i64 0, .slice none 0 0] 64)
  rw [hz1] at hr2
  generalize hW2 : W1.alloc (.cells #[.int .i64 0, .slice none 0 0, .int .i64 0, .slice none 0 0] 64) = W2 at *
  clear hW1 hW2 hb1 hl1
  have HI := Lib.hid (h.on hb2)
  have c0 := (h.on hb2).c0
  have c1 := (h.on hb2).c1
  have HB2 := Lib.hid hb2
  have k0 := (blk_cells hl2 0).trans rfl
  have k1 := (blk_cells hl2 1).trans rfl
  have q0 := cell_on (below1 W2 (.cells #[.int .i64 0, .slice none 0 0, .int .i64 0, .slice none 0 0] 64)) k0
  have q1 := cell_on (below1 W2 (.cells #[.int .i64 0, .slice none 0 0, .int .i64 0, .slice none 0 0] 64)) c1
  have HS : Hid (l ≤ ls.length → ∀ Y x A1 d1 A2 d2, x = layI ls l → LayIs Y x A1 d1 A2 d2 → Calls Tryz.prog 69 #[.agg #[.int .i64 x.fixed, .slice A1 x.refs.length d1, .int .i64 x.record, .slice A2 x.recs.length d2], .int .i64 c] Y fun e w' => e = .returned (.tuple #[.int .i64 ((layI ls l).size c).1, .int .i64 ((layI ls l).size c).2]) ∧ Below Y.heap.size Y w') := Lib.hid (fun _ Y x A1 d1 A2 d2 hx hY => hx ▸ size_any _ _ _ _ _ _ Y hY)
  have hne := block_lt hr2
  have hn1 : ¬ W2.heap.size = w.heap.size + 1 := by omega
  have hn2 : ¬ w.heap.size + 1 = W2.heap.size := by omega
  have hn3 : ¬ W2.heap.size = w.heap.size := by omega
  have hn4 : ¬ w.heap.size = W2.heap.size := by omega
  by_cases g : (ls.length : Int) < l
  · have HG : Hid (∀ Y, Below W2.heap.size W2 Y → Calls Tryz.prog 75 #[.pointer (some ⟨P, 0, none⟩), .int .i64 l] Y fun e w' => ∃ (x : Lay) (A1 : Option Addr) (c1 : Nat) (A2 : Option Addr) (c2 : Nat), e = .returned (.tuple #[.agg #[.int .i64 x.fixed, .slice A1 x.refs.length c1, .int .i64 x.record, .slice A2 x.recs.length c2], .int .i64 6]) ∧ Below Y.heap.size Y w') := Lib.hid (fun Y hY => (get_t (HI.out.on hY).bk l hl).mono fun e w' ⟨x, A1, c1, A2, c2, h1, h2, h3⟩ => ⟨x, A1, c1, A2, c2, by rw [h1, if_pos g], h3⟩)
    have hq : Hid (szI ls l c = (0, 6)) := Lib.hid (by unfold szI; rw [if_pos g])
    clear h
    go_region_law (first | (go_simp; go_at_call 75; first | (refine (HG.out _ (below_drewN (Below.refl _ W2) 1)).mono ?_; rintro e w4 ⟨x, A1, d1, A2, d2, rfl, hb4⟩; have hb5 := (below_drewN (Below.refl _ W2) 1).on hb4; have zr0 := (hb5.block _ (block_lt hr2)).trans hr2; have zr := (Below.heap_alloc w4 (.cells #[.int .i64 x.fixed, .slice A1 x.refs.length d1, .int .i64 x.record, .slice A2 x.recs.length d2] 64) _ (block_lt zr0)).trans zr0; have r0 := (blk_cells zr 0).trans rfl; have r1 := (blk_cells zr 1).trans rfl; have r2 := (blk_cells zr 2).trans rfl; have r3 := (blk_cells zr 3).trans rfl; have s0 := blk_thaw zr 0; have s1 := blk_thaw zr 1; have s2 := blk_thaw zr 2; have s3 := blk_thaw zr 3; have zk0 := (hb5.block _ (block_lt hl2)).trans hl2; have zk := (Below.heap_alloc w4 (.cells #[.int .i64 x.fixed, .slice A1 x.refs.length d1, .int .i64 x.record, .slice A2 x.recs.length d2] 64) _ (block_lt zk0)).trans zk0; have e1 := (blk_cells zk 1).trans rfl; have hb6 := hb5.on (below1 w4 (.cells #[.int .i64 x.fixed, .slice A1 x.refs.length d1, .int .i64 x.record, .slice A2 x.recs.length d2] 64))) | (refine (HG.out _ (below_drewN (below1 W2 _) 1)).mono ?_; rintro e w4 ⟨x, A1, d1, A2, d2, rfl, hb4⟩; have hb5 := (below_drewN (below1 W2 _) 1).on hb4; have hb6 := hb5; have zn := (hb4.block W2.heap.size (Nat.lt_of_lt_of_le (Nat.lt_succ_self _) (Nat.le_of_eq (World.size_alloc _ _).symm))).trans (heap_alloc_new W2 _); have n0 := (blk_cells zn 0).trans rfl; have n1 := (blk_cells zn 1).trans rfl; have n2 := (blk_cells zn 2).trans rfl; have n3 := (blk_cells zn 3).trans rfl; have m0 := blk_thaw zn 0; have m1 := blk_thaw zn 1; have m2 := blk_thaw zn 2; have m3 := blk_thaw zn 3; have zr := (hb5.block _ (block_lt hr2)).trans hr2; have r0 := (blk_cells zr 0).trans rfl; have r1 := (blk_cells zr 1).trans rfl; have r2 := (blk_cells zr 2).trans rfl; have r3 := (blk_cells zr 3).trans rfl; have s0 := blk_thaw zr 0; have s1 := blk_thaw zr 1; have s2 := blk_thaw zr 2; have s3 := blk_thaw zr 3; have zk := (hb5.block _ (block_lt hl2)).trans hl2; have e1 := (blk_cells zk 1).trans rfl)))
    all_goals
      clear zr zk hr2 hl2 HG HS hb4
      go_wp2
      (try simp only [Exit.inBlock, Exit.then])
      refine bodyPost_ret (v := .tuple #[.agg #[.int .i64 x.fixed, .slice A1 x.refs.length d1, .int .i64 x.record, .slice A2 x.recs.length d2], .int .i64 0, .int .i64 6]) ?_ rfl ⟨x, A1, d1, A2, d2, _, by rw [hq.out], fun hk => absurd hk (by rw [hq.out]; decide), ?_⟩
      · rw [results_cell_tmp2 rfl]
        go_simp
        (try rfl)
      · repeat (refine below_set ?_ (by omega) _)
        exact HB2.out.on hb6
  · have gl : l ≤ ls.length := by omega
    have HG : Hid (∀ Y, Below W2.heap.size W2 Y → Calls Tryz.prog 75 #[.pointer (some ⟨P, 0, none⟩), .int .i64 l] Y fun e w' => ∃ (x : Lay) (A1 : Option Addr) (c1 : Nat) (A2 : Option Addr) (c2 : Nat), e = .returned (.tuple #[.agg #[.int .i64 x.fixed, .slice A1 x.refs.length c1, .int .i64 x.record, .slice A2 x.recs.length c2], .int .i64 0]) ∧ x = layI ls l ∧ LayIs w' x A1 c1 A2 c2 ∧ LayF A1 A2 Y.heap.size ∧ Below Y.heap.size Y w') := Lib.hid (fun Y hY => (get_t (HI.out.on hY).bk l hl).mono fun e w' ⟨x, A1, c1, A2, c2, h1, h2, h3⟩ => ⟨x, A1, c1, A2, c2, by rw [h1, if_neg g], (h2 gl).1, (h2 gl).2.1, (h2 gl).2.2, h3⟩)
    have hq := Lib.hid (szI_in (c := c) gl)
    clear h
    generalize hSZ : (layI ls l).size c = sz at *
    obtain ⟨n, er⟩ := sz
    go_region_law (first | (go_simp; go_at_call 75; first | (refine (HG.out _ (below_drewN (Below.refl _ W2) 1)).mono ?_; rintro e w4 ⟨x, A1, d1, A2, d2, rfl, hx0, hly, hlf, hb4⟩; have HX := Lib.hid hx0; clear hx0; have hb5 := (below_drewN (Below.refl _ W2) 1).on hb4; have zr0 := (hb5.block _ (block_lt hr2)).trans hr2; have zr := (Below.heap_alloc w4 (.cells #[.int .i64 x.fixed, .slice A1 x.refs.length d1, .int .i64 x.record, .slice A2 x.recs.length d2] 64) _ (block_lt zr0)).trans zr0; have zk0 := (hb5.block _ (block_lt hl2)).trans hl2; have zk := (Below.heap_alloc w4 (.cells #[.int .i64 x.fixed, .slice A1 x.refs.length d1, .int .i64 x.record, .slice A2 x.recs.length d2] 64) _ (block_lt zk0)).trans zk0; have e1 := (blk_cells zk 1).trans rfl; have PK : Hid (PkS w W2 (w4.alloc (.cells #[.int .i64 x.fixed, .slice A1 x.refs.length d1, .int .i64 x.record, .slice A2 x.recs.length d2] 64)) w4.heap.size x A1 d1 A2 d2) := Lib.hid ⟨heap_alloc_new w4 _, zr, hly.on (below1 w4 _), hlf, hb5.on (below1 w4 _)⟩) | (refine (HG.out _ (below_drewN (below1 W2 _) 1)).mono ?_; rintro e w4 ⟨x, A1, d1, A2, d2, rfl, hx0, hly, hlf, hb4⟩; have HX := Lib.hid hx0; clear hx0; have hb5 := (below_drewN (below1 W2 _) 1).on hb4; have hsz := World.size_alloc W2 (.cells #[.int .i64 0, .slice none 0 0, .int .i64 0, .slice none 0 0] 64); have hlf2 : LayF A1 A2 (W2.heap.size + 1) := hlf.less (Nat.le_of_eq hsz.symm); have zn := (hb4.block W2.heap.size (Nat.lt_of_lt_of_le (Nat.lt_succ_self _) (Nat.le_of_eq (World.size_alloc _ _).symm))).trans (heap_alloc_new W2 _); have n0 := (blk_cells zn 0).trans rfl; have n1 := (blk_cells zn 1).trans rfl; have n2 := (blk_cells zn 2).trans rfl; have n3 := (blk_cells zn 3).trans rfl; have m0 := blk_thaw zn 0; have m1 := blk_thaw zn 1; have m2 := blk_thaw zn 2; have m3 := blk_thaw zn 3; have zr := (hb5.block _ (block_lt hr2)).trans hr2; have zk := (hb5.block _ (block_lt hl2)).trans hl2; have e1 := (blk_cells zk 1).trans rfl; have PK : Hid (PkS w W2 ((((w4.setCell ⟨W2.heap.size, 0, none⟩ (.int .i64 x.fixed)).setCell ⟨W2.heap.size, 1, none⟩ (.slice A1 x.refs.length d1)).setCell ⟨W2.heap.size, 2, none⟩ (.int .i64 x.record)).setCell ⟨W2.heap.size, 3, none⟩ (.slice A2 x.recs.length d2)) W2.heap.size x A1 d1 A2 d2) := Lib.hid ⟨(blk_set (blk_set (blk_set (blk_set zn 0 _) 1 _) 2 _) 3 _).trans rfl, blk_far (blk_far (blk_far (blk_far zr _ _ hn2) _ _ hn2) _ _ hn2) _ _ hn2, lay_set (lay_set (lay_set (lay_set hly hlf2 (Nat.lt_succ_self _) _) hlf2 (Nat.lt_succ_self _) _) hlf2 (Nat.lt_succ_self _) _) hlf2 (Nat.lt_succ_self _) _, hlf2.less (Nat.le_succ _), below_set (below_set (below_set (below_set hb5 (Nat.le_refl _) _) (Nat.le_refl _) _) (Nat.le_refl _) _) (Nat.le_refl _) _⟩)))
    all_goals
      clear hr2 hl2 HG hb4 zr zk
      go_wp2_with fail
      refine (HS.out gl _ _ _ _ _ _ HX.out PK.out.ly).mono ?_
      rintro e w7 ⟨rfl, hb7⟩
      obtain ⟨nn, zr, ly, lf, bl⟩ := PK.out.on hb7
      have y0 := (blk_cells nn 0).trans rfl
      have y1 := (blk_cells nn 1).trans rfl
      have y2 := (blk_cells nn 2).trans rfl
      have y3 := (blk_cells nn 3).trans rfl
      have r0 := (blk_cells zr 0).trans rfl
      have r1 := (blk_cells zr 1).trans rfl
      have r2 := (blk_cells zr 2).trans rfl
      have r3 := (blk_cells zr 3).trans rfl
      have s0 := blk_thaw zr 0
      have s1 := blk_thaw zr 1
      have s2 := blk_thaw zr 2
      have s3 := blk_thaw zr 3
      have LY := Lib.hid (And.intro ly lf)
      have BL := Lib.hid bl
      clear ly lf bl hb7 nn zr HS PK hly hlf
      go_wp2
      (try simp only [Exit.inBlock, Exit.then])
      refine bodyPost_ret (v := .tuple #[.agg #[.int .i64 x.fixed, .slice A1 x.refs.length d1, .int .i64 x.record, .slice A2 x.recs.length d2], .int .i64 n, .int .i64 er]) ?_ rfl ⟨x, A1, d1, A2, d2, n, by rw [hq.out.1], fun hk => ⟨HX.out, (hq.out.2 hk).symm, ?_, LY.out.2.less (by omega)⟩, ?_⟩
      · rw [results_cell_tmp2 rfl]
        go_simp
        (try rfl)
      · exact lay_set (lay_set (lay_set (lay_set LY.out.1 LY.out.2 (by omega) _) LY.out.2 (by omega) _) LY.out.2 (by omega) _) LY.out.2 (by omega) _
      · repeat (refine below_set ?_ (by omega) _)
        exact HB2.out.on BL.out
end Go.Proofs.YtfflacggaebonaaGreatDoor
end
section
namespace Go.Proofs.YtfflacggaebonaaGreatDoor
open Go.RowKit
set_option linter.unusedVariables false
set_option linter.unusedSimpArgs false
variable {w w' : World} {M B Wb Ob p q P D G Wg Og size : Nat} {W W' own own' : List Int} {ls : List Lay} {T : Nat → Prop}
theorem results_cell2_tmp2 {fn : Func} {p q u v : Tmp} {ty ty' : TypeId} (h : fn.results = #[.cell p ty, .cell q ty', .tmp u, .tmp v]) (tmps : Array Value) (P : Program) (w : World) :
    (results fn tmps).run P w = ((asAddr (tmps.getD p undef)).run P w).andThen fun a w₁ => ((loadVar ty a).run P w₁).andThen fun x w₂ => ((asAddr (tmps.getD q undef)).run P w₂).andThen fun b w₃ => ((loadVar ty' b).run P w₃).andThen fun y w₄ => .ok (.tuple #[x, y, tmps.getD u undef, tmps.getD v undef]) w₄ := by
  simp only [results, h]
  simp [Sem.run_bind, Result.andThen]
theorem below_to {n b i : Nat} {v : Value} (hb : n ≤ b) (h : Below n w w') : Below n w (w'.setCell ⟨b, i, none⟩ v) := below_set h hb v
theorem below_drw {n : Nat} (h : Below n w w') : Below n w w'.drew := below_drewN h 1
theorem lay_to {x : Lay} {A1 A2 : Option Addr} {c1 c2 m b i : Nat} {v : Value} (hf : LayF A1 A2 m) (hb : b < m) (h : LayIs w x A1 c1 A2 c2) : LayIs (w.setCell ⟨b, i, none⟩ v) x A1 c1 A2 c2 := lay_set h hf hb v
theorem lay_drw {x : Lay} {A1 A2 : Option Addr} {c1 c2 : Nat} (h : LayIs w x A1 c1 A2 c2) : LayIs w.drew x A1 c1 A2 c2 := h.on (below_drewN (Below.refl _ w) 1)
/-- Two result cells as they were made: a header's, a layout's. -/
structure RC (w : World) (n : Nat) : Prop where
  hl : w.heap[n]? = some (.cells #[.int .i64 0, .int .i64 0, .int .i64 0] 32 (0, 0))
  hr : w.heap[n + 1]? = some (.cells #[.int .i64 0, .slice none 0 0, .int .i64 0, .slice none 0 0] 64 (0, 0))
theorem RC.on {n : Nat} (h : RC w n) (hb : Below w.heap.size w w') : RC w' n := ⟨(hb.block _ (block_lt h.hl)).trans h.hl, (hb.block _ (block_lt h.hr)).trans h.hr⟩
/-- What is at an address: header, layout, number of words. -/
def FindT (W own : List Int) (size : Nat) (ls : List Lay) (a : Int) (w : World) (e : Ending) (w' : World) : Prop := ∃ (l c s : Int) (x : Lay) (A1 : Option Addr) (c1 : Nat) (A2 : Option Addr) (c2 : Nat) (n : Int),
  e = .returned (.tuple #[.agg #[.int .i64 l, .int .i64 c, .int .i64 s], .agg #[.int .i64 x.fixed, .slice A1 x.refs.length c1, .int .i64 x.record, .slice A2 x.recs.length c2], .int .i64 n, .int .i64 (findE W own size ls a)]) ∧
  (findE W own size ls a = 0 → ObjAt W own size ls a l c s x n ∧ LayIs w' x A1 c1 A2 c2 ∧ LayF A1 A2 w.heap.size) ∧ Below w.heap.size w w'
theorem findE_1 {a : Int} (h : adE W own size a ≠ 0) : findE W own size ls a = adE W own size a := by unfold findE; rw [if_pos h]
theorem findE_2 {a : Int} (h : adE W own size a = 0) (h2 : decOK (W.getD a.toNat 0) = false) : findE W own size ls a = 4 := by unfold findE; rw [if_neg (by simpa using h), if_pos h2]
theorem findE_3 {a l c s : Int} (h : adE W own size a = 0) (hd : decI (W.getD a.toNat 0) = (l, c, s, 0)) (h2 : decOK (W.getD a.toNat 0) = true) : findE W own size ls a = (szI ls l c).2 := by unfold findE hdI; rw [if_neg (by simpa using h), if_neg (by rw [h2]; decide), hd]
set_option maxRecDepth 100000 in
set_option maxHeartbeats 1000000 in
theorem find_any (h : ImgP T w M B Wb Ob p q P W size own ls) (hW : Wds W) (a : Int) : Calls Tryz.prog 36 #[.pointer (some ⟨M, 0, none⟩), .int .i64 a] w (FindT W own size ls a w) := by
  obtain ⟨w0, w1⟩ := hW.get a.toNat
  have hb1 := below1 w (.cells #[.int .i64 0, .int .i64 0, .int .i64 0] 32)
  have hl1 := heap_alloc_new w (.cells #[.int .i64 0, .int .i64 0, .int .i64 0] 32)
  have hz1 : (w.alloc (.cells #[.int .i64 0, .int .i64 0, .int .i64 0] 32)).heap.size = w.heap.size + 1 := World.size_alloc _ _
  have hb2 := hb1.on (below1 (w.alloc (.cells #[.int .i64 0, .int .i64 0, .int .i64 0] 32)) (.cells #[.int .i64 0, .slice none 0 0, .int .i64 0, .slice none 0 0] 64))
  have hl2 := (Below.heap_alloc (w.alloc (.cells #[.int .i64 0, .int .i64 0, .int .i64 0] 32)) (.cells #[.int .i64 0, .slice none 0 0, .int .i64 0, .slice none 0 0] 64) _ (block_lt hl1)).trans hl1
  have hr2 := heap_alloc_new (w.alloc (.cells #[.int .i64 0, .int .i64 0, .int .i64 0] 32)) (.cells #[.int .i64 0, .slice none 0 0, .int .i64 0, .slice none 0 0] 64)
  rw [hz1] at hr2
  have hI := h.on hb2
  have c0 := hI.c0
  clear hb1 hl1 hz1 h
  go_enter Tryz.func36, Tryz.ntmps36
  go_wp2_with fail
  generalize hW2 : (w.alloc (.cells #[.int .i64 0, .int .i64 0, .int .i64 0] 32)).alloc (.cells #[.int .i64 0, .slice none 0 0, .int .i64 0, .slice none 0 0] 64) = W2 at *
  clear hW2
  have HI := Lib.hid hI
  have HB2 := Lib.hid hb2
  have HR := Lib.hid (read_t hI.st a)
  have HRC : Hid (RC W2 w.heap.size) := Lib.hid ⟨hl2, hr2⟩
  clear hI hb2 hl2 hr2
  refine HR.out.mono ?_
  rintro e w3 ⟨rfl, rfl⟩
  by_cases g1 : adE W own size a = 0
  · have erd : rdV W own size a = W.getD a.toNat 0 := by unfold rdV; rw [if_pos g1]
    by_cases g2 : decOK (W.getD a.toNat 0) = true
    · rcases dec_parts w0 w1 with ⟨l, c, s, e4, hm, he⟩ | e4
      · have HE := Lib.hid (findE_3 (ls := ls) g1 e4 g2)
        have hl1 := (mayB_iff.1 hm).1
        have HO : Hid ((szI ls l c).2 = 0 → ObjAt W own size ls a l c s (layI ls l) (szI ls l c).1) := Lib.hid (fun hk => by
          obtain ⟨q1, q2, q3⟩ := szI_ok hk
          exact ⟨g1, hm, he.symm, q1, rfl, Prod.ext q3.symm q2⟩)
        rw [erd, g1]
        have HD := Lib.hid (decode_any (W.getD a.toNat 0) W2 w0 w1)
        rw [e4] at HD
        generalize W.getD a.toNat 0 = wd at *
        clear g1 g2 e4 erd he
        go_wp2_with fail
        refine HD.out.mono ?_
        rintro e w4 ⟨rfl, hb4⟩
        have hb5 := hb4.on (below1 w4 (.cells #[.int .i64 l, .int .i64 c, .int .i64 s] 32))
        have g4 := block_lt (HRC.out.on hb4).hr
        have hn5 := heap_alloc_new w4 (.cells #[.int .i64 l, .int .i64 c, .int .i64 s] 32)
        have HS := Lib.hid (isize_any (HI.out.on hb5) l c s hl1)
        have HRC5 := Lib.hid (HRC.out.on hb5)
        have HB5 := Lib.hid (HB2.out.on hb5)
        clear hb4 hb5 HRC
        go_wp2_with fail
        refine HS.out.mono ?_
        rintro e w6 ⟨x, A1, d1, A2, d2, n, rfl, hq, hb6⟩
        have hb7 := hb6.on (below1 w6 (.cells #[.int .i64 x.fixed, .slice A1 x.refs.length d1, .int .i64 x.record, .slice A2 x.recs.length d2] 64))
        have hn7 := (hb7.block _ (block_lt hn5)).trans hn5
        have HQ : Hid ((szI ls l c).2 = 0 → x = layI ls l ∧ n = (szI ls l c).1 ∧ LayIs (w6.alloc (.cells #[.int .i64 x.fixed, .slice A1 x.refs.length d1, .int .i64 x.record, .slice A2 x.recs.length d2] 64)) x A1 d1 A2 d2 ∧ LayF A1 A2 (w.heap.size + 2)) := Lib.hid (fun hk => by
          obtain ⟨q1, q2, q3, q4⟩ := hq hk
          refine ⟨q1, q2, q3.on (below1 w6 _), q4.less ?_⟩
          have := block_lt HRC5.out.hr
          omega)
        have HRC7 := HRC5.out.on hb7
        have g6 := block_lt (HRC5.out.on hb6).hr
        have i1 : ¬ w6.heap.size = w.heap.size := by omega
        have i2 : ¬ w6.heap.size = w.heap.size + 1 := by omega
        have i3 : ¬ w.heap.size = w6.heap.size := by omega
        have i4 : ¬ w.heap.size + 1 = w6.heap.size := by omega
        have i5 : ¬ w4.heap.size = w.heap.size := by omega
        have i6 : ¬ w4.heap.size = w.heap.size + 1 := by omega
        have i7 : ¬ w.heap.size = w4.heap.size := by omega
        have i8 : ¬ w.heap.size + 1 = w4.heap.size := by omega
        have HB7 := Lib.hid (HB5.out.on hb7)
        have z0 := (blk_cells hn7 0).trans rfl
        have z1 := (blk_cells hn7 1).trans rfl
        have z2 := (blk_cells hn7 2).trans rfl
        have k0 := (blk_cells (RC.hl HRC7) 0).trans rfl; have t0 := blk_thaw (RC.hl HRC7) 0; have k1 := (blk_cells (RC.hl HRC7) 1).trans rfl; have t1 := blk_thaw (RC.hl HRC7) 1; have k2 := (blk_cells (RC.hl HRC7) 2).trans rfl; have t2 := blk_thaw (RC.hl HRC7) 2; have r0 := (blk_cells (RC.hr HRC7) 0).trans rfl; have s0 := blk_thaw (RC.hr HRC7) 0; have r1 := (blk_cells (RC.hr HRC7) 1).trans rfl; have s1 := blk_thaw (RC.hr HRC7) 1; have r2 := (blk_cells (RC.hr HRC7) 2).trans rfl; have s2 := blk_thaw (RC.hr HRC7) 2; have r3 := (blk_cells (RC.hr HRC7) 3).trans rfl; have s3 := blk_thaw (RC.hr HRC7) 3
        clear HRC7 hq hb6 hb7 hn7 HRC5 hn5 HS
        go_wp2_with fail
        go_region
        all_goals
          go_wp2
          (try simp only [Exit.inBlock, Exit.then])
          refine bodyPost_ret (v := .tuple #[.agg #[.int .i64 l, .int .i64 c, .int .i64 s], .agg #[.int .i64 x.fixed, .slice A1 x.refs.length d1, .int .i64 x.record, .slice A2 x.recs.length d2], .int .i64 n, .int .i64 (szI ls l c).2]) ?_ rfl ⟨l, c, s, x, A1, d1, A2, d2, n, by rw [HE.out], fun hk => ?_, ?_⟩
          · rw [results_cell2_tmp2 rfl]
            go_simp
            (try rfl)
          · obtain ⟨q1, q2, q3, q4⟩ := HQ.out (HE.out ▸ hk)
            refine ⟨?_, ?_, q4.less (by omega)⟩
            · rw [q1, q2]
              exact HO.out (HE.out ▸ hk)
            · repeat (first | with_reducible refine lay_drw ?_ | (with_reducible refine lay_to q4 ?_ ?_; · omega))
              exact q3
          · repeat (first | with_reducible refine below_drw ?_ | (with_reducible refine below_to ?_ ?_; · omega))
            exact HB7.out
      · exfalso
        unfold decI at e4
        rw [if_pos g2] at e4
        have e5 : (0 : Int) = 4 := congrArg (fun z => z.2.2.2) e4
        cases e5
    · have g2' : decOK (W.getD a.toNat 0) = false := by simpa using g2
      have e4 : decI (W.getD a.toNat 0) = (0, 0, 0, 4) := by unfold decI; rw [if_neg g2]
      have HE := Lib.hid (findE_2 (ls := ls) g1 g2')
      rw [erd, g1]
      have HD := Lib.hid (decode_any (W.getD a.toNat 0) W2 w0 w1)
      rw [e4] at HD
      generalize W.getD a.toNat 0 = wd at *
      clear g1 g2 g2' e4 erd
      go_wp2_with fail
      refine HD.out.mono ?_
      rintro e w4 ⟨rfl, hb4⟩
      have hb5 := hb4.on (below1 w4 (.cells #[.int .i64 0, .int .i64 0, .int .i64 0] 32))
      have hrc := HRC.out.on hb5
      have HB4 := Lib.hid (HB2.out.on hb5)
      clear hb4 hb5
      have k0 := (blk_cells (RC.hl hrc) 0).trans rfl; have t0 := blk_thaw (RC.hl hrc) 0; have k1 := (blk_cells (RC.hl hrc) 1).trans rfl; have t1 := blk_thaw (RC.hl hrc) 1; have k2 := (blk_cells (RC.hl hrc) 2).trans rfl; have t2 := blk_thaw (RC.hl hrc) 2; have r0 := (blk_cells (RC.hr hrc) 0).trans rfl; have s0 := blk_thaw (RC.hr hrc) 0; have r1 := (blk_cells (RC.hr hrc) 1).trans rfl; have s1 := blk_thaw (RC.hr hrc) 1; have r2 := (blk_cells (RC.hr hrc) 2).trans rfl; have s2 := blk_thaw (RC.hr hrc) 2; have r3 := (blk_cells (RC.hr hrc) 3).trans rfl; have s3 := blk_thaw (RC.hr hrc) 3
      clear hrc
      go_wp2
      (try simp only [Exit.inBlock, Exit.then])
      refine bodyPost_ret (v := .tuple #[.agg #[.int .i64 0, .int .i64 0, .int .i64 0], .agg #[.int .i64 0, .slice none 0 0, .int .i64 0, .slice none 0 0], .int .i64 0, .int .i64 4]) ?_ rfl ⟨0, 0, 0, ⟨0, [], 0, []⟩, none, 0, none, 0, 0, by rw [HE.out]; rfl, fun hk => absurd hk (by rw [HE.out]; decide), ?_⟩
      · rw [results_cell2_tmp2 rfl]
        go_simp
        (try rfl)
      · repeat (first | with_reducible refine below_drw ?_ | (with_reducible refine below_to ?_ ?_; · omega))
        exact HB4.out
  · have HE := Lib.hid (findE_1 (ls := ls) g1)
    generalize adE W own size a = ad at *
    have g1' : (ad == 0) = false := by simpa using g1
    generalize rdV W own size a = rd at *
    have hrc := HRC.out
    have k0 := (blk_cells (RC.hl hrc) 0).trans rfl; have t0 := blk_thaw (RC.hl hrc) 0; have k1 := (blk_cells (RC.hl hrc) 1).trans rfl; have t1 := blk_thaw (RC.hl hrc) 1; have k2 := (blk_cells (RC.hl hrc) 2).trans rfl; have t2 := blk_thaw (RC.hl hrc) 2; have r0 := (blk_cells (RC.hr hrc) 0).trans rfl; have s0 := blk_thaw (RC.hr hrc) 0; have r1 := (blk_cells (RC.hr hrc) 1).trans rfl; have s1 := blk_thaw (RC.hr hrc) 1; have r2 := (blk_cells (RC.hr hrc) 2).trans rfl; have s2 := blk_thaw (RC.hr hrc) 2; have r3 := (blk_cells (RC.hr hrc) 3).trans rfl; have s3 := blk_thaw (RC.hr hrc) 3
    clear hrc
    go_wp2
    (try simp only [Exit.inBlock, Exit.then])
    refine bodyPost_ret (v := .tuple #[.agg #[.int .i64 0, .int .i64 0, .int .i64 0], .agg #[.int .i64 0, .slice none 0 0, .int .i64 0, .slice none 0 0], .int .i64 0, .int .i64 ad]) ?_ rfl ⟨0, 0, 0, ⟨0, [], 0, []⟩, none, 0, none, 0, 0, by rw [HE.out]; rfl, fun hk => absurd hk (by rw [HE.out]; exact g1), ?_⟩
    · rw [results_cell2_tmp2 rfl]
      go_simp
      (try rfl)
    · repeat (first | with_reducible refine below_drw ?_ | (with_reducible refine below_to ?_ ?_; · omega))
      exact HB2.out
end Go.Proofs.YtfflacggaebonaaGreatDoor
end
section
namespace Go.Proofs.YtfflacggaebonaaGreatDoor
open Go.RowKit
set_option linter.unusedVariables false
set_option linter.unusedSimpArgs false
variable {w w' : World} {M B Wb Ob p q P D G Wg Og size : Nat} {W W' own own' : List Int} {ls : List Lay} {T : Nat → Prop}
theorem below_alc {o : Obj} (h : Below w.heap.size w w') : Below w.heap.size w (w'.alloc o) := h.on (below1 w' o)
/-- What At tells. -/
def atR (W own : List Int) (size : Nat) (ls : List Lay) (a : Int) : Int × Int × Int × Int :=
  if findE W own size ls a ≠ 0 then (0, 0, 0, 0) else ((hdI W a).1, (hdI W a).2.1, (hdI W a).2.2.1, (szI ls (hdI W a).1 (hdI W a).2.1).1 + 1)
theorem ObjAt.atR {a l c s n : Int} {x : Lay} (h : ObjAt W own size ls a l c s x n) : Go.Proofs.YtfflacggaebonaaGreatDoor.atR W own size ls a = (l, c, s, n + 1) := by
  have e : hdI W a = (l, c, s, 0) := h.dec
  unfold Go.Proofs.YtfflacggaebonaaGreatDoor.atR
  rw [if_neg (by rw [h.find]; simp), e]
  show (l, c, s, (Go.Proofs.YtfflacggaebonaaGreatDoor.szI ls l c).1 + 1) = _
  rw [h.szI]
theorem atR_none {a : Int} (h : findE W own size ls a ≠ 0) : atR W own size ls a = (0, 0, 0, 0) := by unfold atR; rw [if_pos h]
theorem ObjAt.in64 {a l c s n : Int} {x : Lay} (h : ObjAt W own size ls a l c s x n) : IntKind.i64.wrap (n + 1) = n + 1 := by
  have := h.n0
  rw [IntKind.wrap_i64]
  omega
set_option maxRecDepth 100000 in
set_option maxHeartbeats 1000000 in
theorem iat_any (h : ImgP T w M B Wb Ob p q P W size own ls) (hW : Wds W) (a : Int) : Calls Tryz.prog 8 #[.pointer (some ⟨M, 0, none⟩), .int .i64 a] w fun e w' => e = .returned (.tuple #[.agg #[.int .i64 (atR W own size ls a).1, .int .i64 (atR W own size ls a).2.1, .int .i64 (atR W own size ls a).2.2.1], .int .i64 (atR W own size ls a).2.2.2, .int .i64 (findE W own size ls a)]) ∧ Below w.heap.size w w' := by
  have hb1 := below1 w (.cells #[.int .i64 0, .int .i64 0, .int .i64 0] 32)
  have hl1 := heap_alloc_new w (.cells #[.int .i64 0, .int .i64 0, .int .i64 0] 32)
  have HF := Lib.hid (find_any (h.on hb1) hW a)
  go_enter Tryz.func8, Tryz.ntmps8
  go_wp2_with fail
  generalize hW1 : w.alloc (.cells #[.int .i64 0, .int .i64 0, .int .i64 0] 32) = W1 at *
  refine HF.out.mono ?_
  rintro e w2 ⟨l, c, s, x, A1, d1, A2, d2, n, rfl, hq, hb2⟩
  have hb3 := (below1 w2 (.cells #[.int .i64 l, .int .i64 c, .int .i64 s] 32)).on (below1 (w2.alloc (.cells #[.int .i64 l, .int .i64 c, .int .i64 s] 32)) (.cells #[.int .i64 x.fixed, .slice A1 x.refs.length d1, .int .i64 x.record, .slice A2 x.recs.length d2] 64))
  have hl2 := (hb2.block _ (block_lt hl1)).trans hl1
  have hl3 := (hb3.block _ (block_lt hl2)).trans hl2
  have g2 := block_lt hl2
  have HB2 := Lib.hid (hb1.on hb2)
  have k0 := (blk_cells hl3 0).trans rfl
  have k1 := (blk_cells hl3 1).trans rfl
  have k2 := (blk_cells hl3 2).trans rfl
  have t0 := blk_thaw hl3 0
  have t1 := blk_thaw hl3 1
  have t2 := blk_thaw hl3 2
  have y0 := (blk_cells hl2 0).trans rfl
  have y1 := (blk_cells hl2 1).trans rfl
  have y2 := (blk_cells hl2 2).trans rfl
  have z0 := blk_thaw hl2 0
  have z1 := blk_thaw hl2 1
  have z2 := blk_thaw hl2 2
  have i1 : ¬ w2.heap.size = w.heap.size := by omega
  have i2 : ¬ w2.heap.size + 1 = w.heap.size := by omega
  have i3 : ¬ w.heap.size = w2.heap.size := by omega
  have i4 : ¬ w.heap.size = w2.heap.size + 1 := by omega
  clear hl1 hl2 hl3 hb1 hb2 hb3 HF hW1
  by_cases g : findE W own size ls a = 0
  · obtain ⟨ho, -, -⟩ := hq g
    rw [g]
    have HO := Lib.hid ho
    have hw := ho.in64
    clear hq ho
    go_wp2
    (try simp only [Exit.inBlock, Exit.then])
    refine bodyPost_ret (v := .tuple #[.agg #[.int .i64 l, .int .i64 c, .int .i64 s], .int .i64 (n + 1), .int .i64 0]) ?_ rfl ⟨by rw [HO.out.atR, g], ?_⟩
    · rw [results_cell_tmp2 rfl]
      go_simp
      (try rfl)
    · repeat (first | assumption | with_reducible refine below_drw ?_ | with_reducible refine below_alc ?_ | (with_reducible refine below_to ?_ ?_; · omega))
  · generalize hfe : findE W own size ls a = fe
    have HE := Lib.hid hfe
    have g' : (fe == 0) = false := by rw [← hfe]; simpa using g
    have g2 : ¬ fe = 0 := by rw [← hfe]; exact g
    clear hq hfe
    go_wp2
    (try simp only [Exit.inBlock, Exit.then])
    refine bodyPost_ret (v := .tuple #[.agg #[.int .i64 0, .int .i64 0, .int .i64 0], .int .i64 0, .int .i64 fe]) ?_ rfl ⟨by rw [atR_none g, HE.out], ?_⟩
    · rw [results_cell_tmp2 rfl]
      go_simp
      (try rfl)
    · repeat (first | assumption | with_reducible refine below_drw ?_ | with_reducible refine below_alc ?_ | (with_reducible refine below_to ?_ ?_; · omega))
set_option maxRecDepth 100000 in
theorem iat_nil (a : Int) (w : World) : Calls Tryz.prog 8 #[.pointer none, .int .i64 a] w fun e w' => e = .returned (.tuple #[.agg #[.int .i64 0, .int .i64 0, .int .i64 0], .int .i64 0, .int .i64 1]) ∧ Below w.heap.size w w' := by
  go_enter Tryz.func8, Tryz.ntmps8
  go_wp2
  (try simp only [Exit.inBlock, Exit.then])
  refine bodyPost_ret (v := .tuple #[.agg #[.int .i64 0, .int .i64 0, .int .i64 0], .int .i64 0, .int .i64 1]) ?_ rfl ⟨rfl, ?_⟩
  · rw [results_cell_tmp2 rfl]
    go_simp
    (try rfl)
  · repeat (first | with_reducible refine below_drw ?_ | (with_reducible refine below_to ?_ ?_; · omega))
    exact below1 _ _
theorem word_nil (a p : Int) (r : Bool) (w : World) : Calls Tryz.prog 59 #[.pointer none, .int .i64 a, .int .i64 p, .bool r] w fun e w' => e = .returned (.tuple #[.int .i64 0, .int .i64 1]) ∧ w = w' := by
  go_enter Tryz.func59, Tryz.ntmps59
  go_wp2
  go_ret2
  exact ⟨rfl, rfl⟩
/-- Where a place's word is, or what is wrong. -/
def placeR (W own : List Int) (size : Nat) (ls : List Lay) (a p : Int) (r : Bool) : Int := if wordE W own size ls a p r = 0 then a + 1 + p else 0
set_option maxRecDepth 100000 in
set_option maxHeartbeats 1000000 in
theorem iword_any (h : ImgP T w M B Wb Ob p q P W size own ls) (hW : Wds W) (hL : W.length ≤ 1048576) (a pl : Int) (r : Bool) : Calls Tryz.prog 59 #[.pointer (some ⟨M, 0, none⟩), .int .i64 a, .int .i64 pl, .bool r] w fun e w' => e = .returned (.tuple #[.int .i64 (placeR W own size ls a pl r), .int .i64 (wordE W own size ls a pl r)]) ∧ Below w.heap.size w w' := by
  have HF := Lib.hid (find_any h hW a)
  go_enter Tryz.func59, Tryz.ntmps59
  go_wp2_with fail
  refine HF.out.mono ?_
  rintro e w2 ⟨l, c, s, x, A1, d1, A2, d2, n, rfl, hq, hb2⟩
  have hb3 := (below1 w2 (.cells #[.int .i64 l, .int .i64 c, .int .i64 s] 32)).on (below1 (w2.alloc (.cells #[.int .i64 l, .int .i64 c, .int .i64 s] 32)) (.cells #[.int .i64 x.fixed, .slice A1 x.refs.length d1, .int .i64 x.record, .slice A2 x.recs.length d2] 64))
  have HB3 := Lib.hid (hb2.on hb3)
  by_cases g : findE W own size ls a = 0
  · obtain ⟨ho, hly, -⟩ := hq g
    rw [g]
    have HO := Lib.hid ho
    have HI := Lib.hid (isref_any x c pl A1 d1 A2 d2 _ (hly.on hb3))
    obtain ⟨m, ha, hm, -⟩ := adE_ok ho.ad
    have hn := ho.n0
    have HWE := Lib.hid (ho.wordE (p := pl) r)
    have hie : x.isRefE c pl = if pl < 0 ∨ n ≤ pl then (false, 3) else (x.isRef pl, 0) := by
      have hs := ho.sz
      unfold Lay.isRefE
      rw [hs]
      simp only [if_true]
    have w1 : IntKind.i64.wrap (a + 1) = a + 1 := by rw [IntKind.wrap_i64]; omega
    unfold layV at HI
    clear hq ho hly hb3 hb2 HF
    by_cases gp : pl < 0 ∨ n ≤ pl
    · rw [if_pos gp] at hie
      have HP := Lib.hid gp
      rw [hie] at HI
      rw [if_pos gp] at HWE
      clear gp hie
      go_wp2_with fail
      refine HI.out.mono ?_
      rintro e w4 ⟨rfl, hb4⟩
      have HB4 := Lib.hid (HB3.out.on hb4)
      clear hb4
      go_wp2
      go_ret2
      refine ⟨?_, HB4.out⟩
      rw [HWE.out, placeR, HWE.out]
      rfl
    · rw [if_neg gp] at hie
      have w2' : IntKind.i64.wrap (a + 1 + pl) = a + 1 + pl := by rw [IntKind.wrap_i64]; omega
      rw [hie] at HI
      rw [if_neg gp] at HWE
      clear gp hie ha hm hn
      generalize x.isRef pl = xr at *
      go_wp2_with fail
      refine HI.out.mono ?_
      rintro e w4 ⟨rfl, hb4⟩
      have HB4 := Lib.hid (HB3.out.on hb4)
      clear hb4
      cases xr <;> cases r
      all_goals
        go_wp2
        go_ret2
        refine ⟨?_, HB4.out⟩
        rw [HWE.out, placeR, HWE.out]
        rfl
  · generalize hfe : findE W own size ls a = fe
    have HE := Lib.hid hfe
    have g' : (fe == 0) = false := by rw [← hfe]; simpa using g
    have g2 : ¬ fe = 0 := by rw [← hfe]; exact g
    have HWE : Hid (wordE W own size ls a pl r = fe) := Lib.hid (by unfold wordE; rw [if_pos g, hfe])
    clear hq hfe
    go_wp2
    go_ret2
    refine ⟨?_, HB3.out⟩
    rw [HWE.out, placeR, HWE.out, if_neg g2]
    rfl
end Go.Proofs.YtfflacggaebonaaGreatDoor
end
section
namespace Go.Proofs.YtfflacggaebonaaGreatDoor
open Go.RowKit
set_option linter.unusedVariables false
set_option linter.unusedSimpArgs false
variable {w w' : World} {M B Wb Ob p q P D G Wg Og size : Nat} {W W' own own' : List Int} {ls : List Lay} {T : Nat → Prop}
theorem placeR_in {a pl : Int} {r : Bool} (h : wordE W own size ls a pl r = 0) : placeR W own size ls a pl r = a + 1 + pl := by unfold placeR; rw [if_pos h]
set_option maxRecDepth 100000 in
set_option maxHeartbeats 1000000 in
theorem read_load (h : ImgP T w M B Wb Ob p q P W size own ls) (hW : Wds W) (a pl : Int) : Calls Tryz.prog 48 #[.pointer (some ⟨M, 0, none⟩), .int .i64 a, .int .i64 pl, .bool false, .func (.func 12) #[] #[]] w fun e w' => e = .returned (.tuple #[.int .u64 (loadR W own size ls a pl).1, .int .i64 (loadR W own size ls a pl).2]) ∧ Below w.heap.size w w' := by
  have HF := Lib.hid (iword_any h hW h.st.wlen a pl false)
  have HI := Lib.hid h
  by_cases g : wordE W own size ls a pl false = 0
  · have hp := placeR_in g
    have HE : Hid (loadR W own size ls a pl = if adE W own size (a + 1 + pl) ≠ 0 then (0, adE W own size (a + 1 + pl)) else (W.getD (a + 1 + pl).toNat 0, 0)) := Lib.hid (by unfold loadR; rw [if_neg (by simpa using g)])
    rw [g, hp] at HF
    clear g hp h
    generalize a + 1 + pl = at' at *
    by_cases g1 : adE W own size at' = 0
    · have HR : Hid (∀ Y, Below w.heap.size w Y → Calls Tryz.prog 12 #[.pointer (some ⟨B, 0, none⟩), .int .i64 at'] Y fun e w' => e = .returned (.tuple #[.int .u64 (W.getD at'.toNat 0), .int .i64 0]) ∧ Y = w') := Lib.hid (fun Y hY => (read_t (HI.out.on hY).st at').mono fun e w' ⟨h1, h2⟩ => ⟨by rw [h1, g1]; unfold rdV; rw [if_pos g1], h2⟩)
      rw [if_neg (by simpa using g1)] at HE
      clear g1
      generalize loadR W own size ls a pl = lr at *
      generalize W.getD at'.toNat 0 = wd at *
      go_enter Tryz.func48, Tryz.ntmps48
      go_wp2_with fail
      refine HF.out.mono ?_
      rintro e w2 ⟨rfl, hb2⟩
      have HB2 := Lib.hid hb2
      have c0 := (HI.out.on hb2).c0
      clear hb2
      go_wp2_with fail
      refine (HR.out _ HB2.out).mono ?_
      rintro e w3 ⟨rfl, rfl⟩
      go_wp2
      go_ret2
      exact ⟨by rw [HE.out]; rfl, HB2.out⟩
    · have HR : Hid (∀ Y, Below w.heap.size w Y → Calls Tryz.prog 12 #[.pointer (some ⟨B, 0, none⟩), .int .i64 at'] Y fun e w' => e = .returned (.tuple #[.int .u64 0, .int .i64 (adE W own size at')]) ∧ Y = w') := Lib.hid (fun Y hY => (read_t (HI.out.on hY).st at').mono fun e w' ⟨h1, h2⟩ => ⟨by rw [h1]; unfold rdV; rw [if_neg g1], h2⟩)
      rw [if_pos g1] at HE
      generalize loadR W own size ls a pl = lr at *
      generalize adE W own size at' = ad at *
      have g' : (ad == 0) = false := by simpa using g1
      go_enter Tryz.func48, Tryz.ntmps48
      go_wp2_with fail
      refine HF.out.mono ?_
      rintro e w2 ⟨rfl, hb2⟩
      have HB2 := Lib.hid hb2
      have c0 := (HI.out.on hb2).c0
      clear hb2
      go_wp2_with fail
      refine (HR.out _ HB2.out).mono ?_
      rintro e w3 ⟨rfl, rfl⟩
      go_wp2
      go_ret2
      exact ⟨by rw [HE.out]; rfl, HB2.out⟩
  · have HE : Hid (loadR W own size ls a pl = (0, wordE W own size ls a pl false)) := Lib.hid (by unfold loadR; rw [if_pos g])
    clear h
    generalize loadR W own size ls a pl = lr at *
    generalize wordE W own size ls a pl false = we at *
    generalize placeR W own size ls a pl false = pr at *
    have g' : (we == 0) = false := by simpa using g
    go_enter Tryz.func48, Tryz.ntmps48
    go_wp2_with fail
    refine HF.out.mono ?_
    rintro e w2 ⟨rfl, hb2⟩
    have HB2 := Lib.hid hb2
    clear hb2
    go_wp2
    go_ret2
    exact ⟨by rw [HE.out]; rfl, HB2.out⟩
theorem read_load_nil (a pl : Int) (w : World) : Calls Tryz.prog 48 #[.pointer none, .int .i64 a, .int .i64 pl, .bool false, .func (.func 12) #[] #[]] w fun e w' => e = .returned (.tuple #[.int .u64 0, .int .i64 1]) ∧ w = w' := by
  have HF := Lib.hid (word_nil a pl false w)
  go_enter Tryz.func48, Tryz.ntmps48
  go_wp2_with fail
  refine HF.out.mono ?_
  rintro e w2 ⟨rfl, rfl⟩
  go_wp2
  go_ret2
  exact ⟨rfl, rfl⟩
theorem load_any (h : ImgP T w M B Wb Ob p q P W size own ls) (hW : Wds W) (a pl : Int) : Calls Tryz.prog 16 #[.pointer (some ⟨M, 0, none⟩), .int .i64 a, .int .i64 pl] w fun e w' => e = .returned (.tuple #[.int .u64 (loadR W own size ls a pl).1, .int .i64 (loadR W own size ls a pl).2]) ∧ Below w.heap.size w w' := by
  have HF := Lib.hid (read_load h hW a pl)
  clear h
  go_enter Tryz.func16, Tryz.ntmps16
  go_wp2_with fail
  refine HF.out.mono ?_
  rintro e w2 ⟨rfl, hb2⟩
  go_wp2
  go_ret2
  exact ⟨rfl, hb2⟩
theorem load_nil (a pl : Int) (w : World) : Calls Tryz.prog 16 #[.pointer none, .int .i64 a, .int .i64 pl] w fun e w' => e = .returned (.tuple #[.int .u64 0, .int .i64 1]) ∧ w = w' := by
  have HF := Lib.hid (read_load_nil a pl w)
  go_enter Tryz.func16, Tryz.ntmps16
  go_wp2_with fail
  refine HF.out.mono ?_
  rintro e w2 ⟨rfl, rfl⟩
  go_wp2
  go_ret2
  exact ⟨rfl, rfl⟩
set_option maxRecDepth 100000 in
set_option maxHeartbeats 1000000 in
theorem save_any (h : ImgP T w M B Wb Ob p q P W size own ls) (hW : Wds W) (a pl x : Int) : Calls Tryz.prog 28 #[.pointer (some ⟨M, 0, none⟩), .int .i64 a, .int .i64 pl, .int .u64 x] w fun e w' => e = .returned (.int .i64 (saveR W own size ls a pl x).1) ∧ ImgP T w' M B Wb Ob p q P (saveR W own size ls a pl x).2 size own ls ∧ Mod (Four3 Wb Ob p q) w w' := by
  have HF := Lib.hid (iword_any h hW h.st.wlen a pl false)
  have HI := Lib.hid h
  by_cases g : wordE W own size ls a pl false = 0
  · have hp := placeR_in g
    have HE : Hid (saveR W own size ls a pl x = (adE W own size (a + 1 + pl), wrW W own size (a + 1 + pl) x)) := Lib.hid (by
      unfold saveR wrW
      rw [if_neg (by simpa using g)]
      by_cases g1 : adE W own size (a + 1 + pl) = 0
      · rw [if_neg (by simpa using g1), if_pos g1, g1]
      · rw [if_pos g1, if_neg g1])
    rw [g, hp] at HF
    clear g hp h
    generalize a + 1 + pl = at' at *
    have HR : Hid (∀ Y, Below w.heap.size w Y → Calls Tryz.prog 35 #[.pointer (some ⟨B, 0, none⟩), .int .i64 at', .int .u64 x] Y fun e w' => e = .returned (.int .i64 (adE W own size at')) ∧ StoreAt w' B Wb Ob p q (wrW W own size at' x) size own ∧ Mod (Four3 Wb Ob p q) Y w') := Lib.hid (fun Y hY => write_t (HI.out.on hY).st at' x)
    generalize saveR W own size ls a pl x = sr at *
    generalize adE W own size at' = ad at *
    generalize wrW W own size at' x = wx at *
    go_enter Tryz.func28, Tryz.ntmps28
    go_wp2_with fail
    refine HF.out.mono ?_
    rintro e w2 ⟨rfl, hb2⟩
    have HB2 := Lib.hid hb2
    have c0 := (HI.out.on hb2).c0
    clear hb2
    go_wp2_with fail
    refine (HR.out _ HB2.out).mono ?_
    rintro e w3 ⟨rfl, hs, hm⟩
    have HS := Lib.hid (And.intro hs hm)
    clear hs hm
    go_wp2
    go_ret
    refine ⟨by rw [HE.out]; rfl, ?_, (Mod.of_below HB2.out).trans HS.out.2⟩
    rw [HE.out]
    exact (HI.out.on HB2.out).turn HS.out.1 HS.out.2
  · have HE : Hid (saveR W own size ls a pl x = (wordE W own size ls a pl false, W)) := Lib.hid (by unfold saveR; rw [if_pos g])
    clear h
    generalize saveR W own size ls a pl x = sr at *
    generalize wordE W own size ls a pl false = we at *
    generalize placeR W own size ls a pl false = pr at *
    have g' : (we == 0) = false := by simpa using g
    go_enter Tryz.func28, Tryz.ntmps28
    go_wp2_with fail
    refine HF.out.mono ?_
    rintro e w2 ⟨rfl, hb2⟩
    have HB2 := Lib.hid hb2
    clear hb2
    go_wp2
    go_ret
    refine ⟨by rw [HE.out]; rfl, ?_, Mod.of_below HB2.out⟩
    rw [HE.out]
    exact HI.out.on HB2.out
theorem save_nil (a pl x : Int) (w : World) : Calls Tryz.prog 28 #[.pointer none, .int .i64 a, .int .i64 pl, .int .u64 x] w fun e w' => e = .returned (.int .i64 1) ∧ w = w' := by
  have HF := Lib.hid (word_nil a pl false w)
  go_enter Tryz.func28, Tryz.ntmps28
  go_wp2_with fail
  refine HF.out.mono ?_
  rintro e w2 ⟨rfl, rfl⟩
  go_wp2
  go_ret
  exact ⟨rfl, rfl⟩
end Go.Proofs.YtfflacggaebonaaGreatDoor
end
section
namespace Go.Proofs.YtfflacggaebonaaGreatDoor
open Go.RowKit
set_option linter.unusedVariables false
set_option linter.unusedSimpArgs false
variable {w w' : World} {M B Wb Ob p q P D G Wg Og size : Nat} {W W' own own' : List Int} {ls : List Lay} {T : Nat → Prop}
/-- What a word of a store tells as a link. -/
def lkR (W own : List Int) (size : Nat) (a : Int) : Int × Int × Int × Int := if adE W own size a ≠ 0 then (0, 0, 0, adE W own size a) else linkI (W.getD a.toNat 0)
set_option maxRecDepth 100000 in
set_option maxHeartbeats 1000000 in
theorem ilink_any (h : StoreAt w B Wb Ob p q W size own) (hW : Wds W) (a : Int) : Calls Tryz.prog 50 #[.pointer (some ⟨B, 0, none⟩), .int .i64 a] w fun e w' => e = .returned (.tuple #[.agg #[.int .i64 (lkR W own size a).1, .int .i64 (lkR W own size a).2.1, .int .i64 (lkR W own size a).2.2.1], .int .i64 (lkR W own size a).2.2.2]) ∧ Below w.heap.size w w' := by
  obtain ⟨w0, w1⟩ := hW.get a.toNat
  have hb1 := below1 w (.cells #[.int .i64 0, .int .i64 0, .int .i64 0] 37)
  have hl1 := heap_alloc_new w (.cells #[.int .i64 0, .int .i64 0, .int .i64 0] 37)
  have HR := Lib.hid (read_t (h.on hb1) a)
  have HB1 := Lib.hid hb1
  have HL1 := Lib.hid hl1
  clear h hb1 hl1
  by_cases g1 : adE W own size a = 0
  · have HE : Hid (lkR W own size a = linkI (W.getD a.toNat 0)) := Lib.hid (by unfold lkR; rw [if_neg (by simpa using g1)])
    have erd : rdV W own size a = W.getD a.toNat 0 := by unfold rdV; rw [if_pos g1]
    rw [erd, g1] at HR
    have HD : Hid (∀ Y, Calls Tryz.prog 76 #[.int .u64 (W.getD a.toNat 0)] Y fun e w' => e = .returned (.tuple #[.agg #[.int .i64 (linkI (W.getD a.toNat 0)).1, .int .i64 (linkI (W.getD a.toNat 0)).2.1, .int .i64 (linkI (W.getD a.toNat 0)).2.2.1], .int .i64 (linkI (W.getD a.toNat 0)).2.2.2]) ∧ Below Y.heap.size Y w') := Lib.hid (fun Y => link_any (W.getD a.toNat 0) Y w0 w1)
    generalize lkR W own size a = lk at *
    generalize linkI (W.getD a.toNat 0) = li at *
    obtain ⟨i1, i2, i3, i4⟩ := li
    generalize W.getD a.toNat 0 = wd at *
    clear g1 erd w0 w1
    go_enter Tryz.func50, Tryz.ntmps50
    go_wp2_with fail
    generalize w.alloc (.cells #[.int .i64 0, .int .i64 0, .int .i64 0] 37) = W1 at *
    refine HR.out.mono ?_
    rintro e w2 ⟨rfl, rfl⟩
    go_wp2_with fail
    refine (HD.out _).mono ?_
    rintro e w3 ⟨rfl, hb3⟩
    have hl3 := (hb3.block _ (block_lt HL1.out)).trans HL1.out
    have HB3 := Lib.hid (HB1.out.on hb3)
    have k0 := (blk_cells hl3 0).trans rfl
    have k1 := (blk_cells hl3 1).trans rfl
    have k2 := (blk_cells hl3 2).trans rfl
    have t0 := blk_thaw hl3 0
    have t1 := blk_thaw hl3 1
    have t2 := blk_thaw hl3 2
    clear hl3 hb3
    go_wp2
    (try simp only [Exit.inBlock, Exit.then])
    refine bodyPost_ret (v := .tuple #[.agg #[.int .i64 i1, .int .i64 i2, .int .i64 i3], .int .i64 i4]) ?_ rfl ⟨by rw [HE.out], ?_⟩
    · rw [results_cell_tmp rfl]
      go_simp
      (try rfl)
    · repeat (first | with_reducible refine below_drw ?_ | (with_reducible refine below_to ?_ ?_; · omega))
      exact HB3.out
  · have HE : Hid (lkR W own size a = (0, 0, 0, adE W own size a)) := Lib.hid (by unfold lkR; rw [if_pos g1])
    generalize lkR W own size a = lk at *
    generalize adE W own size a = ad at *
    generalize rdV W own size a = rd at *
    have g' : (ad == 0) = false := by simpa using g1
    have k0 := (blk_cells HL1.out 0).trans rfl
    have k1 := (blk_cells HL1.out 1).trans rfl
    have k2 := (blk_cells HL1.out 2).trans rfl
    have t0 := blk_thaw HL1.out 0
    have t1 := blk_thaw HL1.out 1
    have t2 := blk_thaw HL1.out 2
    go_enter Tryz.func50, Tryz.ntmps50
    go_wp2_with fail
    generalize w.alloc (.cells #[.int .i64 0, .int .i64 0, .int .i64 0] 37) = W1 at *
    refine HR.out.mono ?_
    rintro e w2 ⟨rfl, rfl⟩
    go_wp2
    (try simp only [Exit.inBlock, Exit.then])
    refine bodyPost_ret (v := .tuple #[.agg #[.int .i64 0, .int .i64 0, .int .i64 0], .int .i64 ad]) ?_ rfl ⟨by rw [HE.out], ?_⟩
    · rw [results_cell_tmp rfl]
      go_simp
      (try rfl)
    · repeat (first | with_reducible refine below_drw ?_ | (with_reducible refine below_to ?_ ?_; · omega))
      exact HB1.out
/-- Two result cells of links as they were made. -/
structure RL (w : World) (n : Nat) : Prop where
  hl : w.heap[n]? = some (.cells #[.int .i64 0, .int .i64 0, .int .i64 0] 37 (0, 0))
  hr : w.heap[n + 1]? = some (.cells #[.int .i64 0, .int .i64 0, .int .i64 0] 37 (0, 0))
theorem RL.on {n : Nat} (h : RL w n) (hb : Below w.heap.size w w') : RL w' n := ⟨(hb.block _ (block_lt h.hl)).trans h.hl, (hb.block _ (block_lt h.hr)).trans h.hr⟩
theorem lkR_err {a : Int} (hW : Wds W) (h : (lkR W own size a).2.2.2 ≠ 0) : lkR W own size a = (0, 0, 0, (lkR W own size a).2.2.2) := by
  unfold lkR at h ⊢
  by_cases g : adE W own size a = 0
  · rw [if_neg (by simpa using g)] at h ⊢
    obtain ⟨w0, w1⟩ := hW.get a.toNat
    rcases link_parts w0 w1 with ⟨k, i, g, e, _⟩ | e
    · rw [e] at h; exact absurd rfl h
    · rw [e]
  · rw [if_pos g]
theorem rl_made (w : World) : RL ((w.alloc (.cells #[.int .i64 0, .int .i64 0, .int .i64 0] 37)).alloc (.cells #[.int .i64 0, .int .i64 0, .int .i64 0] 37)) w.heap.size := by
  have hl1 := heap_alloc_new w (.cells #[.int .i64 0, .int .i64 0, .int .i64 0] 37)
  have hz1 : (w.alloc (.cells #[.int .i64 0, .int .i64 0, .int .i64 0] 37)).heap.size = w.heap.size + 1 := World.size_alloc _ _
  have hr2 := heap_alloc_new (w.alloc (.cells #[.int .i64 0, .int .i64 0, .int .i64 0] 37)) (.cells #[.int .i64 0, .int .i64 0, .int .i64 0] 37)
  rw [hz1] at hr2
  exact ⟨(Below.heap_alloc _ _ _ (block_lt hl1)).trans hl1, hr2⟩
set_option maxRecDepth 100000 in
set_option maxHeartbeats 1000000 in
theorem read_link (h : ImgP T w M B Wb Ob p q P W size own ls) (hW : Wds W) (a pl : Int) : Calls Tryz.prog 49 #[.pointer (some ⟨M, 0, none⟩), .int .i64 a, .int .i64 pl, .bool true, .func (.func 50) #[] #[]] w fun e w' => e = .returned (.tuple #[.agg #[.int .i64 (followR W own size ls a pl).1, .int .i64 (followR W own size ls a pl).2.1, .int .i64 (followR W own size ls a pl).2.2.1], .int .i64 (followR W own size ls a pl).2.2.2]) ∧ Below w.heap.size w w' := by
  have hb2 := (below1 w (.cells #[.int .i64 0, .int .i64 0, .int .i64 0] 37)).on (below1 (w.alloc (.cells #[.int .i64 0, .int .i64 0, .int .i64 0] 37)) (.cells #[.int .i64 0, .int .i64 0, .int .i64 0] 37))
  have HRL := Lib.hid (rl_made w)
  have HF := Lib.hid (iword_any (h.on hb2) hW h.st.wlen a pl true)
  have HI := Lib.hid (h.on hb2)
  have HB := Lib.hid hb2
  clear hb2
  by_cases g : wordE W own size ls a pl true = 0
  · have hp := placeR_in g
    have HE : Hid (followR W own size ls a pl = lkR W own size (a + 1 + pl)) := Lib.hid (by unfold followR lkR; rw [if_neg (by simpa using g)])
    rw [g, hp] at HF
    clear g hp h
    generalize a + 1 + pl = at' at *
    have HER := Lib.hid (fun h => lkR_err (W := W) (own := own) (size := size) (a := at') hW h)
    have HL : Hid (∀ X, ImgP T X M B Wb Ob p q P W size own ls → Calls Tryz.prog 50 #[.pointer (some ⟨B, 0, none⟩), .int .i64 at'] X fun e w' => e = .returned (.tuple #[.agg #[.int .i64 (lkR W own size at').1, .int .i64 (lkR W own size at').2.1, .int .i64 (lkR W own size at').2.2.1], .int .i64 (lkR W own size at').2.2.2]) ∧ Below X.heap.size X w') := Lib.hid (fun X hX => ilink_any hX.st hW at')
    generalize followR W own size ls a pl = fr at *
    generalize lkR W own size at' = lk at *
    obtain ⟨i1, i2, i3, i4⟩ := lk
    go_enter Tryz.func49, Tryz.ntmps49
    go_wp2_with fail
    generalize (w.alloc (.cells #[.int .i64 0, .int .i64 0, .int .i64 0] 37)).alloc (.cells #[.int .i64 0, .int .i64 0, .int .i64 0] 37) = W2 at *
    refine HF.out.mono ?_
    rintro e w3 ⟨rfl, hb3⟩
    have HI3 := Lib.hid (HI.out.on hb3)
    have HB3 := Lib.hid (HB.out.on hb3)
    have HRL3 := Lib.hid (HRL.out.on hb3)
    have c0 := HI3.out.c0
    clear hb3 HI HB HRL
    go_wp2_with fail
    refine (HL.out _ HI3.out).mono ?_
    rintro e w4 ⟨rfl, hb4⟩
    have hb5 := hb4.on (below1 w4 (.cells #[.int .i64 i1, .int .i64 i2, .int .i64 i3] 37))
    have HB5 := Lib.hid (HB3.out.on hb5)
    have HB4 := Lib.hid (HB3.out.on hb4)
    have hrl4 := HRL3.out.on hb4
    have hrl5 := HRL3.out.on hb5
    have q4 := block_lt hrl4.hr
    have j1 : ¬ w4.heap.size = w.heap.size := by omega
    have j2 : ¬ w4.heap.size = w.heap.size + 1 := by omega
    have j3 : ¬ w.heap.size = w4.heap.size := by omega
    have j4 : ¬ w.heap.size + 1 = w4.heap.size := by omega
    have k0 := (blk_cells (RL.hl hrl4) 0).trans rfl; have t0 := blk_thaw (RL.hl hrl4) 0; have k1 := (blk_cells (RL.hl hrl4) 1).trans rfl; have t1 := blk_thaw (RL.hl hrl4) 1; have k2 := (blk_cells (RL.hl hrl4) 2).trans rfl; have t2 := blk_thaw (RL.hl hrl4) 2; have r0 := (blk_cells (RL.hr hrl4) 0).trans rfl; have s0 := blk_thaw (RL.hr hrl4) 0; have r1 := (blk_cells (RL.hr hrl4) 1).trans rfl; have s1 := blk_thaw (RL.hr hrl4) 1; have r2 := (blk_cells (RL.hr hrl4) 2).trans rfl; have s2 := blk_thaw (RL.hr hrl4) 2
    have k0 := (blk_cells (RL.hl hrl5) 0).trans rfl; have t0 := blk_thaw (RL.hl hrl5) 0; have k1 := (blk_cells (RL.hl hrl5) 1).trans rfl; have t1 := blk_thaw (RL.hl hrl5) 1; have k2 := (blk_cells (RL.hl hrl5) 2).trans rfl; have t2 := blk_thaw (RL.hl hrl5) 2; have r0 := (blk_cells (RL.hr hrl5) 0).trans rfl; have s0 := blk_thaw (RL.hr hrl5) 0; have r1 := (blk_cells (RL.hr hrl5) 1).trans rfl; have s1 := blk_thaw (RL.hr hrl5) 1; have r2 := (blk_cells (RL.hr hrl5) 2).trans rfl; have s2 := blk_thaw (RL.hr hrl5) 2
    clear hrl4 hrl5 hb4 hb5 HRL3 HI3 c0
    by_cases g4 : i4 = 0
    · subst g4
      clear HER
      go_wp2
      (try simp only [Exit.inBlock, Exit.then])
      refine bodyPost_ret (v := .tuple #[.agg #[.int .i64 i1, .int .i64 i2, .int .i64 i3], .int .i64 0]) ?_ rfl ⟨by rw [HE.out], ?_⟩
      · rw [results_cell_tmp rfl]
        go_simp
        (try rfl)
      · repeat (first | assumption | with_reducible refine below_drw ?_ | with_reducible refine below_alc ?_ | (with_reducible refine below_to ?_ ?_; · omega))
    · have e3 := HER.out g4
      have g' : (i4 == 0) = false := by simpa using g4
      obtain ⟨rfl, e4⟩ := Prod.mk.inj e3
      obtain ⟨rfl, e5⟩ := Prod.mk.inj e4
      obtain ⟨rfl, -⟩ := Prod.mk.inj e5
      clear HER e3 e4 e5
      go_wp2
      (try simp only [Exit.inBlock, Exit.then])
      refine bodyPost_ret (v := .tuple #[.agg #[.int .i64 0, .int .i64 0, .int .i64 0], .int .i64 i4]) ?_ rfl ⟨by rw [HE.out], ?_⟩
      · rw [results_cell_tmp rfl]
        go_simp
        (try rfl)
      · repeat (first | assumption | with_reducible refine below_drw ?_ | with_reducible refine below_alc ?_ | (with_reducible refine below_to ?_ ?_; · omega))
  · have HE : Hid (followR W own size ls a pl = (0, 0, 0, wordE W own size ls a pl true)) := Lib.hid (by unfold followR; rw [if_pos g])
    clear h
    generalize followR W own size ls a pl = fr at *
    generalize wordE W own size ls a pl true = we at *
    generalize placeR W own size ls a pl true = pr at *
    have g' : (we == 0) = false := by simpa using g
    go_enter Tryz.func49, Tryz.ntmps49
    go_wp2_with fail
    generalize (w.alloc (.cells #[.int .i64 0, .int .i64 0, .int .i64 0] 37)).alloc (.cells #[.int .i64 0, .int .i64 0, .int .i64 0] 37) = W2 at *
    refine HF.out.mono ?_
    rintro e w3 ⟨rfl, hb3⟩
    have HB3 := Lib.hid (HB.out.on hb3)
    have hrl := HRL.out.on hb3
    have k0 := (blk_cells (RL.hl hrl) 0).trans rfl; have t0 := blk_thaw (RL.hl hrl) 0; have k1 := (blk_cells (RL.hl hrl) 1).trans rfl; have t1 := blk_thaw (RL.hl hrl) 1; have k2 := (blk_cells (RL.hl hrl) 2).trans rfl; have t2 := blk_thaw (RL.hl hrl) 2; have r0 := (blk_cells (RL.hr hrl) 0).trans rfl; have s0 := blk_thaw (RL.hr hrl) 0; have r1 := (blk_cells (RL.hr hrl) 1).trans rfl; have s1 := blk_thaw (RL.hr hrl) 1; have r2 := (blk_cells (RL.hr hrl) 2).trans rfl; have s2 := blk_thaw (RL.hr hrl) 2
    clear hb3 hrl
    go_wp2
    (try simp only [Exit.inBlock, Exit.then])
    refine bodyPost_ret (v := .tuple #[.agg #[.int .i64 0, .int .i64 0, .int .i64 0], .int .i64 we]) ?_ rfl ⟨by rw [HE.out], ?_⟩
    · rw [results_cell_tmp rfl]
      go_simp
      (try rfl)
    · repeat (first | assumption | with_reducible refine below_drw ?_ | with_reducible refine below_alc ?_ | (with_reducible refine below_to ?_ ?_; · omega))
set_option maxRecDepth 100000 in
theorem read_link_nil (a pl : Int) (w : World) : Calls Tryz.prog 49 #[.pointer none, .int .i64 a, .int .i64 pl, .bool true, .func (.func 50) #[] #[]] w fun e w' => e = .returned (.tuple #[.agg #[.int .i64 0, .int .i64 0, .int .i64 0], .int .i64 1]) ∧ Below w.heap.size w w' := by
  have hb2 := (below1 w (.cells #[.int .i64 0, .int .i64 0, .int .i64 0] 37)).on (below1 (w.alloc (.cells #[.int .i64 0, .int .i64 0, .int .i64 0] 37)) (.cells #[.int .i64 0, .int .i64 0, .int .i64 0] 37))
  have hrl := rl_made w
  have HB := Lib.hid hb2
  clear hb2
  have k0 := (blk_cells (RL.hl hrl) 0).trans rfl; have t0 := blk_thaw (RL.hl hrl) 0; have k1 := (blk_cells (RL.hl hrl) 1).trans rfl; have t1 := blk_thaw (RL.hl hrl) 1; have k2 := (blk_cells (RL.hl hrl) 2).trans rfl; have t2 := blk_thaw (RL.hl hrl) 2; have r0 := (blk_cells (RL.hr hrl) 0).trans rfl; have s0 := blk_thaw (RL.hr hrl) 0; have r1 := (blk_cells (RL.hr hrl) 1).trans rfl; have s1 := blk_thaw (RL.hr hrl) 1; have r2 := (blk_cells (RL.hr hrl) 2).trans rfl; have s2 := blk_thaw (RL.hr hrl) 2
  clear hrl
  go_enter Tryz.func49, Tryz.ntmps49
  go_wp2_with fail
  generalize (w.alloc (.cells #[.int .i64 0, .int .i64 0, .int .i64 0] 37)).alloc (.cells #[.int .i64 0, .int .i64 0, .int .i64 0] 37) = W2 at *
  refine (word_nil a pl true W2).mono ?_
  rintro e w3 ⟨rfl, rfl⟩
  go_wp2
  (try simp only [Exit.inBlock, Exit.then])
  refine bodyPost_ret (v := .tuple #[.agg #[.int .i64 0, .int .i64 0, .int .i64 0], .int .i64 1]) ?_ rfl ⟨rfl, ?_⟩
  · rw [results_cell_tmp rfl]
    go_simp
    (try rfl)
  · repeat (first | assumption | with_reducible refine below_drw ?_ | with_reducible refine below_alc ?_ | (with_reducible refine below_to ?_ ?_; · omega))
end Go.Proofs.YtfflacggaebonaaGreatDoor
end
section
namespace Go.Proofs.YtfflacggaebonaaGreatDoor
open Go.RowKit
set_option linter.unusedVariables false
set_option linter.unusedSimpArgs false
variable {w w' : World} {M B Wb Ob p q P D G Wg Og size : Nat} {W W' own own' : List Int} {ls : List Lay} {T : Nat → Prop}
set_option maxRecDepth 100000 in
set_option maxHeartbeats 1000000 in
theorem follow_of (m : Value) (a pl i1 i2 i3 i4 : Int) (w : World) (HF : Hid (Calls Tryz.prog 49 #[m, .int .i64 a, .int .i64 pl, .bool true, .func (.func 50) #[] #[]] (w.alloc (.cells #[.int .i64 0, .int .i64 0, .int .i64 0] 37)) fun e w' => e = .returned (.tuple #[.agg #[.int .i64 i1, .int .i64 i2, .int .i64 i3], .int .i64 i4]) ∧ Below (w.alloc (.cells #[.int .i64 0, .int .i64 0, .int .i64 0] 37)).heap.size (w.alloc (.cells #[.int .i64 0, .int .i64 0, .int .i64 0] 37)) w')) :
    Calls Tryz.prog 17 #[m, .int .i64 a, .int .i64 pl] w fun e w' => e = .returned (.tuple #[.agg #[.int .i64 i1, .int .i64 i2, .int .i64 i3], .int .i64 i4]) ∧ Below w.heap.size w w' := by
  have hb1 := below1 w (.cells #[.int .i64 0, .int .i64 0, .int .i64 0] 37)
  have hl1 := heap_alloc_new w (.cells #[.int .i64 0, .int .i64 0, .int .i64 0] 37)
  go_enter Tryz.func17, Tryz.ntmps17
  go_wp2_with fail
  generalize w.alloc (.cells #[.int .i64 0, .int .i64 0, .int .i64 0] 37) = W1 at *
  refine HF.out.mono ?_
  rintro e w2 ⟨rfl, hb2⟩
  have hl3 := (hb2.block _ (block_lt hl1)).trans hl1
  have HB3 := Lib.hid (hb1.on hb2)
  have k0 := (blk_cells hl3 0).trans rfl
  have k1 := (blk_cells hl3 1).trans rfl
  have k2 := (blk_cells hl3 2).trans rfl
  have t0 := blk_thaw hl3 0
  have t1 := blk_thaw hl3 1
  have t2 := blk_thaw hl3 2
  clear hl3 hb2 hl1 hb1 HF
  go_wp2
  (try simp only [Exit.inBlock, Exit.then])
  refine bodyPost_ret (v := .tuple #[.agg #[.int .i64 i1, .int .i64 i2, .int .i64 i3], .int .i64 i4]) ?_ rfl ⟨rfl, ?_⟩
  · rw [results_cell_tmp rfl]
    go_simp
    (try rfl)
  · repeat (first | assumption | with_reducible refine below_drw ?_ | with_reducible refine below_alc ?_ | (with_reducible refine below_to ?_ ?_; · omega))
theorem follow_any (h : ImgP T w M B Wb Ob p q P W size own ls) (hW : Wds W) (a pl : Int) : Calls Tryz.prog 17 #[.pointer (some ⟨M, 0, none⟩), .int .i64 a, .int .i64 pl] w fun e w' => e = .returned (.tuple #[.agg #[.int .i64 (followR W own size ls a pl).1, .int .i64 (followR W own size ls a pl).2.1, .int .i64 (followR W own size ls a pl).2.2.1], .int .i64 (followR W own size ls a pl).2.2.2]) ∧ Below w.heap.size w w' :=
  follow_of _ a pl _ _ _ _ w (Lib.hid (read_link (h.on (below1 w _)) hW a pl))
theorem follow_nil (a pl : Int) (w : World) : Calls Tryz.prog 17 #[.pointer none, .int .i64 a, .int .i64 pl] w fun e w' => e = .returned (.tuple #[.agg #[.int .i64 0, .int .i64 0, .int .i64 0], .int .i64 1]) ∧ Below w.heap.size w w' :=
  follow_of _ a pl _ _ _ _ w (Lib.hid (read_link_nil a pl _))
set_option maxRecDepth 100000 in
set_option maxHeartbeats 1000000 in
theorem tie_any (h : ImgP T w M B Wb Ob p q P W size own ls) (hW : Wds W) (a pl k i g : Int) : Calls Tryz.prog 30 #[.pointer (some ⟨M, 0, none⟩), .int .i64 a, .int .i64 pl, .agg #[.int .i64 k, .int .i64 i, .int .i64 g]] w fun e w' => e = .returned (.int .i64 (tieR W own size ls a pl k i g).1) ∧ ImgP T w' M B Wb Ob p q P (tieR W own size ls a pl k i g).2 size own ls ∧ Mod (Four3 Wb Ob p q) w w' := by
  have hb1 := below1 w (.cells #[.int .i64 k, .int .i64 i, .int .i64 g] 37)
  have hl1 := heap_alloc_new w (.cells #[.int .i64 k, .int .i64 i, .int .i64 g] 37)
  have HF := Lib.hid (iword_any (h.on hb1) hW h.st.wlen a pl true)
  have HI := Lib.hid (h.on hb1)
  have HB1 := Lib.hid hb1
  have HL1 := Lib.hid hl1
  clear hb1 hl1
  by_cases gw : wordE W own size ls a pl true = 0
  · have hp := placeR_in gw
    by_cases gm : mayLinkB k i g = true
    · have HE : Hid (tieR W own size ls a pl k i g = (adE W own size (a + 1 + pl), wrW W own size (a + 1 + pl) (refWordI k i g))) := Lib.hid (by
        unfold tieR wrW
        rw [if_neg (by simpa using gw), if_neg (by simpa using gm)]
        by_cases g1 : adE W own size (a + 1 + pl) = 0
        · rw [if_neg (by simpa using g1), if_pos g1, g1]
        · rw [if_pos g1, if_neg g1])
      rw [gw, hp] at HF
      have HWD : Hid (∀ Y, Calls Tryz.prog 60 #[.agg #[.int .i64 k, .int .i64 i, .int .i64 g]] Y fun e w' => e = .returned (.tuple #[.int .u64 (refWordI k i g), .int .i64 0]) ∧ Below Y.heap.size Y w') := Lib.hid (fun Y => word_yes k i g Y gm)
      clear gw hp h gm
      generalize refWordI k i g = x at *
      generalize a + 1 + pl = at' at *
      have HR : Hid (∀ Y, ImgP T Y M B Wb Ob p q P W size own ls → Calls Tryz.prog 35 #[.pointer (some ⟨B, 0, none⟩), .int .i64 at', .int .u64 x] Y fun e w' => e = .returned (.int .i64 (adE W own size at')) ∧ StoreAt w' B Wb Ob p q (wrW W own size at' x) size own ∧ Mod (Four3 Wb Ob p q) Y w') := Lib.hid (fun Y hY => write_t hY.st at' x)
      generalize tieR W own size ls a pl k i g = sr at *
      generalize adE W own size at' = ad at *
      generalize wrW W own size at' x = wx at *
      go_enter Tryz.func30, Tryz.ntmps30
      go_wp2_with fail
      generalize w.alloc (.cells #[.int .i64 k, .int .i64 i, .int .i64 g] 37) = W1 at *
      refine HF.out.mono ?_
      rintro e w2 ⟨rfl, hb2⟩
      have HB2 := Lib.hid (HB1.out.on hb2)
      have HI2 := Lib.hid (HI.out.on hb2)
      have hl2 := (hb2.block _ (block_lt HL1.out)).trans HL1.out
      have k0 := (blk_cells hl2 0).trans rfl
      have k1 := (blk_cells hl2 1).trans rfl
      have k2 := (blk_cells hl2 2).trans rfl
      clear hb2 hl2 HI HB1 HF
      go_wp2_with fail
      refine (HWD.out _).mono ?_
      rintro e w3 ⟨rfl, hb3⟩
      have HB3 := Lib.hid (HB2.out.on hb3)
      have HI3 := Lib.hid (HI2.out.on hb3)
      have c0 := HI3.out.c0
      clear hb3 HB2 HI2 k0 k1 k2
      go_wp2_with fail
      refine (HR.out _ HI3.out).mono ?_
      rintro e w4 ⟨rfl, hs, hm⟩
      have HS := Lib.hid (And.intro hs hm)
      clear hs hm
      go_wp2
      go_ret
      refine ⟨by rw [HE.out]; rfl, ?_, (Mod.of_below HB3.out).trans HS.out.2⟩
      rw [HE.out]
      exact HI3.out.turn HS.out.1 HS.out.2
    · have gm' : mayLinkB k i g = false := by simpa using gm
      have HE : Hid (tieR W own size ls a pl k i g = (2, W)) := Lib.hid (by
        unfold tieR
        rw [if_neg (by simpa using gw), if_pos gm'])
      rw [gw, hp] at HF
      have HWD : Hid (∀ Y, Calls Tryz.prog 60 #[.agg #[.int .i64 k, .int .i64 i, .int .i64 g]] Y fun e w' => e = .returned (.tuple #[.int .u64 0, .int .i64 3]) ∧ Below Y.heap.size Y w') := Lib.hid (fun Y => word_no k i g Y gm')
      clear gw hp h gm gm'
      generalize a + 1 + pl = at' at *
      generalize tieR W own size ls a pl k i g = sr at *
      go_enter Tryz.func30, Tryz.ntmps30
      go_wp2_with fail
      generalize w.alloc (.cells #[.int .i64 k, .int .i64 i, .int .i64 g] 37) = W1 at *
      refine HF.out.mono ?_
      rintro e w2 ⟨rfl, hb2⟩
      have HB2 := Lib.hid (HB1.out.on hb2)
      have HI2 := Lib.hid (HI.out.on hb2)
      have hl2 := (hb2.block _ (block_lt HL1.out)).trans HL1.out
      have k0 := (blk_cells hl2 0).trans rfl
      have k1 := (blk_cells hl2 1).trans rfl
      have k2 := (blk_cells hl2 2).trans rfl
      clear hb2 hl2 HI HB1 HF
      go_wp2_with fail
      refine (HWD.out _).mono ?_
      rintro e w3 ⟨rfl, hb3⟩
      have HB3 := Lib.hid (HB2.out.on hb3)
      have HI3 := Lib.hid (HI2.out.on hb3)
      clear hb3 HB2 HI2 k0 k1 k2
      go_wp2
      go_ret
      refine ⟨by rw [HE.out]; rfl, ?_, Mod.of_below HB3.out⟩
      rw [HE.out]
      exact HI3.out
  · have HE : Hid (tieR W own size ls a pl k i g = (wordE W own size ls a pl true, W)) := Lib.hid (by unfold tieR; rw [if_pos gw])
    clear h
    generalize tieR W own size ls a pl k i g = sr at *
    generalize wordE W own size ls a pl true = we at *
    generalize placeR W own size ls a pl true = pr at *
    have g' : (we == 0) = false := by simpa using gw
    go_enter Tryz.func30, Tryz.ntmps30
    go_wp2_with fail
    generalize w.alloc (.cells #[.int .i64 k, .int .i64 i, .int .i64 g] 37) = W1 at *
    refine HF.out.mono ?_
    rintro e w2 ⟨rfl, hb2⟩
    have HB2 := Lib.hid (HB1.out.on hb2)
    have HI2 := Lib.hid (HI.out.on hb2)
    clear hb2
    go_wp2
    go_ret
    refine ⟨by rw [HE.out]; rfl, ?_, Mod.of_below HB2.out⟩
    rw [HE.out]
    exact HI2.out
theorem tie_nil (a pl k i g : Int) (w : World) : Calls Tryz.prog 30 #[.pointer none, .int .i64 a, .int .i64 pl, .agg #[.int .i64 k, .int .i64 i, .int .i64 g]] w fun e w' => e = .returned (.int .i64 1) ∧ Below w.heap.size w w' := by
  have HB := Lib.hid (below1 w (.cells #[.int .i64 k, .int .i64 i, .int .i64 g] 37))
  go_enter Tryz.func30, Tryz.ntmps30
  go_wp2_with fail
  refine (word_nil a pl true _).mono ?_
  rintro e w2 ⟨rfl, rfl⟩
  go_wp2
  go_ret
  exact ⟨rfl, HB.out⟩
theorem inew_any (B P : Nat) (w : World) : Calls Tryz.prog 25 #[.pointer (some ⟨B, 0, none⟩), .pointer (some ⟨P, 0, none⟩)] w fun e w' => e = .returned (.tuple #[.pointer (some ⟨w.heap.size, 0, none⟩), .int .i64 0]) ∧ w' = w.alloc (.cells #[.pointer (some ⟨B, 0, none⟩), .pointer (some ⟨P, 0, none⟩)] 113) := by
  go_enter Tryz.func25, Tryz.ntmps25
  go_wp2
  go_ret2
  exact ⟨rfl, rfl⟩
theorem inew_nil1 (v : Option Addr) (w : World) : Calls Tryz.prog 25 #[.pointer none, .pointer v] w fun e w' => e = .returned (.tuple #[.pointer none, .int .i64 1]) ∧ w' = w := by
  go_enter Tryz.func25, Tryz.ntmps25
  go_wp2
  go_ret2
  exact ⟨rfl, rfl⟩
theorem inew_nil2 (B : Nat) (w : World) : Calls Tryz.prog 25 #[.pointer (some ⟨B, 0, none⟩), .pointer none] w fun e w' => e = .returned (.tuple #[.pointer none, .int .i64 1]) ∧ w' = w := by
  go_enter Tryz.func25, Tryz.ntmps25
  go_wp2
  go_ret2
  exact ⟨rfl, rfl⟩
/-- Move, by what the store's copy does. -/
def MoveR (W own : List Int) (size : Nat) (ls : List Lay) (t f : Int) (n y : Int) (W' : List Int) : Prop :=
  (findE W own size ls f ≠ 0 ∧ n = 0 ∧ y = findE W own size ls f ∧ W' = W) ∨
  (findE W own size ls f = 0 ∧ ∃ c, CopyTw W own size t f (atR W own size ls f).2.2.2 c W' ∧ y = c ∧ n = if c = 0 then (atR W own size ls f).2.2.2 else 0)
theorem move_or (W own : List Int) (size : Nat) (ls : List Lay) (t f : Int) : ∃ n y W', MoveR W own size ls t f n y W' := by
  by_cases g : findE W own size ls f = 0
  · obtain ⟨c, W', hc⟩ := copy_tw W own size t f (atR W own size ls f).2.2.2
    exact ⟨_, _, W', .inr ⟨g, c, hc, rfl, rfl⟩⟩
  · exact ⟨_, _, W, .inl ⟨g, rfl, rfl, rfl⟩⟩
set_option maxRecDepth 100000 in
set_option maxHeartbeats 1000000 in
theorem move_any (h : ImgP T w M B Wb Ob p q P W size own ls) (hW : Wds W) (t f n y : Int) (hm : MoveR W own size ls t f n y W') : Calls Tryz.prog 32 #[.pointer (some ⟨M, 0, none⟩), .int .i64 t, .int .i64 f] w fun e w' => e = .returned (.tuple #[.int .i64 n, .int .i64 y]) ∧ ImgP T w' M B Wb Ob p q P W' size own ls ∧ Mod (Four3 Wb Ob p q) w w' := by
  have HF := Lib.hid (iat_any h hW f)
  have HI := Lib.hid h
  clear h
  rcases hm with ⟨g, rfl, rfl, rfl⟩ | ⟨g, c, hc, rfl, hn⟩
  · rw [atR_none g] at HF
    generalize findE W' own size ls f = fe at *
    have g' : (fe == 0) = false := by simpa using g
    go_enter Tryz.func32, Tryz.ntmps32
    go_wp2_with fail
    refine HF.out.mono ?_
    rintro e w2 ⟨rfl, hb2⟩
    have hb3 := hb2.on (below1 w2 (.cells #[.int .i64 0, .int .i64 0, .int .i64 0] 32))
    have HI2 := Lib.hid (HI.out.on hb3)
    have HB2 := Lib.hid hb3
    clear hb2 hb3
    go_wp2
    go_ret2
    exact ⟨rfl, HI2.out, Mod.of_below HB2.out⟩
  · have HC := Lib.hid hc
    have HN := Lib.hid hn
    rw [g] at HF
    clear hc g hn
    generalize atR W own size ls f = r at *
    obtain ⟨r1, r2, r3, r4⟩ := r
    go_enter Tryz.func32, Tryz.ntmps32
    go_wp2_with fail
    refine HF.out.mono ?_
    rintro e w2 ⟨rfl, hb2⟩
    have hb3 := hb2.on (below1 w2 (.cells #[.int .i64 r1, .int .i64 r2, .int .i64 r3] 32))
    have HI2 := Lib.hid (HI.out.on hb3)
    have HB2 := Lib.hid hb3
    have c0 := (HI.out.on hb3).c0
    clear hb2 hb3
    go_wp2_with fail
    refine (HC.out.1 _ _ _ _ _ _ HI2.out.st).mono ?_
    rintro e w4 ⟨rfl, hs, hm⟩
    have HS := Lib.hid (And.intro hs hm)
    clear hs hm
    by_cases g4 : y = 0
    · subst g4
      have hn : n = r4 := HN.out.trans (if_pos rfl)
      subst hn
      clear HN
      go_wp2
      go_ret2
      exact ⟨rfl, HI2.out.turn HS.out.1 HS.out.2, (Mod.of_below HB2.out).trans HS.out.2⟩
    · have g' : (y == 0) = false := by simpa using g4
      have hn : n = 0 := HN.out.trans (if_neg g4)
      subst hn
      clear HN
      go_wp2
      go_ret2
      exact ⟨rfl, HI2.out.turn HS.out.1 HS.out.2, (Mod.of_below HB2.out).trans HS.out.2⟩
theorem move_nil (t f : Int) (w : World) : Calls Tryz.prog 32 #[.pointer none, .int .i64 t, .int .i64 f] w fun e w' => e = .returned (.tuple #[.int .i64 0, .int .i64 1]) ∧ Below w.heap.size w w' := by
  go_enter Tryz.func32, Tryz.ntmps32
  go_wp2_with fail
  refine (iat_nil f w).mono ?_
  rintro e w2 ⟨rfl, hb2⟩
  have HB := Lib.hid (hb2.on (below1 w2 (.cells #[.int .i64 0, .int .i64 0, .int .i64 0] 32)))
  go_wp2
  go_ret2
  exact ⟨rfl, HB.out⟩
end Go.Proofs.YtfflacggaebonaaGreatDoor
end
section
namespace Go.Proofs.YtfflacggaebonaaGreatDoor
open Go.RowKit
set_option linter.unusedVariables false
set_option linter.unusedSimpArgs false
variable {w w' : World} {M B Wb Ob p q P D G Wg Og size : Nat} {W W' own own' : List Int} {ls : List Lay} {T : Nat → Prop}
/-- The words while they are made 0: the header's is set, i behind it are 0. -/
def madeTo (W : List Int) (a : Nat) (h : Int) (i : Nat) : List Int := zeroW (W.set a h) (a + 1) i
theorem madeTo_len {W : List Int} {a i : Nat} {h : Int} (hi : a + 1 + i ≤ W.length) : (madeTo W a h i).length = W.length := by
  unfold madeTo
  rw [zeroW_length _ _ _ (by simpa using hi)]
  simp
theorem madeTo_step {W : List Int} {a i : Nat} {h : Int} (hi : a + 1 + i < W.length) : (madeTo W a h i).set (a + 1 + i) 0 = madeTo W a h (i + 1) := by
  unfold madeTo
  exact zeroW_step (by simpa using hi)
theorem madeTo_all {W : List Int} {a n : Nat} {h : Int} (hi : a + (n + 1) ≤ W.length) : madeTo W a h n = (zeroW W a (n + 1)).set a h := by
  have h1 : (madeTo W a h n).length = W.length := madeTo_len (by omega)
  have h2 : ((zeroW W a (n + 1)).set a h).length = W.length := by rw [List.length_set, zeroW_length _ _ _ hi]
  refine ext_getD (h1.trans h2.symm) (fun j hj => ?_)
  rw [set_getD _ _ _ (by rw [zeroW_length _ _ _ hi]; omega), zeroW_getD hi]
  unfold madeTo
  rw [zeroW_getD (by simp; omega), set_getD _ _ _ (by omega)]
  by_cases e : j = a
  · subst e
    rw [if_neg (by omega), if_pos rfl, if_pos rfl]
  · rw [if_neg e, if_neg e]
    by_cases g : a + 1 ≤ j ∧ j < a + 1 + n
    · rw [if_pos g, if_pos (by omega)]
    · rw [if_neg g, if_neg (by omega)]
theorem okW_at {own : List Int} {size a n j : Nat} (h : okW own size a n = true) (hj : j < n) : chE own ((a + j) / size) = 0 := by
  unfold chE
  rw [if_neg (okW_iff.1 h j hj)]
theorem make_nil (a l c s : Int) (w : World) : Calls Tryz.prog 15 #[.pointer none, .int .i64 a, .agg #[.int .i64 l, .int .i64 c, .int .i64 s]] w fun e w' => e = .returned (.tuple #[.int .i64 0, .int .i64 1]) ∧ Below w.heap.size w w' := by
  have HB := Lib.hid (below1 w (.cells #[.int .i64 l, .int .i64 c, .int .i64 s] 32))
  go_enter Tryz.func15, Tryz.ntmps15
  go_wp2
  go_ret2
  exact ⟨rfl, HB.out⟩
theorem copyW_self (W : List Int) (a n : Nat) (h : a + n ≤ W.length) : copyW W a a n = W := by
  refine ext_getD (length_splice _ _ _ (by simp; omega)) (fun j hj => ?_)
  rw [copyW_get h h]
  split
  · congr 1; omega
  · rfl
/-- What the copy over itself tells, and so Make. -/
theorem make_copy (a l c s : Int) (n : Nat) (gm : mayB l c s = true) (gs : (szI ls l c).2 = 0) (hn : (szI ls l c).1 = n) (hn1 : n < 8192) :
    ∃ cd : Int, (cd = 0 → ∃ m : Nat, a = m ∧ m + (n + 1) ≤ W.length ∧ (∀ j, j < n + 1 → chE own ((m + j) / size) = 0) ∧ makeR W own size ls a l c s = (((n : Int) + 1, 0), madeTo W m (encH l c s) n)) ∧ (cd ≠ 0 → makeR W own size ls a l c s = ((0, cd), W)) ∧
      ∀ (Y : World) (B Wb Ob p q : Nat), StoreAt Y B Wb Ob p q W size own → Calls Tryz.prog 47 #[.pointer (some ⟨B, 0, none⟩), .int .i64 a, .int .i64 a, .int .i64 ((n : Int) + 1)] Y fun e Y' => e = .returned (.int .i64 cd) ∧ StoreAt Y' B Wb Ob p q W size own ∧ Mod (Four3 Wb Ob p q) Y Y' := by
  by_cases gi : inW W.length a (n + 1)
  · by_cases go : okW own size a.toNat (n + 1) = true
    · obtain ⟨j1, j2, j3, j4⟩ := id gi
      obtain ⟨m, rfl⟩ : ∃ m : Nat, a = m := ⟨a.toNat, by omega⟩
      rw [Int.toNat_natCast] at go
      refine ⟨0, fun _ => ⟨m, rfl, by omega, fun j hj => okW_at go hj, ?_⟩, fun e => absurd rfl e, fun Y B Wb Ob p q hs => ?_⟩
      · unfold makeR
        rw [if_neg (by simpa using gm), if_neg (by simpa using gs), hn, if_neg (by simpa using gi), Int.toNat_natCast, show ((n : Int) + 1).toNat = n + 1 by omega, if_neg (by simpa using go), madeTo_all (by omega)]
      · have hk := copy_in hs m m (n + 1) (by omega) (by omega) go go
        rw [copyW_self _ _ _ (by omega)] at hk
        exact hk
    · refine ⟨17, fun e => absurd e (by decide), fun _ => ?_, fun Y B Wb Ob p q hs => ?_⟩
      · unfold makeR
        rw [if_neg (by simpa using gm), if_neg (by simpa using gs), hn, if_neg (by simpa using gi), show ((n : Int) + 1).toNat = n + 1 by omega, if_pos (by simpa using go)]
      · refine (copy_bad hs a a (n + 1) (fun e => go (by have := e.2.2.1; rwa [show ((n : Int) + 1).toNat = n + 1 by omega] at this))).mono ?_
        rintro e w1 ⟨⟨x, he, hx, hx0⟩, rfl⟩
        refine ⟨?_, hs, Mod.refl _ _⟩
        rcases hx with ⟨_, h1⟩ | ⟨h1, _⟩ | ⟨h1, _⟩
        · exact absurd gi (fun e => h1.elim (fun g => g e) (fun g => g e))
        · rw [he, h1]
        · exact absurd h1 hx0
  · refine ⟨3, fun e => absurd e (by decide), fun _ => ?_, fun Y B Wb Ob p q hs => ?_⟩
    · unfold makeR
      rw [if_neg (by simpa using gm), if_neg (by simpa using gs), hn, if_pos gi]
    · refine (copy_bad hs a a (n + 1) (fun e => gi e.1)).mono ?_
      rintro e w1 ⟨⟨x, he, hx, hx0⟩, rfl⟩
      refine ⟨?_, hs, Mod.refl _ _⟩
      rcases hx with ⟨h1, _⟩ | ⟨_, h1, _⟩ | ⟨h1, _⟩
      · rw [he, h1]
      · exact absurd h1 gi
      · exact absurd h1 hx0
set_option maxRecDepth 100000 in
set_option maxHeartbeats 2000000 in
theorem make_any (h : ImgP T w M B Wb Ob p q P W size own ls) (a l c s : Int) : Calls Tryz.prog 15 #[.pointer (some ⟨M, 0, none⟩), .int .i64 a, .agg #[.int .i64 l, .int .i64 c, .int .i64 s]] w fun e w' => e = .returned (.tuple #[.int .i64 (makeR W own size ls a l c s).1.1, .int .i64 (makeR W own size ls a l c s).1.2]) ∧ ImgP T w' M B Wb Ob p q P (makeR W own size ls a l c s).2 size own ls ∧ Mod (Four3 Wb Ob p q) w w' := by
  have hb1 := below1 w (.cells #[.int .i64 l, .int .i64 c, .int .i64 s] 32)
  have hl1 := heap_alloc_new w (.cells #[.int .i64 l, .int .i64 c, .int .i64 s] 32)
  have HI := Lib.hid (h.on hb1)
  have HB1 := Lib.hid hb1
  have HL1 := Lib.hid hl1
  have k0 := (blk_cells hl1 0).trans rfl
  have k1 := (blk_cells hl1 1).trans rfl
  have k2 := (blk_cells hl1 2).trans rfl
  have hwl := h.st.wlen
  clear hb1 hl1 h
  by_cases gm : mayB l c s = true
  · have hl0 := (mayB_iff.1 gm).1
    have HEN : Hid (∀ Y, Calls Tryz.prog 45 #[.agg #[.int .i64 l, .int .i64 c, .int .i64 s]] Y fun e w' => e = .returned (.tuple #[.int .u64 (encH l c s), .int .i64 0]) ∧ Below Y.heap.size Y w') := Lib.hid (fun Y => encode_yes l c s Y gm)
    have HSZ : Hid (∀ Y, ImgP T Y M B Wb Ob p q P W size own ls → Calls Tryz.prog 46 #[.pointer (some ⟨M, 0, none⟩), .agg #[.int .i64 l, .int .i64 c, .int .i64 s]] Y (SizeT ls l c Y)) := Lib.hid (fun Y hY => isize_any hY l c s hl0)
    by_cases gs : (szI ls l c).2 = 0
    · obtain ⟨q1, q2, q3⟩ := szI_ok gs
      obtain ⟨q4, q5, q6, q7, q8, q9⟩ := Lay.size_ok q2
      obtain ⟨r1, r2, r3, r4, r5, r6, r7⟩ := Lay.right_out q4
      have hn0 : 0 ≤ (szI ls l c).1 := by
        rw [q3, q8]
        have : 0 ≤ c * (layI ls l).record := Int.mul_nonneg q5 r3
        omega
      have hn1 : (szI ls l c).1 < 8192 := by rw [q3]; exact q9
      obtain ⟨n, hn⟩ : ∃ n : Nat, (szI ls l c).1 = n := ⟨(szI ls l c).1.toNat, by omega⟩
      have hn2 : IntKind.i64.wrap ((n : Int) + 1) = n + 1 := by rw [IntKind.wrap_i64]; omega
      have hcp := make_copy (W := W) (own := own) (size := size) (ls := ls) a l c s n gm gs hn (by omega)
      obtain ⟨cd, hc0, hc1, hcc⟩ := hcp
      have HCP : Hid (∀ Y, ImgP T Y M B Wb Ob p q P W size own ls → Calls Tryz.prog 47 #[.pointer (some ⟨B, 0, none⟩), .int .i64 a, .int .i64 a, .int .i64 ((n : Int) + 1)] Y fun e w' => e = .returned (.int .i64 cd) ∧ ImgP T w' M B Wb Ob p q P W size own ls ∧ Mod (Four3 Wb Ob p q) Y w') := Lib.hid (fun Y hY => (hcc Y B Wb Ob p q hY.st).mono fun e w' ⟨h1, h2, h3⟩ => ⟨h1, hY.turn h2 h3, h3⟩)
      have HC0 := Lib.hid hc0
      have HC1 := Lib.hid hc1
      have HSN := Lib.hid hn
      have HGS := Lib.hid gs
      clear hcc hc0 hc1 gm hl0 q1 q2 q3 q4 q5 q6 q7 q8 q9 r1 r2 r3 r4 r5 r6 r7 hn0 hn
      unfold SizeT at HSZ
      rw [gs] at HSZ
      clear gs
      generalize hmr : makeR W own size ls a l c s = mr at *
      generalize (szI ls l c).1 = s1 at *
      generalize encH l c s = en at *
      clear hmr
      go_enter Tryz.func15, Tryz.ntmps15
      go_wp2_with fail
      generalize w.alloc (.cells #[.int .i64 l, .int .i64 c, .int .i64 s] 32) = W1 at *
      refine (HEN.out _).mono ?_
      rintro e w2 ⟨rfl, hb2⟩
      have hl2 := (hb2.block _ (block_lt HL1.out)).trans HL1.out
      have HI2 := Lib.hid (HI.out.on hb2)
      have HB2 := Lib.hid (HB1.out.on hb2)
      clear k0 k1 k2
      have k0 := (blk_cells hl2 0).trans rfl
      have k1 := (blk_cells hl2 1).trans rfl
      have k2 := (blk_cells hl2 2).trans rfl
      clear hb2 hl2
      go_wp2_with fail
      refine (HSZ.out _ HI2.out).mono ?_
      rintro e w3 ⟨x, A1, d1, A2, d2, n', rfl, hq, hb3⟩
      obtain ⟨-, hn', -, -⟩ := hq trivial
      have hn2' : n' = n := hn'.trans HSN.out
      subst hn2'
      have hb4 := hb3.on (below1 w3 (.cells #[.int .i64 x.fixed, .slice A1 x.refs.length d1, .int .i64 x.record, .slice A2 x.recs.length d2] 64))
      have HI4 := Lib.hid (HI2.out.on hb4)
      have HB4 := Lib.hid (HB2.out.on hb4)
      have c0 := (HI2.out.on hb4).c0
      clear hb3 hb4 HI2 HB2 HI HB1 HSZ HEN hq hn' k0 k1 k2
      go_wp2_with fail
      refine (HCP.out _ HI4.out).mono ?_
      rintro e w5 ⟨rfl, hI5, hm5⟩
      have HI5 := Lib.hid hI5
      have HM5 := Lib.hid ((Mod.of_below HB4.out).trans hm5)
      have c0' := hI5.c0
      clear hI5 hm5 HI4 HB4 HCP c0
      by_cases gc : cd = 0
      · obtain ⟨m, ha, hin, hok, hmk⟩ := HC0.out gc
        subst ha
        subst gc
        have HMK := Lib.hid hmk
        have HOK := Lib.hid hok
        have hma : IntKind.i64.wrap ((m : Int) + 1) = m + 1 := by rw [IntKind.wrap_i64]; omega
        have HWR : Hid (Calls Tryz.prog 35 #[.pointer (some ⟨B, 0, none⟩), .int .i64 m, .int .u64 en] w5 fun e w' => e = .returned (.int .i64 0) ∧ ImgP T w' M B Wb Ob p q P (madeTo W m en 0) size own ls ∧ Mod (Four3 Wb Ob p q) w5 w') := Lib.hid ((write_in HI5.out.st m en (by omega)).mono fun e w' ⟨h1, h2, h3⟩ => by
          have h0 : chE own (m / size) = 0 := HOK.out 0 (by omega)
          refine ⟨by rw [h1, h0], ?_, h3⟩
          have e1 : writeW W own size m en = madeTo W m en 0 := by
            unfold writeW madeTo chE at *
            rw [zeroW_zero]
            by_cases g0 : own.getD (m / size) 0 = 0
            · rw [if_pos g0] at h0; cases h0
            · rw [if_neg g0]
          exact e1 ▸ HI5.out.turn h2 h3)
        clear hok hmk HC0 HC1
        go_wp2_with fail
        refine HWR.out.mono ?_
        rintro e w6 ⟨rfl, hI6, hm6⟩
        have HI6 := Lib.hid hI6
        have HM6 := Lib.hid (HM5.out.trans hm6)
        clear hI6 hm6 HWR HI5 HM5 c0'
        go_wp2
        go_loopw [54] (fun v54 wr => ∃ j : Nat, j ≤ n ∧ v54 = .int .i64 j ∧ Hid (ImgP T wr M B Wb Ob p q P (madeTo W m en j) size own ls) ∧ Hid (Mod (Four3 Wb Ob p q) w wr)) (fun v54 _ => n - (intOf v54).toNat)
        case atStart => exact ⟨0, by omega, rfl, HI6, HM6⟩
        case round =>
          obtain ⟨j, hj, rfl, HJ, HMJ⟩ := hrel
          by_cases hlt : j < n
          · have hml : (madeTo W m en j).length = W.length := madeTo_len (by omega)
            have hw1 : IntKind.i64.wrap ((m : Int) + 1 + j) = m + 1 + j := by rw [IntKind.wrap_i64]; omega
            have HWJ : Hid (Calls Tryz.prog 35 #[.pointer (some ⟨B, 0, none⟩), .int .i64 ((m : Int) + 1 + j), .int .u64 0] wr fun e w' => e = .returned (.int .i64 0) ∧ ImgP T w' M B Wb Ob p q P (madeTo W m en (j + 1)) size own ls ∧ Mod (Four3 Wb Ob p q) wr w') := Lib.hid ((write_in HJ.out.st (m + 1 + j) 0 (by omega)).mono fun e w' ⟨h1, h2, h3⟩ => by
              have h0 : chE own ((m + 1 + j) / size) = 0 := by have := HOK.out (1 + j) (by omega); rwa [← Nat.add_assoc] at this
              refine ⟨by rw [h1, h0], ?_, h3⟩
              have e1 : writeW (madeTo W m en j) own size (m + 1 + j) 0 = madeTo W m en (j + 1) := by
                rw [← madeTo_step (by omega)]
                unfold writeW chE at *
                by_cases g0 : own.getD ((m + 1 + j) / size) 0 = 0
                · rw [if_pos g0] at h0; cases h0
                · rw [if_neg g0]
              exact e1 ▸ HJ.out.turn h2 h3)
            have c0 := HJ.out.c0
            clear hml
            go_wp2_with fail
            refine HWJ.out.mono ?_
            rintro e w7 ⟨rfl, hI7, hm7⟩
            have HI7 := Lib.hid hI7
            have HM7 := Lib.hid (HMJ.out.trans hm7)
            clear hI7 hm7 c0
            go_wp2
            go_roundw
            case rel => exact ⟨j + 1, by omega, by go_num, HI7, HM7⟩
            case measure => simp [intOf]; omega
          · obtain rfl : j = n := by omega
            clear HI6 HM6
            go_wp2
            go_ret2
            refine ⟨by rw [HMK.out]; rfl, ?_, HMJ.out⟩
            rw [HMK.out]
            exact HJ.out
      · have g' : (cd == 0) = false := by simpa using gc
        have hmr := HC1.out gc
        have HMR := Lib.hid hmr
        clear hmr
        go_wp2
        go_ret2
        refine ⟨by rw [HMR.out]; rfl, ?_, HM5.out⟩
        rw [HMR.out]
        exact HI5.out
    · have HE : Hid (makeR W own size ls a l c s = ((0, (szI ls l c).2), W)) := Lib.hid (by unfold makeR; rw [if_neg (by simpa using gm), if_pos gs])
      unfold SizeT at HSZ
      generalize makeR W own size ls a l c s = mr at *
      generalize encH l c s = en at *
      generalize (szI ls l c).2 = es at *
      have g' : (es == 0) = false := by simpa using gs
      clear gm hl0
      go_enter Tryz.func15, Tryz.ntmps15
      go_wp2_with fail
      generalize w.alloc (.cells #[.int .i64 l, .int .i64 c, .int .i64 s] 32) = W1 at *
      refine (HEN.out _).mono ?_
      rintro e w2 ⟨rfl, hb2⟩
      have hl2 := (hb2.block _ (block_lt HL1.out)).trans HL1.out
      have HI2 := Lib.hid (HI.out.on hb2)
      have HB2 := Lib.hid (HB1.out.on hb2)
      clear k0 k1 k2
      have k0 := (blk_cells hl2 0).trans rfl
      have k1 := (blk_cells hl2 1).trans rfl
      have k2 := (blk_cells hl2 2).trans rfl
      clear hb2 hl2
      go_wp2_with fail
      refine (HSZ.out _ HI2.out).mono ?_
      rintro e w3 ⟨x, A1, d1, A2, d2, n, rfl, -, hb3⟩
      have hb4 := hb3.on (below1 w3 (.cells #[.int .i64 x.fixed, .slice A1 x.refs.length d1, .int .i64 x.record, .slice A2 x.recs.length d2] 64))
      have HI4 := Lib.hid (HI2.out.on hb4)
      have HB4 := Lib.hid (HB2.out.on hb4)
      clear hb3 hb4 HI2 HB2 HI HB1 HSZ HEN
      go_wp2
      go_ret2
      refine ⟨by rw [HE.out]; rfl, ?_, Mod.of_below HB4.out⟩
      rw [HE.out]
      exact HI4.out
  · have gm' : mayB l c s = false := by simpa using gm
    have HE : Hid (makeR W own size ls a l c s = ((0, 3), W)) := Lib.hid (by unfold makeR; rw [if_pos gm'])
    have HEN : Hid (∀ Y, Calls Tryz.prog 45 #[.agg #[.int .i64 l, .int .i64 c, .int .i64 s]] Y fun e w' => e = .returned (.tuple #[.int .u64 0, .int .i64 3]) ∧ Below Y.heap.size Y w') := Lib.hid (fun Y => encode_no l c s Y gm')
    generalize makeR W own size ls a l c s = mr at *
    clear gm gm'
    go_enter Tryz.func15, Tryz.ntmps15
    go_wp2_with fail
    generalize w.alloc (.cells #[.int .i64 l, .int .i64 c, .int .i64 s] 32) = W1 at *
    refine (HEN.out _).mono ?_
    rintro e w2 ⟨rfl, hb2⟩
    have HI2 := Lib.hid (HI.out.on hb2)
    have HB2 := Lib.hid (HB1.out.on hb2)
    clear hb2
    go_wp2
    go_ret2
    refine ⟨by rw [HE.out]; rfl, ?_, Mod.of_below HB2.out⟩
    rw [HE.out]
    exact HI2.out
end Go.Proofs.YtfflacggaebonaaGreatDoor
end
