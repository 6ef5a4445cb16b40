/- Parts that lie apart, and owners, in plain words. -/
import Derived.Test.YtkaflgbipjppmaaDoorBd
namespace Go.Proofs.YtkaflgbipjppmaaDoor
open Go.RowKit
set_option linter.unusedVariables false
set_option linter.unusedSimpArgs false
variable {own own' : List Int} {parts l1 l2 : List (Nat × Nat)} {ow : Int}
theorem mem_chunkL {c : Nat} {x : Nat × Nat} : c ∈ chunkL x ↔ x.1 ≤ c ∧ c < x.1 + x.2 := by
  unfold chunkL
  rw [List.mem_map]
  constructor
  · rintro ⟨i, hi, rfl⟩
    have := List.mem_range.1 hi
    omega
  · rintro ⟨h1, h2⟩
    exact ⟨c - x.1, List.mem_range.2 (by omega), by omega⟩
theorem mem_chunksL {c : Nat} {l : List (Nat × Nat)} : c ∈ chunksL l ↔ ∃ x ∈ l, x.1 ≤ c ∧ c < x.1 + x.2 := by
  unfold chunksL
  rw [List.mem_flatMap]
  exact ⟨fun ⟨x, h1, h2⟩ => ⟨x, h1, mem_chunkL.1 h2⟩, fun ⟨x, h1, h2⟩ => ⟨x, h1, mem_chunkL.2 h2⟩⟩
theorem chunksL_append (a b : List (Nat × Nat)) : chunksL (a ++ b) = chunksL a ++ chunksL b := by simp [chunksL]
theorem chunksL_cons (x : Nat × Nat) (b : List (Nat × Nat)) : chunksL (x :: b) = chunkL x ++ chunksL b := by simp [chunksL]
theorem chunkL_nodup (x : Nat × Nat) : (chunkL x).Nodup := by
  unfold chunkL
  have h : ∀ n, ((List.range n).map (x.1 + ·)).Nodup := fun n => by
    induction n with
    | zero => simp
    | succ n ih =>
      rw [List.range_succ, List.map_append, List.nodup_append]
      refine ⟨ih, by simp, fun a ha b hb => ?_⟩
      obtain ⟨i, hi, rfl⟩ := List.mem_map.1 ha
      have := List.mem_range.1 hi
      simp at hb
      omega
  exact h _
/-- Owners when some parts are given. -/
def giveL (own : List Int) (o : Int) (l : List (Nat × Nat)) : List Int := l.foldl (fun q x => fillO q x.1 o x.2) own
theorem giveL_snoc (own : List Int) (o : Int) (l : List (Nat × Nat)) (x : Nat × Nat) : giveL own o (l ++ [x]) = fillO (giveL own o l) x.1 o x.2 := by simp [giveL]
theorem giveL_length (o : Int) : ∀ (l : List (Nat × Nat)) (own : List Int), (giveL own o l).length = own.length
  | [], own => rfl
  | x :: l, own => by
    show (giveL (fillO own x.1 o x.2) o l).length = _
    rw [giveL_length o l, fillO_length]
theorem giveL_getD (o : Int) (c : Nat) : ∀ (l : List (Nat × Nat)) (own : List Int), (∀ x ∈ l, x.1 + x.2 ≤ own.length) → (giveL own o l).getD c 0 = if c ∈ chunksL l then o else own.getD c 0
  | [], own, _ => by simp [giveL, chunksL]
  | x :: l, own, h => by
    show (giveL (fillO own x.1 o x.2) o l).getD c 0 = _
    rw [giveL_getD o c l _ (fun y hy => by rw [fillO_length]; exact h y (List.mem_cons_of_mem _ hy)), fillO_getD _ _ _ _ _ (h x (by simp)), chunksL_cons]
    by_cases h1 : c ∈ chunksL l
    · rw [if_pos h1, if_pos (List.mem_append.2 (.inr h1))]
    · rw [if_neg h1]
      by_cases h2 : x.1 ≤ c ∧ c < x.1 + x.2
      · rw [if_pos h2, if_pos (List.mem_append.2 (.inl (mem_chunkL.2 h2)))]
      · rw [if_neg h2, if_neg (fun e => by
          rcases List.mem_append.1 e with e | e
          · exact h2 (mem_chunkL.1 e)
          · exact h1 e)]
/-- An owner's parts: they lie apart, and are the owner's. -/
structure SpInv (own : List Int) (ow : Int) (parts : List (Nat × Nat)) : Prop where
  n1 : ∀ x ∈ parts, 1 ≤ x.2
  nd : (chunksL parts).Nodup
  on : ∀ c ∈ chunksL parts, c < own.length ∧ own.getD c 0 = ow
theorem pigeon : ∀ (n : Nat) (l : List Nat), l.Nodup → (∀ x ∈ l, x < n) → l.length ≤ n
  | 0, l, _, h => by
    cases l with
    | nil => simp
    | cons a l => exact absurd (h a (by simp)) (Nat.not_lt_zero _)
  | n + 1, l, hn, h => by
    by_cases hm : n ∈ l
    · have h1 := pigeon n (l.erase n) (hn.erase n) (fun x hx => by
        have h2 := hn.mem_erase_iff.1 hx
        have := h x h2.2
        have := h2.1
        omega)
      rw [List.length_erase_of_mem hm] at h1
      omega
    · have := pigeon n l hn (fun x hx => by
        have h1 := h x hx
        have h2 : x ≠ n := fun e => hm (e ▸ hx)
        omega)
      omega
theorem SpInv.nil (own : List Int) (ow : Int) : SpInv own ow [] := ⟨(fun x hx => nomatch hx), by simp [chunksL], fun c hc => by simp [chunksL] at hc⟩
theorem SpInv.fit (h : SpInv own ow parts) : ∀ x ∈ parts, x.1 + x.2 ≤ own.length := fun x hx => by
  have h1 := h.n1 x hx
  have := (h.on (x.1 + x.2 - 1) (mem_chunksL.2 ⟨x, hx, by omega, by omega⟩)).1
  omega
theorem SpInv.part (h : SpInv own ow parts) {m n : Nat} (hx : (m, n) ∈ parts) : ∀ c, c < n → own.getD (m + c) 0 = ow := fun c hc =>
  (h.on (m + c) (mem_chunksL.2 ⟨_, hx, Nat.le_add_right _ _, Nat.add_lt_add_left hc _⟩)).2
theorem SpInv.clen (h : SpInv own ow parts) : (chunksL parts).length ≤ own.length := pigeon _ _ h.nd (fun c hc => (h.on c hc).1)
theorem chunksL_ge : ∀ (l : List (Nat × Nat)), (∀ x ∈ l, 1 ≤ x.2) → l.length ≤ (chunksL l).length
  | [], _ => by simp
  | x :: l, h => by
    have h1 := chunksL_ge l (fun y hy => h y (List.mem_cons_of_mem _ hy))
    have h2 := h x (by simp)
    rw [chunksL_cons, List.length_append, List.length_cons]
    have : (chunkL x).length = x.2 := by simp [chunkL]
    omega
theorem SpInv.len (h : SpInv own ow parts) : parts.length ≤ own.length := Nat.le_trans (chunksL_ge parts h.n1) h.clen
theorem SpInv.keep (h : SpInv own ow parts) (hl : own'.length = own.length) (hk : ∀ c ∈ chunksL parts, own'.getD c 0 = ow) : SpInv own' ow parts :=
  ⟨h.n1, h.nd, fun c hc => ⟨by rw [hl]; exact (h.on c hc).1, hk c hc⟩⟩
theorem split_at (j : Nat) (hj : j < parts.length) : parts = parts.take j ++ parts.getD j (0, 0) :: parts.drop (j + 1) := by
  have e : parts.getD j (0, 0) = parts[j] := by simp [List.getD, hj]
  rw [e, ← List.drop_eq_getElem_cons hj, List.take_append_drop]
theorem SpInv.cut (h : SpInv own ow parts) (j : Nat) (hj : j < parts.length) : SpInv own ow (parts.take j ++ parts.drop (j + 1)) ∧ (∀ c ∈ chunkL (parts.getD j (0, 0)), c ∉ chunksL (parts.take j ++ parts.drop (j + 1))) := by
  have hs := split_at j hj
  have hnd := h.nd
  rw [hs, chunksL_append, chunksL_cons, List.nodup_append, List.nodup_append] at hnd
  obtain ⟨h1, ⟨h2, h3, h4⟩, h5⟩ := hnd
  have hsub : ∀ c ∈ chunksL (parts.take j ++ parts.drop (j + 1)), c ∈ chunksL parts := fun c hc => by
    obtain ⟨x, hx, h⟩ := mem_chunksL.1 hc
    exact mem_chunksL.2 ⟨x, mem_cut x hx, h⟩
  refine ⟨⟨fun x hx => h.n1 x (mem_cut x hx), ?_, fun c hc => h.on c (hsub c hc)⟩, fun c hc hc2 => ?_⟩
  · rw [chunksL_append, List.nodup_append]
    exact ⟨h1, h3, fun a ha b hb => h5 a ha b (List.mem_append.2 (.inr hb))⟩
  · rw [chunksL_append] at hc2
    rcases List.mem_append.1 hc2 with g | g
    · exact h5 c g c (List.mem_append.2 (.inl hc)) rfl
    · exact h4 c hc c g rfl
theorem SpInv.first (h : SpInv own ow parts) (j : Nat) (hj : j < parts.length) : ∀ i, i < parts.length → i ≠ j → (parts.getD i (0, 0)).1 ≠ (parts.getD j (0, 0)).1 := fun i hi hij he => by
  have e : ∀ k, k < parts.length → parts.getD k (0, 0) ∈ parts := fun k hk => by
    have : parts.getD k (0, 0) = parts[k] := by simp [List.getD, hk]
    rw [this]; exact List.getElem_mem hk
  have h1 := h.n1 _ (e i hi)
  have h2 := h.n1 _ (e j hj)
  refine (h.cut j hj).2 (parts.getD j (0, 0)).1 (mem_chunkL.2 ⟨Nat.le_refl _, by omega⟩) (mem_chunksL.2 ⟨parts.getD i (0, 0), ?_, by omega, by omega⟩)
  have ei : parts.getD i (0, 0) = parts[i] := by simp [List.getD, hi]
  rw [ei, List.mem_append]
  rcases Nat.lt_or_ge i j with g | g
  · exact .inl (List.mem_take_iff_getElem.2 ⟨i, by omega, rfl⟩)
  · refine .inr (List.mem_drop_iff_getElem.2 ⟨i - (j + 1), by omega, ?_⟩)
    congr 1
    omega
theorem SpInv.push (h : SpInv own ow parts) {m n : Nat} (hn : 1 ≤ n) (hx : ∀ c, m ≤ c → c < m + n → c ∉ chunksL parts) (hf : m + n ≤ own.length) : SpInv (fillO own m ow n) ow (parts ++ [(m, n)]) := by
  refine ⟨fun x hx => ?_, ?_, fun c hc => ?_⟩
  · rcases List.mem_append.1 hx with g | g
    · exact h.n1 x g
    · rw [List.mem_singleton.1 g]; exact hn
  · rw [chunksL_snoc, List.nodup_append]
    refine ⟨h.nd, chunkL_nodup _, fun a ha b hb e => ?_⟩
    subst e
    have := mem_chunkL.1 hb
    exact hx a this.1 this.2 ha
  · rw [fillO_length, fillO_getD _ _ _ _ _ hf]
    rw [chunksL_snoc] at hc
    rcases List.mem_append.1 hc with g | g
    · refine ⟨(h.on c g).1, ?_⟩
      split
      · rfl
      · exact (h.on c g).2
    · have := mem_chunkL.1 g
      exact ⟨by have h1 := this.2; show c < own.length; simp at h1; omega, if_pos this⟩
theorem SpInv.fill (h : SpInv own ow parts) {m n : Nat} {o : Int} (hf : m + n ≤ own.length) (hx : ∀ c, m ≤ c → c < m + n → own.getD c 0 ≠ ow) : SpInv (fillO own m o n) ow parts :=
  h.keep (fillO_length _ _ _ _) (fun c hc => by
    have h1 := h.on c hc
    rw [fillO_getD _ _ _ _ _ hf]
    split
    · next g => exact absurd h1.2 (hx c g.1 g.2)
    · exact h1.2)
theorem SpInv.gives (h : SpInv own ow parts) {o b : Int} (h2 : SpInv own b l2) (hb : b ≠ ow) : SpInv (giveL own o l2) ow parts :=
  h.keep (giveL_length _ _ _) (fun c hc => by
    rw [giveL_getD _ _ _ _ h2.fit]
    split
    · next g => exact absurd ((h2.on c g).2.symm.trans (h.on c hc).2) hb
    · exact (h.on c hc).2)
theorem SpInv.join {b : Int} (h : SpInv own ow parts) (h2 : SpInv own b l2) (hb : b ≠ ow) : SpInv (giveL own ow l2) ow (parts ++ l2) := by
  refine ⟨fun x hx => ?_, ?_, fun c hc => ?_⟩
  · rcases List.mem_append.1 hx with g | g
    · exact h.n1 x g
    · exact h2.n1 x g
  · rw [chunksL_append, List.nodup_append]
    refine ⟨h.nd, h2.nd, fun a ha b hb2 e => ?_⟩
    subst e
    exact hb ((h2.on a hb2).2.symm.trans (h.on a ha).2)
  · rw [giveL_length, giveL_getD _ _ _ _ h2.fit]
    rw [chunksL_append] at hc
    rcases List.mem_append.1 hc with g | g
    · refine ⟨(h.on c g).1, ?_⟩
      split
      · rfl
      · exact (h.on c g).2
    · exact ⟨(h2.on c g).1, if_pos g⟩
end Go.Proofs.YtkaflgbipjppmaaDoor
