/- Words of links, by whether they may be; what goes back. -/
import Derived.Test.YtagccnjkgnaimaaH3
namespace Go.Proofs.Ytagccnjkgnaimaa
open Go.RowKit Go.Proofs.YtagccnjkgnaimaaW.PrintWords
set_option linter.unusedVariables false
set_option linter.unusedSimpArgs false
theorem mayLink_cases {k i g : Int} (h : mayLinkB k i g = true) : (k = 2 ∧ aliveB i g = true) ∨ (k = 0 ∧ i = 0 ∧ g = 0) ∨ (k = 1 ∧ i = 0 ∧ g = 0) := by
  unfold mayLinkB at h
  by_cases hk : k = 2
  · rw [if_pos hk] at h; exact .inl ⟨hk, h⟩
  · rw [if_neg hk] at h
    simp at h
    omega
theorem word_yes (k i g : Int) (w : World) (h : mayLinkB k i g = true) : Calls Try.prog 32 #[.agg #[.int .i64 k, .int .i64 i, .int .i64 g]] w fun e w' => e = .returned (.tuple #[.int .u64 (refWordI k i g), .int .i64 0]) ∧ Below w.heap.size w w' := by
  rcases mayLink_cases h with ⟨rfl, ha⟩ | ⟨rfl, rfl, rfl⟩ | ⟨rfl, rfl, rfl⟩
  · exact word_alive i g w ha
  · exact word_null w
  · exact word_tomb w
theorem word_no (k i g : Int) (w : World) (h : mayLinkB k i g = false) : Calls Try.prog 32 #[.agg #[.int .i64 k, .int .i64 i, .int .i64 g]] w fun e w' => e = .returned (.tuple #[.int .u64 0, .int .i64 3]) ∧ Below w.heap.size w w' := by
  by_cases hk : k = 2
  · subst hk
    exact word_dead i g w h
  · refine word_other k i g w hk (fun hh => ?_) (fun hh => ?_)
    · obtain ⟨rfl, rfl, rfl⟩ := hh; cases h
    · obtain ⟨rfl, rfl, rfl⟩ := hh; cases h
theorem enc_in {l c s : Int} (h : mayB l c s = true) : 0 ≤ encI l c s ∧ encI l c s < 18446744073709551616 := by
  obtain ⟨a1, a2, a3, a4, a5, a6⟩ := mayB_iff.1 h
  unfold encI; omega
theorem refWord_in {k i g : Int} (h : mayLinkB k i g = true) : 0 ≤ refWordI k i g ∧ refWordI k i g < 18446744073709551616 := by
  rcases mayLink_cases h with ⟨rfl, ha⟩ | ⟨rfl, rfl, rfl⟩ | ⟨rfl, rfl, rfl⟩
  · obtain ⟨a1, a2, a3, a4⟩ := aliveB_iff.1 ha
    unfold refWordI; rw [if_pos rfl]; omega
  · decide
  · decide
theorem back_enc {l c s : Int} (h : mayB l c s = true) : decI (encI l c s) = (l, c, s, 0) := by
  obtain ⟨a1, a2, a3, a4, a5, a6⟩ := mayB_iff.1 h
  have e1 : encI l c s / 4294967296 % 256 = l := by unfold encI; omega
  have e2 : encI l c s / 65536 % 65536 = c := by unfold encI; omega
  have e3 : encI l c s % 65536 = s := by unfold encI; omega
  have hok : decOK (encI l c s) = true := by
    rw [decOK_iff, e1, e2, e3]
    refine ⟨?_, ?_, h⟩ <;> (unfold encI; omega)
  unfold decI
  rw [if_pos hok, e1, e2, e3]
theorem back_word {k i g : Int} (h : mayLinkB k i g = true) : linkI (refWordI k i g) = (k, i, g, 0) := by
  rcases mayLink_cases h with ⟨rfl, ha⟩ | ⟨rfl, rfl, rfl⟩ | ⟨rfl, rfl, rfl⟩
  · obtain ⟨a1, a2, a3, a4⟩ := aliveB_iff.1 ha
    have e0 : refWordI 2 i g = g * 4294967296 + i + 2 := rfl
    have e1 : (g * 4294967296 + i + 2) % 4294967296 - 2 = i := by omega
    have e2 : (g * 4294967296 + i + 2) / 4294967296 = g := by omega
    unfold linkI
    rw [e0, e1, e2, link_high _ _ _ (by omega) (by omega), if_pos ha]
  · rfl
  · rfl
theorem dec_parts {x : Int} (h0 : 0 ≤ x) (h1 : x < 18446744073709551616) : (∃ l c s, decI x = (l, c, s, 0) ∧ mayB l c s = true ∧ encI l c s = x) ∨ decI x = (0, 0, 0, 4) := by
  by_cases h : decOK x = true
  · left
    have hl := (dec_law x h0 h1).1 h
    refine ⟨_, _, _, ?_, hl.1, hl.2⟩
    unfold decI; rw [if_pos h]
  · right
    unfold decI; rw [if_neg h]
theorem link_parts {x : Int} (h0 : 0 ≤ x) (h1 : x < 18446744073709551616) : (∃ k i g, linkI x = (k, i, g, 0) ∧ mayLinkB k i g = true ∧ refWordI k i g = x) ∨ linkI x = (0, 0, 0, 4) := by
  by_cases hl : x < 2
  · left
    refine ⟨x, 0, 0, link_low x h0 hl, ?_, ?_⟩
    · rcases (show x = 0 ∨ x = 1 by omega) with h | h <;> subst h <;> rfl
    · unfold refWordI; rw [if_neg (by omega)]
  · by_cases ha : aliveB (x % 4294967296 - 2) (x / 4294967296) = true
    · left
      obtain ⟨a1, a2, a3, a4⟩ := aliveB_iff.1 ha
      refine ⟨2, x % 4294967296 - 2, x / 4294967296, ?_, ha, ?_⟩
      · unfold linkI; rw [link_high _ _ _ hl h0, if_pos ha]
      · unfold refWordI; rw [if_pos rfl]; omega
    · right
      unfold linkI; rw [link_high _ _ _ hl h0, if_neg ha]
theorem link_err (x : Int) : (linkOK x = true ∧ (linkI x).2.2.2 = 0) ∨ (linkOK x = false ∧ (linkI x).2.2.2 = 4) := by
  unfold linkOK
  have h : (linkI x).2.2.2 = 0 ∨ (linkI x).2.2.2 = 4 := by
    unfold linkI linkG
    split
    · exact .inl rfl
    · split
      · exact .inl rfl
      · split
        · exact .inl rfl
        · exact .inr rfl
  rcases h with h | h <;> rw [h] <;> simp
/-- A header's word is no link's. -/
theorem enc_link {l c s : Int} (h : mayB l c s = true) : linkI (encI l c s) = (0, 0, 0, 4) := by
  obtain ⟨a1, a2, a3, a4, a5, a6⟩ := mayB_iff.1 h
  unfold linkI
  rw [link_high _ _ _ (by unfold encI; omega) (by unfold encI; omega), if_neg (fun ha => by have := (aliveB_iff.1 ha).2.2.2; unfold encI at this; omega)]
theorem enc_inj {l c s l' c' s' : Int} (h : mayB l c s = true) (h' : mayB l' c' s' = true) (e : encI l c s = encI l' c' s') : l = l' ∧ c = c' ∧ s = s' := by
  have := back_enc h
  rw [e, back_enc h'] at this
  injection this with a b; injection b with b c; injection c with c d
  exact ⟨a.symm, b.symm, c.symm⟩
theorem word_inj {k i g k' i' g' : Int} (h : mayLinkB k i g = true) (h' : mayLinkB k' i' g' = true) (e : refWordI k i g = refWordI k' i' g') : k = k' ∧ i = i' ∧ g = g' := by
  have := back_word h
  rw [e, back_word h'] at this
  injection this with a b; injection b with b c; injection c with c d
  exact ⟨a.symm, b.symm, c.symm⟩
end Go.Proofs.Ytagccnjkgnaimaa
