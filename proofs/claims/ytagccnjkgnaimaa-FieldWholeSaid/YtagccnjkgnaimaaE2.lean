/- What the law's parts and the document's Apart answer: the printed functions, held against the plain words. -/
import Derived.Test.YtagccnjkgnaimaaE
import Derived.Test.YtagccnjkgnaimaaO
import Derived.Test.YtagccnjkgnaimaaA
import Derived.Test.YtagccnjkgnaimaaPpartsx1
namespace Go.Proofs.Ytagccnjkgnaimaa
open Go.RowKit Go.Proofs.YtagccnjkgnaimaaW.PrintWords Go.Proofs.YtagccnjkgnaimaaW.PrintLast Go.Proofs.YtagccnjkgnaimaaW.PrintMore
set_option linter.unusedVariables false
set_option linter.unusedSimpArgs false

def enc2 (f : Int × Int) : List Value := [.int .i64 f.1, .int .i64 f.2]
theorem SliceOf.fl {w : World} {A : Option Addr} {l : List (Int × Int)} (h : SliceOf w A 2 enc2 (0, 0) l) : IsFl w A l := fun i hi => by
  obtain ⟨b, o, e, h1⟩ := h i hi
  exact ⟨b, o, e, h1 0 _ rfl, h1 1 _ rfl⟩
theorem reads_of {α β : Type} {R : α → List Value → Prop} {w : World} {A : Option Addr} {size : Nat} {enc : β → List Value} {d : β} {l : List β} (f : β → α) (h : SliceOf w A size enc d l) (hm : l.length ≤ maxLen)
    (hs : ∀ x, (enc x).length = size) (hR : ∀ x, R (f x) (enc x)) (hpos : 0 < size) : ReadsRow R size w A l.length (l.map f) := by
  unfold maxLen at hm
  refine ⟨by simp, by omega, fun hn => ?_⟩
  obtain ⟨b, o, e, h0⟩ := h 0 hn
  refine ⟨_, e, fun j p hp => ?_⟩
  obtain ⟨x, hx, rfl⟩ : ∃ x, l[j]? = some x ∧ f x = p := by simpa using hp
  have hj := (List.getElem?_eq_some_iff.1 hx).1
  refine ⟨enc x, hs x, hR x, fun i u hu => ?_⟩
  obtain ⟨b', o', e', h1⟩ := h j hj
  rw [e] at e'
  cases e'
  have : (⟨b, o, none⟩ : Addr).add (j * size + i) = ⟨b, o + j * size + i, none⟩ := by unfold Addr.add; split <;> simp <;> omega
  rw [this]
  exact h1 i u (by simpa [List.getD, hx] using hu)
theorem SliceOf.k24 {w : World} {A : Option Addr} {l : List (Int × Int)} (h : SliceOf w A 2 enc2 (0, 0) l) (hm : l.length ≤ maxLen) : Kd.C Pparts.k24 w A l.length (l.map fun f => (⟨f.1, f.2⟩ : Pparts.S24)) :=
  reads_of _ h hm (fun _ => rfl) (fun x => Pparts.k24_mk w ⟨x.1, x.2⟩) (by decide)
theorem parts_loop (l : List (Int × Int)) (hl : l.length ≤ 70) : ∀ (i k : Nat), i ≤ l.length → l.length - i < k →
    Pparts.turnrowlaw01_parts.l0 k ((l.take i).map (·.1)) ((l.take i).map (·.2)) (l.map fun f => (⟨f.1, f.2⟩ : Pparts.S24)) l.length i = some (l.map (·.1), l.map (·.2)) := by
  intro i
  induction hd : l.length - i generalizing i with
  | zero =>
    intro k hi hk
    obtain ⟨k, rfl⟩ : ∃ m, k = m + 1 := ⟨k - 1, by omega⟩
    obtain rfl : i = l.length := by omega
    simp only [Pparts.turnrowlaw01_parts.l0]
    rw [if_neg (by omega)]; simp
  | succ d ih =>
    intro k hi hk
    obtain ⟨k, rfl⟩ : ∃ m, k = m + 1 := ⟨k - 1, by omega⟩
    have hlt : i < l.length := by omega
    have hw : wrap64 ((i : Int) + 1) = ((i + 1 : Nat) : Int) := by unfold wrap64; omega
    have hr : Pparts.rd_T24 (l.map fun f => (⟨f.1, f.2⟩ : Pparts.S24)) (i : Int) = ⟨(l[i]).1, (l[i]).2⟩ := by
      simp [Pparts.rd_T24, hlt]
    have h1 := ih (i + 1) (by omega) k (by omega) (by omega)
    rw [List.take_succ_eq_append_getElem hlt, List.map_append, List.map_append] at h1
    simp only [Pparts.turnrowlaw01_parts.l0]
    rw [if_pos (by omega), if_pos (by omega), if_pos (by simp; omega), hr, hw]
    simp only [Option.bind_some]
    rw [if_pos (by simp; omega), if_pos (by simp; omega)]
    exact h1
def PartsPost (l : List (Int × Int)) (w : World) (e : Ending) (w' : World) : Prop :=
  ∃ A c B c', e = .returned (.tuple #[.slice A l.length c, .slice B l.length c']) ∧ l.length ≤ c ∧ l.length ≤ c' ∧ (Kd.int .i64).C w' A l.length (l.map (·.1)) ∧ (Kd.int .i64).C w' B l.length (l.map (·.2)) ∧ Below w.heap.size w w'
theorem parts_any (A : Option Addr) (c : Nat) (l : List (Int × Int)) (w : World) (h : SliceOf w A 2 enc2 (0, 0) l) (hl : l.length ≤ 70) (hc : l.length ≤ c) : Calls Try.prog 21 #[.slice A l.length c] w (PartsPost l w) := by
  have hm : l.length ≤ maxLen := by unfold maxLen; omega
  have hC := h.k24 hm
  have hf : Pparts.turnrowlaw01_parts.f 71 (l.map fun f => (⟨f.1, f.2⟩ : Pparts.S24)) = some (l.map (·.1), l.map (·.2)) := by
    unfold Pparts.turnrowlaw01_parts.f
    have := parts_loop l hl 0 71 (by omega) (by omega)
    simpa using this
  have hlen : (l.map fun f => (⟨f.1, f.2⟩ : Pparts.S24)).length = l.length := by simp
  have hcall := Pparts.turnrowlaw01_parts.calls 71 A c (l.map fun f => (⟨f.1, f.2⟩ : Pparts.S24)) _ _ w (by rw [hlen]; exact hC) (by rw [hlen]; exact hc) hf
  rw [hlen] at hcall
  refine hcall.mono fun e w' h => ?_
  obtain ⟨v0, v1, he, hR0, hR1, hb⟩ := h
  obtain ⟨A0, c0, rfl, hc0, hC0⟩ := Kd.R_reads hR0
  obtain ⟨A1, c1, rfl, hc1, hC1⟩ := Kd.R_reads hR1
  simp only [List.length_map] at he hc0 hC0 hc1 hC1
  exact ⟨A0, c0, A1, c1, he, hc0, hc1, hC0, hC1, hb⟩
theorem rd_fst (l : List (Int × Int)) (i : Nat) (h : i < l.length) : rd (l.map (·.1)) (i : Int) = (l[i]).1 := by simp [rd, h]
theorem rd_snd (l : List (Int × Int)) (i : Nat) (h : i < l.length) : rd (l.map (·.2)) (i : Int) = (l[i]).2 := by simp [rd, h]
theorem right_f (a n : Int) : PApart.turnrowref01_Right.f a n = some (rightB a n) := by
  unfold PApart.turnrowref01_Right.f rightB
  split
  · split
    · split
      · split
        · have : wrap64 (a + n) = a + n := by unfold wrap64; omega
          rw [this]; congr 1; rw [Bool.eq_iff_iff]; simp; omega
        · simp; omega
      · simp; omega
    · simp; omega
  · simp; omega
/-- The rounds for one bit. -/
theorem apart_l2 (l : List (Int × Int)) (hl : l.length ≤ 70) (hr : ∀ f ∈ l, rightB f.1 f.2 = true) (b : Nat) (hb : b < 64) (R : Option Bool) :
    ∀ (d i k c : Nat), l.length - i = d → i ≤ l.length → c ≤ i →
      (PApart.turnrowref01_Apart.l2 (k + d + 1) (l.map (·.1)) (l.map (·.2)) b c i = if 1 < c + cnt b (l.drop i) then some false else PApart.turnrowref01_Apart.l1 k (l.map (·.1)) (l.map (·.2)) ((b + 1 : Nat) : Int)) := by
  intro d
  induction d with
  | zero =>
    intro i k c hd hi hc
    obtain rfl : i = l.length := by omega
    have hw : wrap64 ((b : Int) + 1) = ((b + 1 : Nat) : Int) := by unfold wrap64; omega
    simp only [PApart.turnrowref01_Apart.l2, Nat.add_zero]
    have hz : c + cnt b ([] : List (Int × Int)) = c := by simp [cnt]
    rw [if_neg (by simp), List.drop_length, hw, hz]
    by_cases h1 : 1 < c
    · rw [if_pos (by omega), if_pos h1]
    · rw [if_neg (by omega), if_neg h1]
  | succ d ih =>
    intro i k c hd hi hc
    have hlt : i < l.length := by omega
    have hdr : l.drop i = l[i] :: l.drop (i + 1) := List.drop_eq_getElem_cons hlt
    obtain ⟨a, n, hf⟩ : ∃ a n, l[i] = (a, n) := ⟨_, _, rfl⟩
    have hrr := hr (a, n) (by rw [← hf]; exact List.getElem_mem hlt)
    obtain ⟨g0, g1, g2, g3⟩ := rightB_iff.1 hrr
    simp only at g0 g1 g2 g3
    have hw : wrap64 ((i : Int) + 1) = ((i + 1 : Nat) : Int) := by unfold wrap64; omega
    have hw2 : wrap64 ((c : Int) + 1) = ((c + 1 : Nat) : Int) := by unfold wrap64; omega
    have hw3 : wrap64 (a + n) = a + n := by unfold wrap64; omega
    have e1 : rd (l.map (·.1)) (i : Int) = a := by rw [rd_fst l i hlt, hf]
    have e2 : rd (l.map (·.2)) (i : Int) = n := by rw [rd_snd l i hlt, hf]
    rw [show k + (d + 1) + 1 = (k + d + 1) + 1 by omega]
    have ih1 := ih (i + 1) k (c + 1) (by omega) (by omega) (by omega)
    have ih2 := ih (i + 1) k c (by omega) (by omega) (by omega)
    generalize k + d + 1 = kk at *
    simp only [PApart.turnrowref01_Apart.l2]
    rw [if_pos (by simp; omega), if_pos (by omega), e1, e2, hw, hw2, hw3, hdr, hf]
    simp only [cnt]
    by_cases h1 : (b : Int) ≥ a
    · rw [if_pos h1, if_pos (by simp; omega)]
      by_cases h2 : (b : Int) < a + n
      · rw [if_pos h2, ih1]; simp only [show a ≤ (b : Int) from h1, h2, and_self, if_true, Nat.add_assoc]
      · rw [if_neg h2, ih2]; simp only [h2, and_false, false_and, if_false, Nat.zero_add]
    · rw [if_neg h1, ih2]; simp only [show ¬ (a ≤ (b : Int)) from h1, and_false, false_and, if_false, Nat.zero_add]
theorem apart_l1 (l : List (Int × Int)) (hl : l.length ≤ 70) (hr : ∀ f ∈ l, rightB f.1 f.2 = true) :
    ∀ (d b : Nat), 64 - b = d → b ≤ 64 → ∃ k r, PApart.turnrowref01_Apart.l1 k (l.map (·.1)) (l.map (·.2)) b = some r ∧ (r = true ↔ ∀ j : Nat, b ≤ j → j < 64 → cnt j l ≤ 1) := by
  intro d
  induction d with
  | zero =>
    intro b hd hb
    obtain rfl : b = 64 := by omega
    refine ⟨1, true, ?_, ?_⟩
    · simp only [PApart.turnrowref01_Apart.l1]
      rw [if_neg (by omega)]
    · exact ⟨fun _ j h1 h2 => by omega, fun _ => rfl⟩
  | succ d ih =>
    intro b hd hb
    obtain ⟨k, r, hk, hkr⟩ := ih (b + 1) (by omega) (by omega)
    have := apart_l2 l hl hr b (by omega) none l.length 0 k 0 (by omega) (by omega) (by omega)
    rw [List.drop_zero, Nat.zero_add] at this
    by_cases h1 : 1 < cnt b l
    · refine ⟨k + l.length + 1 + 1, false, ?_, ?_⟩
      · simp only [PApart.turnrowref01_Apart.l1]
        rw [if_pos (by omega), show (0 : Int) = ((0 : Nat) : Int) from rfl, this, if_pos h1]
      · constructor
        · intro h; cases h
        · intro h
          have := h b (by omega) (by omega)
          omega
    · refine ⟨k + l.length + 1 + 1, r, ?_, ?_⟩
      · simp only [PApart.turnrowref01_Apart.l1]
        rw [if_pos (by omega), show (0 : Int) = ((0 : Nat) : Int) from rfl, this, if_neg h1, hk]
      · rw [hkr]
        constructor
        · intro h j g1 g2
          by_cases e : j = b
          · subst e; omega
          · exact h j (by omega) g2
        · intro h j g1 g2
          exact h j (by omega) g2
theorem apart_l0 (l : List (Int × Int)) (hl : l.length ≤ 70) : ∀ (d i : Nat), l.length - i = d → i ≤ l.length → (∀ j (h : j < i) (h' : j < l.length), rightB (l[j]).1 (l[j]).2 = true) → ∃ k, PApart.turnrowref01_Apart.l0 k (l.map (·.1)) (l.map (·.2)) i = some (apGo 0 l) := by
  have hiff := apGo_iff l 0 (by decide)
  intro d
  induction d with
  | zero =>
    intro i hd hi hall
    obtain rfl : i = l.length := by omega
    have hr : ∀ f ∈ l, rightB f.1 f.2 = true := fun f hf => by
      obtain ⟨j, hj, rfl⟩ := List.getElem_of_mem hf
      exact hall j hj hj
    obtain ⟨k, r, hk, hkr⟩ := apart_l1 l hl hr 64 0 (by omega) (by omega)
    refine ⟨k + 1, ?_⟩
    simp only [PApart.turnrowref01_Apart.l0]
    rw [if_neg (by simp)]
    rw [show ((0 : Nat) : Int) = 0 from rfl] at hk
    rw [hk]
    congr 1
    rw [Bool.eq_iff_iff, hkr, show (0 : Int) = ((0 : Nat) : Int) from rfl, hiff]
    constructor
    · intro h
      exact ⟨hr, fun b hb => by simpa using h b (by omega) hb⟩
    · intro h b _ hb
      simpa using h.2 b hb
  | succ d ih =>
    intro i hd hi hall
    have hlt : i < l.length := by omega
    have hw : wrap64 ((i : Int) + 1) = ((i + 1 : Nat) : Int) := by unfold wrap64; omega
    by_cases hr : rightB (l[i]).1 (l[i]).2 = true
    · obtain ⟨k, hk⟩ := ih (i + 1) (by omega) (by omega) (fun j h h' => by
        by_cases e : j = i
        · subst e; exact hr
        · exact hall j (by omega) h')
      refine ⟨k + 1, ?_⟩
      simp only [PApart.turnrowref01_Apart.l0]
      rw [if_pos (by simp; omega), if_pos (by omega), if_pos (by simp; omega), rd_fst l i hlt, rd_snd l i hlt, right_f]
      simp only [Option.bind_some]
      rw [if_pos hr, hw]
      exact hk
    · refine ⟨1, ?_⟩
      simp only [PApart.turnrowref01_Apart.l0]
      rw [if_pos (by simp; omega), if_pos (by omega), if_pos (by simp; omega), rd_fst l i hlt, rd_snd l i hlt, right_f]
      simp only [Option.bind_some]
      rw [if_neg hr]
      congr 1
      symm
      rw [Bool.eq_false_iff]
      intro h
      exact hr ((hiff.1 h).1 _ (List.getElem_mem hlt))
theorem refapart_any (A B : Option Addr) (c c' : Nat) (l : List (Int × Int)) (w : World) (hl : l.length ≤ 70) (hA : (Kd.int .i64).C w A l.length (l.map (·.1))) (hB : (Kd.int .i64).C w B l.length (l.map (·.2))) (hc : l.length ≤ c) (hc' : l.length ≤ c') :
    Calls Try.prog 23 #[.slice A l.length c, .slice B l.length c'] w fun e w' => e = .returned (.bool (apGo 0 l)) ∧ Below w.heap.size w w' := by
  obtain ⟨k, hk⟩ := apart_l0 l hl l.length 0 (by omega) (by omega) (fun j h => by omega)
  have := PApart.turnrowref01_Apart.calls k A c (l.map (·.1)) B c' (l.map (·.2)) (apGo 0 l) w (by simpa using hA) (by simpa using hc) (by simpa using hB) (by simpa using hc') (by unfold PApart.turnrowref01_Apart.f; simpa using hk)
  simp only [List.length_map] at this
  exact this.mono fun e w' ⟨he, hd⟩ => ⟨he, hd.below⟩
end Go.Proofs.Ytagccnjkgnaimaa
