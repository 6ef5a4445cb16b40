/- What field.Unpack answers, for the print of PLink. -/
import Derived.Test.YtagccnjkgnaimaaE4
import Derived.Test.YtagccnjkgnaimaaPLinkx2
namespace Go.Proofs.Ytagccnjkgnaimaa.XPLink
open Go.RowKit Go.Proofs.YtagccnjkgnaimaaW.PrintWords Go.Proofs.YtagccnjkgnaimaaW.PrintLast Go.Proofs.YtagccnjkgnaimaaW.PrintMore
set_option linter.unusedVariables false
set_option linter.unusedSimpArgs false
theorem mask_f (a n : Int) (h : rightB a n = true) : PLink.field_mask.f a n = some (maskI a n) := by
  obtain ⟨h0, h1, h2, h3⟩ := rightB_iff.1 h
  unfold PLink.field_mask.f maskI shl shr
  have e : wrap64 (64 - n) = 64 - n := by unfold wrap64; omega
  have e1 : min (64 - n).toNat IntKind.u64.bits = (64 - n).toNat := by simp [IntKind.bits]; omega
  have e2 : min a.toNat IntKind.u64.bits = a.toNat := by simp [IntKind.bits]; omega
  rw [e, if_pos (by omega), if_pos h0, e1, e2]
theorem fright_f (a n : Int) : PLink.field_Right.f a n = some (rightB a n) := by
  unfold PLink.field_Right.f rightB
  split
  · split
    · split
      · have : wrap64 (64 - a) = 64 - a := by unfold wrap64; omega
        rw [this]; congr 1; rw [Bool.eq_iff_iff]; simp; omega
      · simp; omega
    · simp; omega
  · simp; omega
theorem rd24 (l : List (Int × Int)) (i : Nat) (h : i < l.length) : PLink.rd_T24 (l.map fun f => (⟨f.1, f.2⟩ : PLink.S24)) (i : Int) = ⟨(l[i]).1, (l[i]).2⟩ := by simp [PLink.rd_T24, h]
theorem fapart_loop (l : List (Int × Int)) (hl : l.length ≤ 70) : ∀ (d i k : Nat) (m : Int), l.length - i = d → i ≤ l.length → d < k →
    PLink.field_Apart.l0 k m (l.map fun f => (⟨f.1, f.2⟩ : PLink.S24)) l.length i = some (apGo m (l.drop i)) := by
  intro d
  induction d with
  | zero =>
    intro i k m hd hi hk
    obtain ⟨k, rfl⟩ : ∃ m, k = m + 1 := ⟨k - 1, by omega⟩
    obtain rfl : i = l.length := by omega
    simp only [PLink.field_Apart.l0]
    rw [if_neg (by omega), List.drop_length]; rfl
  | succ d ih =>
    intro i k m hd hi hk
    obtain ⟨k, rfl⟩ : ∃ m, k = m + 1 := ⟨k - 1, by omega⟩
    have hlt : i < l.length := by omega
    have hw : wrap64 ((i : Int) + 1) = ((i + 1 : Nat) : Int) := by unfold wrap64; omega
    have hdr : l.drop i = l[i] :: l.drop (i + 1) := List.drop_eq_getElem_cons hlt
    obtain ⟨a, n, hf⟩ : ∃ a n, l[i] = (a, n) := ⟨_, _, rfl⟩
    simp only [PLink.field_Apart.l0]
    rw [if_pos (by omega), if_pos (by omega), if_pos (by simp; omega), rd24 l i hlt, hdr, hf]
    simp only [fright_f, Option.bind_some, apGo]
    by_cases hr : rightB a n = true
    · rw [if_pos hr, if_pos hr, mask_f a n hr]
      simp only [Option.bind_some]
      by_cases hz : bits .and .u64 m (maskI a n) = 0
      · rw [if_pos hz, if_pos hz, hw]
        exact ih (i + 1) k _ (by omega) (by omega) (by omega)
      · rw [if_neg hz, if_neg hz]
    · rw [if_neg hr, if_neg hr]
theorem unpack_loop (x : Int) (l : List (Int × Int)) (hl : l.length ≤ 70) (hr : ∀ f ∈ l, rightB f.1 f.2 = true) : ∀ (d i k : Nat), l.length - i = d → i ≤ l.length → d < k →
    PLink.field_Unpack.l0 k x ((l.take i).map fun f => getI x f.1 f.2) (l.map fun f => (⟨f.1, f.2⟩ : PLink.S24)) l.length i = some (l.map (fun f => getI x f.1 f.2), 0) := by
  intro d
  induction d with
  | zero =>
    intro i k hd hi hk
    obtain ⟨k, rfl⟩ : ∃ m, k = m + 1 := ⟨k - 1, by omega⟩
    obtain rfl : i = l.length := by omega
    simp only [PLink.field_Unpack.l0]
    rw [if_neg (by omega)]; simp
  | succ d ih =>
    intro i k hd hi hk
    obtain ⟨k, rfl⟩ : ∃ m, k = m + 1 := ⟨k - 1, by omega⟩
    have hlt : i < l.length := by omega
    have hw : wrap64 ((i : Int) + 1) = ((i + 1 : Nat) : Int) := by unfold wrap64; omega
    have h1 := ih (i + 1) k (by omega) (by omega) (by omega)
    rw [List.take_succ_eq_append_getElem hlt, List.map_append] at h1
    have hrr := hr _ (List.getElem_mem hlt)
    obtain ⟨a, n, hf⟩ : ∃ a n, l[i] = (a, n) := ⟨_, _, rfl⟩
    rw [hf] at hrr h1
    simp only at hrr
    obtain ⟨g0, g1, g2, g3⟩ := rightB_iff.1 hrr
    have e2 : min a.toNat IntKind.u64.bits = a.toNat := by simp [IntKind.bits]; omega
    have hg : shr .u64 (bits .and .u64 x (maskI a n)) a = getI x a n := by unfold shr getI; rw [e2]
    simp only [PLink.field_Unpack.l0]
    rw [if_pos (by omega), if_pos (by omega), if_pos (by simp; omega), rd24 l i hlt, hf]
    simp only [mask_f a n hrr, Option.bind_some]
    rw [if_pos g0, if_pos (by simp; omega), hw, hg]
    exact h1
theorem unpack_f (x : Int) (l : List (Int × Int)) (hl : l.length ≤ 70) : PLink.field_Unpack.f 71 x (l.map fun f => (⟨f.1, f.2⟩ : PLink.S24)) = some ((unpackI x l).1, (unpackI x l).2) := by
  unfold PLink.field_Unpack.f PLink.field_Apart.f
  have ha := fapart_loop l hl l.length 0 71 0 (by omega) (by omega) (by omega)
  rw [List.length_map, show (0 : Int) = ((0 : Nat) : Int) from rfl] at *
  simp only [List.drop_zero, Int.ofNat_zero, Int.natCast_zero] at ha ⊢
  rw [ha]
  simp only [Option.bind_some, unpackI]
  by_cases hap : apGo 0 l = true
  · rw [if_pos hap, if_pos hap]
    have hr : ∀ f ∈ l, rightB f.1 f.2 = true := ((apGo_iff l 0 (by decide)).1 hap).1
    have hu := unpack_loop x l hl hr l.length 0 71 (by omega) (by omega) (by omega)
    simpa using hu
  · rw [if_neg hap, if_neg hap]
end Go.Proofs.Ytagccnjkgnaimaa.XPLink
