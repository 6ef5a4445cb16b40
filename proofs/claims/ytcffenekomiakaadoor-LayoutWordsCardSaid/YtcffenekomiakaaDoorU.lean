/- What field.Unpack answers: the printed function, held against the plain words. -/
import Derived.Test.YtcffenekomiakaaDoorA
import Derived.Test.YtcffenekomiakaaDoorD
import Derived.Test.YtcffenekomiakaaDoorPUnpackx1
namespace Go.Proofs.YtcffenekomiakaaDoor
open Go.RowKit Go.Proofs.YtcffenekomiakaaDoorW.PrintWords Go.Proofs.YtcffenekomiakaaDoorW.PrintLast Go.Proofs.YtcffenekomiakaaDoorW.PrintMore
set_option linter.unusedVariables false
set_option linter.unusedSimpArgs false
def enc1 (k : IntKind) (x : Int) : List Value := [.int k x]
def enc2 (f : Int × Int) : List Value := [.int .i64 f.1, .int .i64 f.2]
theorem SliceOf.fl {w : World} {A : Option Addr} {l : List (Int × Int)} (h : SliceOf w A 2 enc2 (0, 0) l) : IsFl w A l := fun i hi => by
  obtain ⟨b, o, e, h1⟩ := h i hi
  exact ⟨b, o, e, h1 0 _ rfl, h1 1 _ rfl⟩
theorem reads_of {α β : Type} {R : α → List Value → Prop} {w : World} {A : Option Addr} {size : Nat} {enc : β → List Value} {d : β} {l : List β} (f : β → α) (h : SliceOf w A size enc d l) (hm : l.length ≤ maxLen)
    (hs : ∀ x, (enc x).length = size) (hR : ∀ x, R (f x) (enc x)) (hpos : 0 < size) : ReadsRow R size w A l.length (l.map f) := by
  unfold maxLen at hm
  refine ⟨by simp, by omega, fun hn => ?_⟩
  obtain ⟨b, o, e, h0⟩ := h 0 hn
  refine ⟨_, e, fun j p hp => ?_⟩
  obtain ⟨x, hx, rfl⟩ : ∃ x, l[j]? = some x ∧ f x = p := by simpa using hp
  have hj := (List.getElem?_eq_some_iff.1 hx).1
  refine ⟨enc x, hs x, hR x, fun i u hu => ?_⟩
  obtain ⟨b', o', e', h1⟩ := h j hj
  rw [e] at e'
  cases e'
  have : (⟨b, o, none⟩ : Addr).add (j * size + i) = ⟨b, o + j * size + i, none⟩ := by unfold Addr.add; split <;> simp <;> omega
  rw [this]
  exact h1 i u (by simpa [List.getD, hx] using hu)
theorem slice_of_C {k : IntKind} {w : World} {A : Option Addr} {l : List Int} (h : (Kd.int k).C w A l.length l) : SliceOf w A 1 (enc1 k) 0 l := fun i hi => by
  obtain ⟨ad0, e0, c0⟩ := Kd.at_int h 0 (by omega) (by omega)
  obtain ⟨ad, e, c⟩ := Kd.at_int h i (by omega) (by omega)
  rw [e0] at e
  cases e
  have hspot : ad0.spot = none := by simpa [Addr.add] using World.cell?_spot c0
  obtain ⟨b, o, spot⟩ := ad0
  simp only at hspot
  subst hspot
  refine ⟨b, o, e0, fun j v hv => ?_⟩
  cases j with
  | succ j => simp [enc1] at hv
  | zero =>
    simp [enc1] at hv
    subst hv
    have hadd : (⟨b, o, none⟩ : Addr).add (i : Int).toNat = ⟨b, o + i * 1 + 0, none⟩ := by rw [Int.toNat_natCast]; unfold Addr.add; split <;> simp_all
    rw [hadd] at c
    rw [c]; simp [rd]
theorem SliceOf.k24u {w : World} {A : Option Addr} {l : List (Int × Int)} (h : SliceOf w A 2 enc2 (0, 0) l) (hm : l.length ≤ maxLen) : Kd.C PUnpack.k56 w A l.length (l.map fun f => (⟨f.1, f.2⟩ : PUnpack.S56)) :=
  reads_of _ h hm (fun _ => rfl) (fun x => PUnpack.k56_mk w ⟨x.1, x.2⟩) (by decide)
theorem mask_f (a n : Int) (h : rightB a n = true) : PUnpack.field_mask.f a n = some (maskI a n) := by
  obtain ⟨h0, h1, h2, h3⟩ := rightB_iff.1 h
  unfold PUnpack.field_mask.f maskI shl shr
  have e : wrap64 (64 - n) = 64 - n := by unfold wrap64; omega
  have e1 : min (64 - n).toNat IntKind.u64.bits = (64 - n).toNat := by simp [IntKind.bits]; omega
  have e2 : min a.toNat IntKind.u64.bits = a.toNat := by simp [IntKind.bits]; omega
  rw [e, if_pos (by omega), if_pos h0, e1, e2]
theorem fright_f (a n : Int) : PUnpack.field_Right.f a n = some (rightB a n) := by
  unfold PUnpack.field_Right.f rightB
  split
  · split
    · split
      · have : wrap64 (64 - a) = 64 - a := by unfold wrap64; omega
        rw [this]; congr 1; rw [Bool.eq_iff_iff]; simp; omega
      · simp; omega
    · simp; omega
  · simp; omega
theorem rd24 (l : List (Int × Int)) (i : Nat) (h : i < l.length) : PUnpack.rd_T56 (l.map fun f => (⟨f.1, f.2⟩ : PUnpack.S56)) (i : Int) = ⟨(l[i]).1, (l[i]).2⟩ := by simp [PUnpack.rd_T56, h]
theorem fapart_loop (l : List (Int × Int)) (hl : l.length ≤ 70) : ∀ (d i k : Nat) (m : Int), l.length - i = d → i ≤ l.length → d < k →
    PUnpack.field_Apart.l0 k m (l.map fun f => (⟨f.1, f.2⟩ : PUnpack.S56)) l.length i = some (apGo m (l.drop i)) := by
  intro d
  induction d with
  | zero =>
    intro i k m hd hi hk
    obtain ⟨k, rfl⟩ : ∃ m, k = m + 1 := ⟨k - 1, by omega⟩
    obtain rfl : i = l.length := by omega
    simp only [PUnpack.field_Apart.l0]
    rw [if_neg (by omega), List.drop_length]; rfl
  | succ d ih =>
    intro i k m hd hi hk
    obtain ⟨k, rfl⟩ : ∃ m, k = m + 1 := ⟨k - 1, by omega⟩
    have hlt : i < l.length := by omega
    have hw : wrap64 ((i : Int) + 1) = ((i + 1 : Nat) : Int) := by unfold wrap64; omega
    have hdr : l.drop i = l[i] :: l.drop (i + 1) := List.drop_eq_getElem_cons hlt
    obtain ⟨a, n, hf⟩ : ∃ a n, l[i] = (a, n) := ⟨_, _, rfl⟩
    simp only [PUnpack.field_Apart.l0]
    rw [if_pos (by omega), if_pos (by omega), if_pos (by simp; omega), rd24 l i hlt, hdr, hf]
    simp only [fright_f, Option.bind_some, apGo]
    by_cases hr : rightB a n = true
    · rw [if_pos hr, if_pos hr, mask_f a n hr]
      simp only [Option.bind_some]
      by_cases hz : bits .and .u64 m (maskI a n) = 0
      · rw [if_pos hz, if_pos hz, hw]
        exact ih (i + 1) k _ (by omega) (by omega) (by omega)
      · rw [if_neg hz, if_neg hz]
    · rw [if_neg hr, if_neg hr]
theorem unpack_loop (x : Int) (l : List (Int × Int)) (hl : l.length ≤ 70) (hr : ∀ f ∈ l, rightB f.1 f.2 = true) : ∀ (d i k : Nat), l.length - i = d → i ≤ l.length → d < k →
    PUnpack.field_Unpack.l0 k x ((l.take i).map fun f => getI x f.1 f.2) (l.map fun f => (⟨f.1, f.2⟩ : PUnpack.S56)) l.length i = some (l.map (fun f => getI x f.1 f.2), 0) := by
  intro d
  induction d with
  | zero =>
    intro i k hd hi hk
    obtain ⟨k, rfl⟩ : ∃ m, k = m + 1 := ⟨k - 1, by omega⟩
    obtain rfl : i = l.length := by omega
    simp only [PUnpack.field_Unpack.l0]
    rw [if_neg (by omega)]; simp
  | succ d ih =>
    intro i k hd hi hk
    obtain ⟨k, rfl⟩ : ∃ m, k = m + 1 := ⟨k - 1, by omega⟩
    have hlt : i < l.length := by omega
    have hw : wrap64 ((i : Int) + 1) = ((i + 1 : Nat) : Int) := by unfold wrap64; omega
    have h1 := ih (i + 1) k (by omega) (by omega) (by omega)
    rw [List.take_succ_eq_append_getElem hlt, List.map_append] at h1
    have hrr := hr _ (List.getElem_mem hlt)
    obtain ⟨a, n, hf⟩ : ∃ a n, l[i] = (a, n) := ⟨_, _, rfl⟩
    rw [hf] at hrr h1
    simp only at hrr
    obtain ⟨g0, g1, g2, g3⟩ := rightB_iff.1 hrr
    have e2 : min a.toNat IntKind.u64.bits = a.toNat := by simp [IntKind.bits]; omega
    have hg : shr .u64 (bits .and .u64 x (maskI a n)) a = getI x a n := by unfold shr getI; rw [e2]
    simp only [PUnpack.field_Unpack.l0]
    rw [if_pos (by omega), if_pos (by omega), if_pos (by simp; omega), rd24 l i hlt, hf]
    simp only [mask_f a n hrr, Option.bind_some]
    rw [if_pos g0, if_pos (by simp; omega), hw, hg]
    exact h1
def unpackI (x : Int) (l : List (Int × Int)) : List Int × Int := if apGo 0 l = true then (l.map (fun f => getI x f.1 f.2), 0) else ([], 2)
def UnpackPost (x : Int) (l : List (Int × Int)) (w : World) (e : Ending) (w' : World) : Prop :=
  ∃ A c, e = .returned (.tuple #[.slice A (unpackI x l).1.length c, .int .i64 (unpackI x l).2]) ∧ (unpackI x l).1.length ≤ c ∧ (Kd.int .u64).C w' A (unpackI x l).1.length (unpackI x l).1 ∧ Below w.heap.size w w'
theorem unpack_any (x : Int) (A : Option Addr) (c : Nat) (l : List (Int × Int)) (w : World) (h : SliceOf w A 2 enc2 (0, 0) l) (hl : l.length ≤ 70) (hc : l.length ≤ c) : Calls Tryd.prog 23 #[.int .u64 x, .slice A l.length c] w (UnpackPost x l w) := by
  have hm : l.length ≤ maxLen := by unfold maxLen; omega
  have hC := h.k24u hm
  have hf : PUnpack.field_Unpack.f 71 x (l.map fun f => (⟨f.1, f.2⟩ : PUnpack.S56)) = some ((unpackI x l).1, (unpackI x l).2) := by
    unfold PUnpack.field_Unpack.f PUnpack.field_Apart.f
    have ha := fapart_loop l hl l.length 0 71 0 (by omega) (by omega) (by omega)
    rw [List.length_map, show (0 : Int) = ((0 : Nat) : Int) from rfl] at *
    simp only [List.drop_zero, Int.ofNat_zero, Int.natCast_zero] at ha ⊢
    rw [ha]
    simp only [Option.bind_some, unpackI]
    by_cases hap : apGo 0 l = true
    · rw [if_pos hap, if_pos hap]
      have hr : ∀ f ∈ l, rightB f.1 f.2 = true := ((apGo_iff l 0 (by decide)).1 hap).1
      have hu := unpack_loop x l hl hr l.length 0 71 (by omega) (by omega) (by omega)
      simpa using hu
    · rw [if_neg hap, if_neg hap]
  have hlen : (l.map fun f => (⟨f.1, f.2⟩ : PUnpack.S56)).length = l.length := by simp
  have hcall := PUnpack.field_Unpack.calls 71 x A c (l.map fun f => (⟨f.1, f.2⟩ : PUnpack.S56)) _ _ w (by rw [hlen]; exact hC) (by rw [hlen]; exact hc) hf
  rw [hlen] at hcall
  refine hcall.mono fun e w' h => ?_
  obtain ⟨v0, he, hR0, hb⟩ := h
  obtain ⟨A0, c0, rfl, hc0, hC0⟩ := Kd.R_reads hR0
  exact ⟨A0, c0, he, hc0, hC0, hb⟩
end Go.Proofs.YtcffenekomiakaaDoor
