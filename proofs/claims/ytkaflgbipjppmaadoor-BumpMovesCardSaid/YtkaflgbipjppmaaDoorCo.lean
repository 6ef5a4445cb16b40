/- Copy: a walk. -/
import Derived.Test.YtkaflgbipjppmaaDoorSy
namespace Go.Proofs.YtkaflgbipjppmaaDoor
open Go.RowKit
set_option linter.unusedVariables false
set_option linter.unusedSimpArgs false
variable {w w' : World} {B Wb Ob p q size : Nat} {W W' own own' : List Int}
theorem wpList_copy_mod {P : Program} {w : World} {ops : Array Oper} {rest : List Oper} {o : Oper} {a : Act} {Q : Exit → Act → World → Prop} (hgd : o.guard = none) (d s : Operand) (dT sT : TypeId)
    (ho : o.op = .call { callee := .builtin .copy, args := #[d, s], argTypes := #[dT, sT] }) (elem : TypeId) (hu : P.underlying dT = some (.slice elem)) (hsz : (P.info? elem).map (·.size) = some 1)
    (g off dLen dCap : Nat) (ad : Addr) (sLen sCap : Nat) (hd : a.eval d = .slice (some ⟨g, off, none⟩) dLen dCap) (hs : a.eval s = .slice (some ad) sLen sCap)
    (cur : List Value) (t : TypeId) (hg : w.heap[g]? = some (.cells cur.toArray t (0, 0))) (cs : List Value) (hn : cs.length = Nat.min sLen dLen)
    (hsrc : ∀ j v, cs[j]? = some v → w.cell? (ad.add j) = some v) (hfit : off + cs.length ≤ cur.length) (h1 : ∀ v ∈ cs, v.oneCell' = true)
    (h : ∀ w', Hid (w'.heap[g]? = some (.cells (splice cur off cs).toArray t (0, 0)) ∧ Mod (fun k => k = g) w w') → wpList P ops Q rest (a.put o.dst (goInt cs.length)) w') : wpList P ops Q (o :: rest) a w := by
  refine wpList_copy_own hgd d s dT sT ho elem hu hsz g off dLen dCap ad sLen sCap hd hs cur.toArray t hg cs hn hsrc (by simpa using hfit) h1 ?_
  refine h _ ⟨?_, ⟨rfl, rfl, rfl, by simp [World.setRow], fun k hk hn => setRow_other w g k _ (fun e => hn e)⟩⟩
  exact (setRow_heap w g _ _ t _ hg).trans (by simp [splice])
def inW (L : Nat) (a n : Int) : Prop := 0 ≤ n ∧ 0 ≤ a ∧ a ≤ L ∧ n ≤ L - a
theorem at_any (h : StoreAt w B Wb Ob p q W size own) (a n : Nat) (hi : a + n ≤ W.length) : Calls Tryd.prog 55 #[.pointer (some ⟨B, 0, none⟩), .int .i64 a, .int .i64 n] w fun e w' => e = .returned (.int .i64 (atE own size a n)) ∧ w = w' := by
  by_cases hn : n = 0
  · subst hn
    have : atE own size a 0 = 0 := rfl
    rw [this]
    exact at_none h a (by omega)
  · exact at_some h a n (by omega) hi
theorem atE_cases (own : List Int) (size a n : Nat) : (okW own size a n = true ∧ atE own size a n = 0) ∨ (okW own size a n = false ∧ atE own size a n = 17) := by
  unfold atE
  cases h : okW own size a n with
  | true => exact .inl ⟨rfl, rfl⟩
  | false => exact .inr ⟨rfl, rfl⟩
/-- At, whatever the place. -/
theorem at_two (h : StoreAt w B Wb Ob p q W size own) (a n : Int) : ∃ x : Int, (x = 0 ∨ x = 3 ∨ x = 17) ∧ (x = 3 ↔ ¬ inW W.length a n) ∧ (x = 0 ↔ inW W.length a n ∧ okW own size a.toNat n.toNat = true) ∧
    Calls Tryd.prog 55 #[.pointer (some ⟨B, 0, none⟩), .int .i64 a, .int .i64 n] w fun e w' => e = .returned (.int .i64 x) ∧ w = w' := by
  by_cases hi : inW W.length a n
  · obtain ⟨h1, h2, h3, h4⟩ := hi
    obtain ⟨a', rfl⟩ : ∃ a' : Nat, a = a' := ⟨a.toNat, by omega⟩
    obtain ⟨n', rfl⟩ : ∃ n' : Nat, n = n' := ⟨n.toNat, by omega⟩
    have hi : inW W.length (a' : Int) (n' : Int) := ⟨h1, h2, h3, h4⟩
    have hc := at_any h a' n' (by omega)
    rw [Int.toNat_natCast, Int.toNat_natCast]
    rcases atE_cases own size a' n' with ⟨g1, g2⟩ | ⟨g1, g2⟩
    · rw [g2] at hc
      exact ⟨0, .inl rfl, ⟨fun e => absurd e (by decide), fun e => absurd hi e⟩, ⟨fun _ => ⟨hi, g1⟩, fun _ => rfl⟩, hc⟩
    · rw [g2] at hc
      exact ⟨17, .inr (.inr rfl), ⟨fun e => absurd e (by decide), fun e => absurd hi e⟩, ⟨fun e => absurd e (by decide), fun e => absurd (g1.symm.trans e.2) (by decide)⟩, hc⟩
  · exact ⟨3, .inr (.inl rfl), ⟨fun _ => hi, fun _ => rfl⟩, ⟨fun e => absurd e (by decide), fun e => absurd e.1 hi⟩, at_out h a n hi⟩
/-- What Copy says. -/
def copyE (W own : List Int) (size : Nat) (t f n : Int) (x : Int) : Prop :=
  (x = 3 ∧ (¬ inW W.length t n ∨ ¬ inW W.length f n)) ∨ (x = 17 ∧ inW W.length t n ∧ inW W.length f n ∧ ¬ (okW own size t.toNat n.toNat = true ∧ okW own size f.toNat n.toNat = true)) ∨
  (x = 0 ∧ inW W.length t n ∧ inW W.length f n ∧ okW own size t.toNat n.toNat = true ∧ okW own size f.toNat n.toNat = true)
theorem copy_bad (h : StoreAt w B Wb Ob p q W size own) (t f n : Int) (hb : ¬ (inW W.length t n ∧ inW W.length f n ∧ okW own size t.toNat n.toNat = true ∧ okW own size f.toNat n.toNat = true)) :
    Calls Tryd.prog 24 #[.pointer (some ⟨B, 0, none⟩), .int .i64 t, .int .i64 f, .int .i64 n] w fun e w' => (∃ x, e = .returned (.int .i64 x) ∧ copyE W own size t f n x ∧ x ≠ 0) ∧ w = w' := by
  obtain ⟨x, hx, hx3, hx0, hcx⟩ := at_two h t n
  obtain ⟨y, hy, hy3, hy0, hcy⟩ := at_two h f n
  have HX := Lib.hid hcx
  have HY := Lib.hid hcy
  have HX3 := Lib.hid hx3
  have HX0 := Lib.hid hx0
  have HY3 := Lib.hid hy3
  have HY0 := Lib.hid hy0
  have HB := Lib.hid hb
  clear h hcx hcy hx3 hx0 hy3 hy0 hb
  by_cases h3 : x = 3 ∨ y = 3
  · have hE : Hid (copyE W own size t f n 3) := Lib.hid (.inl ⟨rfl, h3.imp HX3.out.1 HY3.out.1⟩)
    by_cases hx3 : x = 3
    · subst hx3
      go_enter Tryd.func24, Tryd.ntmps24
      go_wp2_with (go_at_call 55; first | (refine HX.out.mono ?_; rintro e w1 ⟨rfl, rfl⟩; clear HX) | (refine HY.out.mono ?_; rintro e w1 ⟨rfl, rfl⟩; clear HY))
      go_ret
      exact ⟨⟨3, rfl, hE.out, by decide⟩, rfl⟩
    · have hy3 : y = 3 := by omega
      subst hy3
      have k1 : (x == 3) = false := by simpa using hx3
      clear h3 hx3
      go_enter Tryd.func24, Tryd.ntmps24
      go_wp2_with (go_at_call 55; first | (refine HX.out.mono ?_; rintro e w1 ⟨rfl, rfl⟩; clear HX) | (refine HY.out.mono ?_; rintro e w1 ⟨rfl, rfl⟩; clear HY))
      go_ret
      exact ⟨⟨3, rfl, hE.out, by decide⟩, rfl⟩
  · have hix : inW W.length t n := Classical.byContradiction fun e => h3 (.inl (HX3.out.2 e))
    have hiy : inW W.length f n := Classical.byContradiction fun e => h3 (.inr (HY3.out.2 e))
    have hE : Hid (copyE W own size t f n 17) := Lib.hid (.inr (.inl ⟨rfl, hix, hiy, fun e => HB.out ⟨hix, hiy, e.1, e.2⟩⟩))
    have hxy : x = 17 ∨ y = 17 := by
      rcases hx with rfl | rfl | rfl
      · rcases hy with rfl | rfl | rfl
        · exact absurd ⟨hix, hiy, (HX0.out.1 rfl).2, (HY0.out.1 rfl).2⟩ HB.out
        · exact absurd (.inr rfl) h3
        · exact .inr rfl
      · exact absurd (.inl rfl) h3
      · exact .inl rfl
    by_cases hx17 : x = 17
    · subst hx17
      have k2 : (y == 3) = false := by simp; omega
      clear hxy hx hix hiy hy
      go_enter Tryd.func24, Tryd.ntmps24
      go_wp2_with (go_at_call 55; first | (refine HX.out.mono ?_; rintro e w1 ⟨rfl, rfl⟩; clear HX) | (refine HY.out.mono ?_; rintro e w1 ⟨rfl, rfl⟩; clear HY))
      go_ret
      exact ⟨⟨17, rfl, hE.out, by decide⟩, rfl⟩
    · have hy17 : y = 17 := by omega
      have hx00 : x = 0 := by omega
      subst hy17
      subst hx00
      clear hxy hx hix hiy hy hx17
      go_enter Tryd.func24, Tryd.ntmps24
      go_wp2_with (go_at_call 55; first | (refine HX.out.mono ?_; rintro e w1 ⟨rfl, rfl⟩; clear HX) | (refine HY.out.mono ?_; rintro e w1 ⟨rfl, rfl⟩; clear HY))
      go_ret
      exact ⟨⟨17, rfl, hE.out, by decide⟩, rfl⟩
/-- The words when n from f on go over to t and on. -/
def copyW (W : List Int) (t f n : Nat) : List Int := splice W t ((W.drop f).take n)
theorem copyW_get {W : List Int} {t f n : Nat} (ht : t + n ≤ W.length) (hf : f + n ≤ W.length) (i : Nat) : (copyW W t f n).getD i 0 = if t ≤ i ∧ i < t + n then W.getD (f + (i - t)) 0 else W.getD i 0 := by
  have hl : ((W.drop f).take n).length = n := by simp; omega
  unfold copyW
  rw [splice_getD (by rw [hl]; exact ht), hl]
  by_cases h : t ≤ i ∧ i < t + n
  · rw [if_pos h, if_pos h]
    simp only [List.getD, List.getElem?_take, List.getElem?_drop]
    rw [if_pos (by omega)]
  · rw [if_neg h, if_neg h]
set_option maxRecDepth 100000 in
set_option maxHeartbeats 2000000 in
theorem copy_in (h : StoreAt w B Wb Ob p q W size own) (t f n : Nat) (ht : t + n ≤ W.length) (hf : f + n ≤ W.length) (h1 : okW own size t n = true) (h2 : okW own size f n = true) :
    Calls Tryd.prog 24 #[.pointer (some ⟨B, 0, none⟩), .int .i64 t, .int .i64 f, .int .i64 n] w fun e w' => e = .returned (.int .i64 0) ∧ StoreAt w' B Wb Ob p q (copyW W t f n) size own ∧ Mod (Four3 Wb Ob p q) w w' := by
  have hc1 := at_any h t n ht
  have hc2 := at_any h f n hf
  unfold atE at hc1 hc2
  rw [if_pos h1] at hc1
  rw [if_pos h2] at hc2
  have HX := Lib.hid hc1
  have HY := Lib.hid hc2
  have H := Lib.hid h
  have k0 := h.c0
  have hl := h.wlen
  have hbody := h.body
  have hn0 : t ≤ t + n := by omega
  obtain ⟨z1, hz1⟩ : ∃ z1, z1 = t + n := ⟨_, rfl⟩
  obtain ⟨z2, hz2⟩ : ∃ z2, z2 = f + n := ⟨_, rfl⟩
  have e1 : IntKind.i64.wrap ((t : Int) + (n : Int)) = (z1 : Int) := by rw [IntKind.wrap_i64]; omega
  have e2 : IntKind.i64.wrap ((f : Int) + (n : Int)) = (z2 : Int) := by rw [IntKind.wrap_i64]; omega
  have g1 : t ≤ z1 := by omega
  have g2 : f ≤ z2 := by omega
  have g3 : z1 ≤ W.length := by omega
  have g4 : z2 ≤ W.length := by omega
  have HZ1 := Lib.hid (show z1 - t = n by omega)
  have HZ2 := Lib.hid (show z2 - f = n by omega)
  have HTN := Lib.hid ht
  have HFN := Lib.hid hf
  by_cases hn : n = 0
  · have HN := Lib.hid hn
    clear h hc1 hc2 h1 h2 hz1 hz2 ht hf hn0 hn
    go_enter Tryd.func24, Tryd.ntmps24
    go_wp2_with (go_at_call 55; first | (refine HX.out.mono ?_; rintro e w1 ⟨rfl, rfl⟩; clear HX) | (refine HY.out.mono ?_; rintro e w1 ⟨rfl, rfl⟩; clear HY))
    obtain ⟨w3, hw3⟩ : ∃ w3, w3 = w.drew := ⟨_, rfl⟩
    refine still_tail_at 18 (by kernel_rfl) (by kernel_rfl) hw3 ?_
    replace k0 : w3.cell? ⟨B, 0, none⟩ = some (.slice (some ⟨Wb, 0, none⟩) W.length W.length) := by rw [hw3]; exact k0
    have H3 : Hid (StoreAt w3 B Wb Ob p q W size own) := Lib.hid (by rw [hw3]; exact H.out.on (Below.drew (Below.refl _ _)))
    have HM3 : Hid (Mod (Four3 Wb Ob p q) w w3) := Lib.hid (by rw [hw3]; exact (Mod.refl _ _).drew)
    clear hw3 hbody
    simp only [List.take_succ_cons, List.take_zero, List.drop_succ_cons, List.drop_zero]
    iterate 18
      with_reducible refine wpStill_step ?_
      intro K hK
      go_simp
      with_reducible refine hK _ ?_
      clear hK K
    refine wpStill_nil ?_
    refine wpList_copy_nothing rfl _ _ _ _ rfl 46 Tryd.underlying42 (by kernel_rfl) _ _ (z1 - t) (W.length - t) (z2 - f) (W.length - f) rfl rfl (by rw [HZ1.out, HZ2.out, HN.out]; rfl) ?_
    go_wp2
    all_goals
      go_ret
      have hcw : ∀ a b : Nat, copyW W a b n = W := fun a b => by rw [HN.out]; unfold copyW splice; simp
      rw [hcw]
      exact ⟨rfl, H3.out, HM3.out⟩
  · have hne1 : ¬ W.length = t := by omega
    have hne2 : ¬ W.length = f := by omega
    have HN := Lib.hid hn
    clear h hc1 hc2 h1 h2 hz1 hz2 ht hf hn0 hn
    go_enter Tryd.func24, Tryd.ntmps24
    go_wp2_with (go_at_call 55; first | (refine HX.out.mono ?_; rintro e w1 ⟨rfl, rfl⟩; clear HX) | (refine HY.out.mono ?_; rintro e w1 ⟨rfl, rfl⟩; clear HY))
    obtain ⟨w3, hw3⟩ : ∃ w3, w3 = w.drew := ⟨_, rfl⟩
    refine still_tail_at 18 (by kernel_rfl) (by kernel_rfl) hw3 ?_
    replace k0 : w3.cell? ⟨B, 0, none⟩ = some (.slice (some ⟨Wb, 0, none⟩) W.length W.length) := by rw [hw3]; exact k0
    have H3 : Hid (StoreAt w3 B Wb Ob p q W size own) := Lib.hid (by rw [hw3]; exact H.out.on (Below.drew (Below.refl _ _)))
    have HM3 : Hid (Mod (Four3 Wb Ob p q) w w3) := Lib.hid (by rw [hw3]; exact (Mod.refl _ _).drew)
    clear hw3 hbody
    simp only [List.take_succ_cons, List.take_zero, List.drop_succ_cons, List.drop_zero]
    iterate 18
      with_reducible refine wpStill_step ?_
      intro K hK
      go_simp
      with_reducible refine hK _ ?_
      clear hK K
    refine wpStill_nil ?_
    have hcl : (((W.drop f).take n).map wordV).length = n := by have := HFN.out; simp; omega
    refine wpList_copy_mod rfl _ _ _ _ rfl 46 Tryd.underlying42 (by kernel_rfl) Wb t (z1 - t) (W.length - t) ⟨Wb, f, none⟩ (z2 - f) (W.length - f) rfl rfl (W.map wordV) _ H3.out.body (((W.drop f).take n).map wordV) (by rw [hcl, HZ1.out, HZ2.out]; exact (Nat.min_self n).symm) ?_ (by rw [hcl]; have := HTN.out; simp; omega) (by intro v hv; obtain ⟨x, _, rfl⟩ := List.mem_map.1 hv; rfl) ?_
    · intro j v hv
      have hj : j < n := by rw [← hcl]; exact (List.getElem?_eq_some_iff.1 hv).1
      have hfj := HFN.out
      have h9 := H3.out.word_cell (f + j) (by omega)
      rw [show (⟨Wb, f, none⟩ : Addr).add j = ⟨Wb, f + j, none⟩ from Addr.add_lit ..]
      rw [h9]
      have : (((W.drop f).take n).map wordV)[j]? = some (.int .u64 (W.getD (f + j) 0)) := by
        simp [List.getD, hj, show f + j < W.length by omega, wordV]
      rw [this] at hv
      exact hv
    · intro w4 H4
      go_wp2
      go_ret
      obtain ⟨hrow0, hm4⟩ := H4.out
      have hrow : w4.heap[Wb]? = some (.cells ((copyW W t f n).map wordV).toArray 46 (0, 0)) := by
        rw [hrow0]
        unfold copyW splice
        simp [List.map_take, List.map_drop]
      have hlen : (copyW W t f n).length = W.length := length_splice _ _ _ (by have := HFN.out; have := HTN.out; simp; omega)
      have h3 := H3.out
      obtain ⟨u, hu⟩ := h3.map
      refine ⟨rfl, { h3 with head := ?_, body := hrow, owners := hm4.keeps h3.owners (fun e => h3.n5 e.symm), map := ⟨u, hu.mod hm4 (fun e => h3.n6 e.symm) (fun e => h3.n7 e.symm)⟩, hW := (by rw [hlen]; exact h3.hW) }, HM3.out.trans (hm4.mono fun k _ e => .inl e)⟩
      rw [hlen]
      exact hm4.keeps h3.head h3.n1
end Go.Proofs.YtkaflgbipjppmaaDoor
