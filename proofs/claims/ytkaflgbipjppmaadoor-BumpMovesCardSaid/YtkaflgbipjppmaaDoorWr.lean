/- A row of the call's own whose block may be longer than its slice's capacity (what an append of nothing to s[:i:i] leaves). No program is imported. -/
import Derived.Test.YtkaflgbipjppmaaDoorAp
import Derived.Test.YtkaflgbipjppmaaDoorO
import Derived.Test.YtkaflgbipjppmaaDoorMod
namespace Go.Proofs.YtkaflgbipjppmaaDoor
open Go Go.RowKit
set_option linter.unusedVariables false
set_option linter.unusedSimpArgs false
def rowW (w : World) (base : Nat) (e : TypeId) (size : Nat) (v : Value) (n : Nat) (xs : List Value) : Prop :=
  xs.length = n * size ∧
  ((v = .slice none 0 0 ∧ n = 0) ∨
   ∃ g cap cur, v = .slice (some ⟨g, 0, none⟩) n cap ∧ base ≤ g ∧ w.heap[g]? = some (.cells cur e (0, 0)) ∧ n ≤ cap ∧ cap ≤ maxLen ∧ cap * size ≤ cur.size ∧ cur.toList.take (n * size) = xs)
section
variable {w w' : World} {base : Nat} {e : TypeId} {size : Nat} {v : Value} {n : Nat} {xs : List Value}
theorem rowW.of_own (h : w.ownsRow base e size v n xs) : rowW w base e size v n xs := by
  refine ⟨h.1, ?_⟩
  rcases h.2 with hn | ⟨g, cap, cur, hv, hb, hg, h1, h2, h3, h4⟩
  · exact .inl hn
  · exact .inr ⟨g, cap, cur, hv, hb, hg, h1, h2, by omega, h4⟩
theorem rowW_nil (w : World) (base : Nat) (e : TypeId) (size : Nat) : rowW w base e size (.slice none 0 0) 0 [] := .of_own (World.ownsRow_nil _ _ _ _)
theorem rowW.lt (h : rowW w base e size v n xs) : ∀ k, v.ownBlock = some k → base ≤ k ∧ k < w.heap.size := by
  intro k hk
  rcases h.2 with ⟨rfl, _⟩ | ⟨g, cap, cur, rfl, hb, hg, _⟩
  · simp [Value.ownBlock] at hk
  · simp [Value.ownBlock] at hk
    subst hk
    exact ⟨hb, (Array.getElem?_eq_some_iff.1 hg).1⟩
theorem rowW.cells (h : rowW w base e size v n xs) {g : Nat} (hg : v.ownBlock = some g) : ∀ j u, xs[j]? = some u → w.cell? ((⟨g, 0, none⟩ : Addr).add j) = some u := by
  intro j u hu
  rcases h.2 with ⟨rfl, _⟩ | ⟨g', cap, cur, rfl, _, hgg, _, _, _, htake⟩
  · simp [Value.ownBlock] at hg
  · simp [Value.ownBlock] at hg
    subst hg
    have hadd : (⟨g', 0, none⟩ : Addr).add j = ⟨g', j, none⟩ := by unfold Addr.add; split <;> simp_all
    rw [hadd, cell_of_row w g' j cur e (0, 0) hgg]
    rw [← htake, List.getElem?_take] at hu
    split at hu
    · simpa using hu
    · cases hu
theorem wrow_mod {P : Nat → Prop} (h : rowW w base e size v n xs) (hm : Mod P w w') (hn : ∀ k, v.ownBlock = some k → ¬ P k) : rowW w' base e size v n xs := by
  obtain ⟨h1, h2⟩ := h
  refine ⟨h1, ?_⟩
  rcases h2 with h2 | ⟨g, cap, cur, hv, hg, hh, r⟩
  · exact .inl h2
  · exact .inr ⟨g, cap, cur, hv, hg, hm.keeps hh (hn g (by rw [hv]; rfl)), r⟩
theorem wrow_on (h : rowW w base e size v n xs) (hb : Below w.heap.size w w') : rowW w' base e size v n xs := wrow_mod h (P := fun _ => False) (.of_below hb) (fun _ _ e => e)
theorem wrow_slice {α : Type} {l : List α} (enc : α → List Value) (d : α) (hs : ∀ a, (enc a).length = size) (h : rowW w base e size v l.length (l.flatMap enc)) :
    ∃ A c, v = .slice A l.length c ∧ l.length ≤ c ∧ SliceOf w A size enc d l := by
  rcases h.2 with ⟨hv, h0⟩ | ⟨g, cap, cur, hv, hg, hh, hnc, hcm, hsz, htake⟩
  · exact ⟨none, 0, by rw [hv, h0], by omega, fun i hi => by omega⟩
  · have hl := h.1
    have hown : (w.alloc (.cells (cur.toList.take (l.length * size)).toArray e)).ownsRow 0 e size (.slice (some ⟨w.heap.size, 0, none⟩) l.length l.length) l.length (l.flatMap enc) := by
      refine ⟨hl, .inr ⟨w.heap.size, l.length, _, rfl, Nat.zero_le _, heap_alloc_new w _, Nat.le_refl _, by omega, ?_, ?_⟩⟩
      · rw [htake]; simpa using hl
      · simp only [htake, List.toList_toArray]; rw [← hl]; exact List.take_length
    obtain ⟨A, c, e1, e2, e3⟩ := own_slice enc d hs hown
    injection e1 with e1 e4 e5
    subst e1
    refine ⟨_, cap, hv, hnc, fun i hi => ?_⟩
    obtain ⟨b, o, h1, h2⟩ := e3 i hi
    injection h1 with h1
    injection h1 with h1 h3
    subst h1
    subst h3
    refine ⟨g, 0, rfl, fun j u hu => ?_⟩
    have h4 := h2 j u hu
    rw [blk_cells (heap_alloc_new w _)] at h4
    rw [blk_cells hh]
    rw [Array.getElem?_eq_some_iff] at h4
    obtain ⟨h5, h6⟩ := h4
    simp only [List.getElem_toArray, List.getElem_take, Array.getElem_toList] at h6
    simp only [List.size_toArray, List.length_take, Array.length_toList] at h5
    rw [Array.getElem?_eq_some_iff]
    exact ⟨by omega, h6⟩
end
section
variable {P : Program} (w : World)
theorem run_append_weak (base : Nat) (t ty e : TypeId) (i : TypeInfo) (z : Value) (size bytes : Nat) (ht : P.underlying t = some (.slice e)) (hi : P.info? e = some i) (hz : i.zero = some z)
    (hsize : i.size = size) (hby : i.bytes = bytes) (hzs : z.cells.size = size) (hsz : 0 < size)
    (v : Value) (n : Nat) (xs : List Value) (hown : rowW w base e size v n xs)
    (a : Addr) (m c : Nat) (news : List Value) (hl : news.length = m * size) (hnews : ∀ j u, news[j]? = some u → w.cell? (a.add j) = some u) (h1 : ∀ u ∈ news, u.oneCell' = true)
    (h63 : n + m ≤ maxLen) (hbytes : (n + m) * bytes ≤ 140737488355328) (hbase : base ≤ w.heap.size) (hm : 0 < m) :
    ∃ v' w', (Builtin.append_ #[t, t] ty #[v, .slice (some a) m c]).run P w = .ok v' w' ∧ rowW w' base e size v' (n + m) (xs ++ news) ∧ w.grownBy w' v.ownBlock ∧
      (∀ k, v'.ownBlock = some k → v.ownBlock = some k ∨ k = w.heap.size) := by
  by_cases hs : w.ownsRow base e size v n xs
  · obtain ⟨v', w', h2, h3, h4, h5⟩ := run_append_two (P := P) w base t ty e i z size bytes ht hi hz hsize hby hzs hsz v n xs hs a m c news hl hnews h1 h63 hbytes hbase hm
    exact ⟨v', w', h2, .of_own h3, h4, h5⟩
  · subst hsize
    subst hby
    have hsmall : n + m ≤ 9223372036854775807 := by simp only [maxLen] at h63; omega
    have hlen : (xs ++ news).length = (n + m) * i.size := by rw [List.length_append, hown.1, hl, Nat.add_mul]
    rcases hown.2 with ⟨rfl, rfl⟩ | ⟨g, cap, cur, rfl, hbg, hg, hnc, hcm, hcs, htake⟩
    · exact absurd ⟨hown.1, .inl ⟨rfl, rfl⟩⟩ hs
    · by_cases hroom : n + m ≤ cap
      · have hfit : n * i.size + news.length ≤ cur.size := by
          rw [hl, ← Nat.add_mul]
          exact Nat.le_trans (Nat.mul_le_mul_right _ hroom) hcs
        have hr := run_append_room (P := P) w t ty e i ht hi g n cap cur hg a m c news hl hnews h1 hroom hfit
        refine ⟨_, _, hr, ⟨hlen, .inr ⟨g, cap, _, rfl, hbg, setRow_heap w g cur _ e _ hg, hroom, hcm, ?_, ?_⟩⟩, ⟨rfl, rfl, rfl, by simp, fun k _ hk => setRow_other w g k _ (fun e => hk (by simp [Value.ownBlock, e]))⟩, fun k hk => .inl hk⟩
        · simp only [List.size_toArray, List.length_append, List.length_take, List.length_drop, Array.length_toList]
          omega
        · rw [htake, ← hlen]
          exact List.take_left
      · have holds : ∀ j u, xs[j]? = some u → w.cell? ((⟨g, 0, none⟩ : Addr).add j) = some u := hown.cells (g := g) rfl
        have hr := run_append_grow (P := P) w t ty e i z ht hi hz ⟨g, 0, none⟩ n cap xs hown.1 holds a m c news hl hnews (by omega) (by omega) (growslice_fits (by omega) hbytes)
        have hge := grownCap_ge w (n + m) cap e
        have hcm2 : grownCap w (n + m) cap e ≤ maxLen := grownCap_le_maxLen w (n + m) cap e h63
        refine ⟨_, _, hr, .of_own ⟨hlen, .inr ⟨w.heap.size, _, _, rfl, hbase, heap_alloc_new w.drew _, hge, hcm2, ?_, ?_⟩⟩, ⟨rfl, rfl, rfl, by simp, fun k hk _ => by first | exact Go.heap_alloc_old w.drew _ k hk | exact Go.heap_alloc_old hk | exact (below1 w.drew _).block k hk⟩, fun k hk => .inr (Option.some.inj hk).symm⟩
        · simp only [Array.size_append, List.size_toArray, size_zeroCells, hzs, hown.1, hl, ← Nat.add_mul]
          congr 1
          omega
        · simp only [Array.toList_append, List.append_assoc]
          rw [← List.append_assoc, ← hlen]
          exact List.take_left
end
theorem wpList_append_weak {P : Program} (w : World) {ops : Array Oper} {rest : List Oper} {o : Oper} {a : Act} {Q : Exit → Act → World → Prop} (hgd : o.guard = none) (s x : Operand) (t : TypeId)
    (ho : o.op = .call { callee := .builtin .append, args := #[s, x], argTypes := #[t, t] })
    (base : Nat) (e : TypeId) (i : TypeInfo) (z : Value) (size bytes : Nat) (ht : P.underlying t = some (.slice e)) (hi : P.info? e = some i) (hz : i.zero = some z)
    (hsize : i.size = size) (hby : i.bytes = bytes) (hzs : z.cells.size = size) (hsz : 0 < size)
    (v : Value) (n : Nat) (xs : List Value) (hs : a.eval s = v) (hown : rowW w base e size v n xs)
    (ad : Addr) (m c : Nat) (news : List Value) (hx : a.eval x = .slice (some ad) m c) (hl : news.length = m * size) (hnews : ∀ j u, news[j]? = some u → w.cell? (ad.add j) = some u) (h1 : ∀ u ∈ news, u.oneCell' = true)
    (h63 : n + m ≤ maxLen) (hbytes : (n + m) * bytes ≤ 140737488355328) (hbase : base ≤ w.heap.size) (hm : 0 < m)
    (h : ∀ v' w', rowW w' base e size v' (n + m) (xs ++ news) → w.grownBy w' v.ownBlock → (∀ k, v'.ownBlock = some k → v.ownBlock = some k ∨ k = w.heap.size) → wpList P ops Q rest (a.put o.dst v') w') : wpList P ops Q (o :: rest) a w :=
  wpList_plain hgd fun _ hK => by
    obtain ⟨v', w', hr, h2, h3, h4⟩ := run_append_weak (P := P) w base t o.type e i z size bytes ht hi hz hsize hby hzs hsz v n xs hown ad m c news hl hnews h1 h63 hbytes hbase hm
    unfold Oper.wp execOp
    simp only [ho, resolve, invoke, builtin, Sem.run_bind, Sem.run_pure, Result.andThen_ok, List.map_toArray, List.map_cons, List.map_nil, hs, hx, hr]
    exact hK _ _ (h v' w' h2 h3 h4)
end Go.Proofs.YtkaflgbipjppmaaDoor
