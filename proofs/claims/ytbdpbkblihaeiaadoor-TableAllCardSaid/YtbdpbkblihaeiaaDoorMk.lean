/- A map from tokens to numbers: laws of this claim's own. -/
import Derived.Test.YtbdpbkblihaeiaaDoorTn
import Derived.Test.YtbdpbkblihaeiaaDoorRy
import Derived.DeepKeys4
import Derived.MapViews
import Derived.Maps.OwnIn
import Derived.Maps.Views
namespace Go.Proofs.YtbdpbkblihaeiaaDoor
open Go.RowKit
set_option linter.unusedVariables false
set_option linter.unusedSimpArgs false
variable {l : List Slot}
theorem mk_laid : laidOutB Tryd.prog = true := by kernel_rfl
theorem mk_row : (57 : TypeId) < Tryd.prog.types.size := of_decide_eq_true (by kernel_rfl)
theorem mk_wide : (match Tryd.prog.underlying 57 with | some (.array _ _) | some (.struct _) => true | _ => false) = true := by kernel_rfl
theorem mk_deep2 : Tryd.prog.keyTypeAt 2 57 = true := by kernel_rfl
set_option maxRecDepth 100000 in
theorem mk_law : WideMaps.KeyLaw Tryd.prog 57 := deep_law_laid mk_laid (m := 2) (by omega) mk_row mk_deep2 mk_wide
theorem mk_key : Maps.Keyed Tryd.prog 57 := Maps.Keyed.of_law mk_law
theorem mk_deep : Tryd.prog.keyTypeAt (Tryd.prog.types.size + 1) 57 = true := by kernel_rfl
def tokKey (x : Int × Int) : Lit := .string (keyBytes [.int .i64 x.1, .int .i64 x.2])
theorem isKey (x : Int × Int) : WideAt.IsKeyLit (tokKey x) := trivial
theorem mk_size : ∃ n, Tryd.prog.types.size = n + 1 := ⟨Tryd.prog.types.size - 1, by kernel_rfl⟩
theorem mk_cells : Tryd.prog.cellsOf 57 = 2 := by kernel_rfl
theorem mk_cell1 : Tryd.prog.cellsOf 3 = 1 := by kernel_rfl
theorem small_wf {y : Int} (h1 : 0 ≤ y) (h2 : y < 4096) : (Lit.int .i64 y).wf = true := by
  simp [Lit.wf, IntKind.min, IntKind.max, IntKind.bits, IntKind.signed]; omega
theorem key_tok {x : Int × Int} (h : TokIn x) : keyOf Tryd.prog 57 (tokV x.1 x.2) = some (tokKey x) := by
  obtain ⟨i, g⟩ := x
  obtain ⟨h1, h2, h3, h4⟩ := h
  have w1 := small_wf h1 h2
  have w2 := small_wf h3 h4
  obtain ⟨n, hn⟩ := mk_size
  have hl : Tryd.prog.keyLits (Tryd.prog.types.size + 1) 57 [.int .i64 i, .int .i64 g] = some [.int .i64 i, .int .i64 g] := by
    rw [hn]
    simp [Program.keyLits, Tryd.underlying57, Tryd.underlying3, mk_cells, mk_cell1, w1, w2]
  have hf : (Value.agg #[.int .i64 i, .int .i64 g]).formed Tryd.prog 57 = true := by
    simp [Value.formed, Tryd.underlying57, mk_cells]
  unfold keyOf tokV tokKey
  rw [Tryd.underlying57]
  have hk : Tryd.prog.keyType 57 = true := mk_deep
  simp only [hk, hf, Bool.and_self, if_true]
  show Option.map _ (Tryd.prog.keyLits (Tryd.prog.types.size + 1) 57 [.int .i64 i, .int .i64 g]) = _
  rw [hl]
  rfl
theorem tokKey_inj {x y : Int × Int} (hx : TokIn x) (hy : TokIn y) (h : tokKey x = tokKey y) : x = y := by
  have h1 := mk_key.inj (key_tok hx) (h ▸ key_tok hy)
  unfold tokV at h1
  injection h1 with h1
  injection h1 with h1
  injection h1 with h2 h3
  injection h3 with h3 h4
  injection h2 with h5 h6
  injection h3 with h7 h8
  exact Prod.ext h6 h8
abbrev oneD : DataW Unit := .lit (.int .i64 1)
abbrev zeroD : DataW Unit := .lit (.int .i64 0)
/-- The map whose keys are these tokens, each with 1. -/
def DK (xs : List (Int × Int)) : DataW Unit := Maps.setOf oneD (xs.map tokKey)
theorem DK_snoc (xs : List (Int × Int)) (x : Int × Int) : DK (xs ++ [x]) = (DK xs).put (tokKey x) oneD := by
  unfold DK
  rw [List.map_append, List.map_singleton, Maps.setOf_snoc]
theorem at_fold {y : Int × Int} (hy : TokIn y) : ∀ (xs : List (Int × Int)) (m : DataW Unit), Maps.IsMap m → (∀ x ∈ xs, TokIn x) →
    ((xs.map tokKey).foldl (fun m x => m.put x oneD) m).atKey (tokKey y) zeroD = if y ∈ xs then oneD else m.atKey (tokKey y) zeroD
  | [], m, _, _ => by simp
  | x :: xs, m, hm, h => by
    rw [List.map_cons, List.foldl_cons, at_fold hy xs _ (hm.put _ _) (fun z hz => h z (List.mem_cons_of_mem _ hz))]
    by_cases hyx : y = x
    · subst hyx
      rw [Maps.atKey_put_same hm (isKey y)]
      simp
    · have hne : tokKey y ≠ tokKey x := fun e => hyx (tokKey_inj hy (h x (by simp)) e)
      rw [Maps.atKey_put_other hne]
      by_cases hin : y ∈ xs <;> simp [hin, hyx]
theorem DK_at {y : Int × Int} (hy : TokIn y) (xs : List (Int × Int)) (h : ∀ x ∈ xs, TokIn x) : (DK xs).atKey (tokKey y) zeroD = .lit (.int .i64 (if y ∈ xs then 1 else 0)) := by
  unfold DK Maps.setOf
  rw [at_fold hy xs _ Maps.isMap_empty h]
  split <;> rfl
theorem size_foldK : ∀ (xs : List (Int × Int)) (m : DataW Unit), Maps.Tidy m → xs.Nodup → (∀ x ∈ xs, TokIn x ∧ Maps.has m (tokKey x) = false) →
    Maps.size ((xs.map tokKey).foldl (fun m x => m.put x oneD) m) = Maps.size m + xs.length
  | [], m, _, _, _ => by simp
  | x :: xs, m, hm, hn, h => by
    obtain ⟨hx, hn⟩ := List.nodup_cons.1 hn
    rw [List.map_cons, List.foldl_cons, size_foldK xs _ (hm.put (isKey x) _) hn (fun y hy => ?_), Maps.size_put hm, (h x (by simp)).2]
    · simp; omega
    · have hne : tokKey y ≠ tokKey x := fun e => by
        have := tokKey_inj (h y (List.mem_cons_of_mem _ hy)).1 (h x (by simp)).1 e
        subst this
        exact hx hy
      exact ⟨(h y (List.mem_cons_of_mem _ hy)).1, by rw [Maps.has_put_other hne]; exact (h y (List.mem_cons_of_mem _ hy)).2⟩
theorem DK_size (xs : List (Int × Int)) (hn : xs.Nodup) (h : ∀ x ∈ xs, TokIn x) : Maps.size (DK xs) = xs.length := by
  unfold DK Maps.setOf
  rw [size_foldK xs _ Maps.tidy_empty hn (fun x hx => ⟨h x hx, rfl⟩)]
  simp [Maps.size]
/-- The tokens of what All hands out. -/
def keysT (xs : List (Int × Int × Entry)) : List (Int × Int) := xs.map fun x => (x.1, x.2.1)
theorem keysT_snoc (xs : List (Int × Int × Entry)) (x : Int × Int × Entry) : keysT (xs ++ [x]) = keysT xs ++ [(x.1, x.2.1)] := by simp [keysT]
theorem keysT_in (h8 : l.length ≤ 8) (hg : ∀ s ∈ l, s.gen ≤ 255) : ∀ y ∈ keysT (toks l), TokIn y := by
  intro y hy
  obtain ⟨x, hx, rfl⟩ := List.mem_map.1 hy
  obtain ⟨k, hk, hu, rfl⟩ := mem_toks hx
  have hm : l.getD k slot0 ∈ l := by
    have : l.getD k slot0 = l[k] := by simp [List.getD, hk]
    rw [this]; exact List.getElem_mem hk
  have := hg _ hm
  refine ⟨?_, ?_, ?_, ?_⟩ <;> simp only [] <;> omega
theorem keysT_nodup : (keysT (toks l)).Nodup := by
  unfold keysT List.Nodup
  rw [List.pairwise_map]
  refine (toks_rise l).imp ?_
  intro a b h e
  have : a.1 = b.1 := (Prod.mk.inj e).1
  omega
theorem keysT_fresh (y : Int × Int) : y ∈ keysT (toks l) ↔ freshT l y.1 y.2 = true := by
  constructor
  · intro h
    obtain ⟨x, hx, rfl⟩ := List.mem_map.1 h
    obtain ⟨k, hk, hu, rfl⟩ := mem_toks hx
    exact fresh_in hk hu rfl
  · intro h
    obtain ⟨k, h1, hk, hu, h2⟩ := fresh_out h
    refine List.mem_map.2 ⟨(((k : Nat) : Int), (((l.getD k slot0).gen : Nat) : Int), (l.getD k slot0).e), ?_, ?_⟩
    · rw [toks_range]
      refine List.mem_filterMap.2 ⟨k, List.mem_range.2 hk, ?_⟩
      unfold tokOf
      rw [if_pos hu]
    · exact Prod.ext h1.symm h2
theorem keysT_len : (keysT (toks l)).length = usedN l := by unfold keysT; rw [List.length_map, used_toks]
theorem map_mod {w w' : World} {P : Program} {k : TypeId} {R : Value → Option (DataW Unit × List MemPlace)} {b n : Nat} {D : DataW Unit} {S : Nat → Prop} (h : w.ownsMap P k R b n D) (hm : Mod S w w') (hn : ¬ S b) : w'.ownsMap P k R b n D := by
  obtain ⟨es, clock, hb, F, hs, hD⟩ := h
  exact ⟨es, clock, hm.keeps hb hn, F, hs, hD⟩
end Go.Proofs.YtbdpbkblihaeiaaDoor
