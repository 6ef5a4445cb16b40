/- clear of a part of a row: laws of this claim's own. -/
import Derived.Test.YtkaflgbipjppmaaDoorBw
import Derived.Laws.CopyRow
import Derived.Laws.CopyOwn
import Derived.Deep.RegionLaw
import Derived.BigFrame
import Derived.StillTail
import Derived.StillTailTactics
namespace Go.Proofs.YtkaflgbipjppmaaDoor
open Go.RowKit
set_option linter.unusedVariables false
theorem run_clear_row {P : Program} (w : World) (t elem ty : TypeId) (hu : P.underlying t = some (.slice elem)) (z : Value) (hz : (zeroValue elem).run P w = .ok z w) (hc : z.cells = #[z]) (h1 : z.oneCell' = true)
    (g off n cap : Nat) (hn : 0 < n) (cur : List Value) (tt : TypeId) (hg : w.heap[g]? = some (.cells cur.toArray tt (0, 0))) (hfit : off + n ≤ cur.length) :
    (Builtin.clear_ #[t] ty #[.slice (some ⟨g, off, none⟩) n cap]).run P w = .ok (.tuple #[]) (w.setRow g (splice cur off (List.replicate n z)).toArray) := by
  obtain ⟨m, rfl⟩ : ∃ m, n = m + 1 := ⟨n - 1, by omega⟩
  have hst := run_storeCells_at P g off tt (List.replicate (m + 1) z) 0 cur.toArray w hg (by simpa using hfit) (fun v hv => by rw [(List.mem_replicate.1 hv).2]; exact h1)
  have hzc : (Builtin.zeroCells z.cells (m + 1)).toList = List.replicate (m + 1) z := by
    unfold Builtin.zeroCells
    rw [hc]
    apply List.ext_getElem
    · simp
    · intro i h2 h3
      simp [Nat.mod_one]
  simp [Builtin.clear_, run_underlying hu, hz, hzc, hst, splice]
theorem step_clear {P : Program} {ops : Array Oper} {o : Oper} {a : Act} {w : World} {K : Act → World → Prop} {Q : Exit → Act → World → Prop} {E : Prop} (hgd : o.guard = none) (d : Operand) (t : TypeId)
    (ho : o.op = .call { callee := .builtin .clear, args := #[d], argTypes := #[t] }) (elem : TypeId) (hu : P.underlying t = some (.slice elem)) (z : Value) (hz : (zeroValue elem).run P w = .ok z w) (hc : z.cells = #[z]) (h1 : z.oneCell' = true)
    (g off n cap : Nat) (hd : a.eval d = .slice (some ⟨g, off, none⟩) n cap) (hn : 0 < n) (cur : List Value) (tt : TypeId) (hg : w.heap[g]? = some (.cells cur.toArray tt (0, 0))) (hfit : off + n ≤ cur.length)
    (h : ∀ w', RowKit.Hid (w'.heap[g]? = some (.cells (splice cur off (List.replicate n z)).toArray tt (0, 0)) ∧ Mod (fun k => k = g) w w') → K (a.put o.dst (.tuple #[])) w') :
    if Region.wanted o (yielded ops a.tmps) = true then Oper.wp P o a w K Q else E := by
  have hw : Region.wanted o (yielded ops a.tmps) = true := by simp [Region.wanted, hgd]
  rw [if_pos hw]
  have hrun := run_clear_row (P := P) w t elem o.type hu z hz hc h1 g off n cap hn cur tt hg hfit
  unfold Oper.wp
  simp [execOp, ho, resolve, invoke, builtin, hd, hrun, Result.andThen]
  exact h _ ⟨setRow_heap w g _ _ tt _ hg, ⟨rfl, rfl, rfl, by simp [World.setRow], fun k hk hn => setRow_other w g k _ (fun e => hn e)⟩⟩
theorem wpList_clear {P : Program} {ops : Array Oper} {rest : List Oper} {o : Oper} {a : Act} {w : World} {Q : Exit → Act → World → Prop} (hgd : o.guard = none) (d : Operand) (t : TypeId)
    (ho : o.op = .call { callee := .builtin .clear, args := #[d], argTypes := #[t] }) (elem : TypeId) (hu : P.underlying t = some (.slice elem)) (z : Value) (hz : (zeroValue elem).run P w = .ok z w) (hc : z.cells = #[z]) (h1 : z.oneCell' = true)
    (g off n cap : Nat) (hd : a.eval d = .slice (some ⟨g, off, none⟩) n cap) (hn : 0 < n) (cur : List Value) (tt : TypeId) (hg : w.heap[g]? = some (.cells cur.toArray tt (0, 0))) (hfit : off + n ≤ cur.length)
    (h : ∀ w', RowKit.Hid (w'.heap[g]? = some (.cells (splice cur off (List.replicate n z)).toArray tt (0, 0)) ∧ Mod (fun k => k = g) w w') → wpList P ops Q rest (a.put o.dst (.tuple #[])) w') :
    wpList P ops Q (o :: rest) a w := by
  refine wpList_plain hgd fun K hK => ?_
  have hrun := run_clear_row (P := P) w t elem o.type hu z hz hc h1 g off n cap hn cur tt hg hfit
  unfold Oper.wp
  simp [execOp, ho, resolve, invoke, builtin, hd, hrun, Result.andThen]
  exact hK _ _ (h _ ⟨setRow_heap w g _ _ tt _ hg, ⟨rfl, rfl, rfl, by simp [World.setRow], fun k hk hn => setRow_other w g k _ (fun e => hn e)⟩⟩)
theorem still_tail_at {P : Program} {id : Nat} {Q : Exit → Act → World → Prop} {a : Act} {w w3 : World} {l : List Oper} (n : Nat) (hm : P.follows .mixedOrders = true) (hB : Region.lexTailB .any l.toArray n = true) (hw : w3 = w.drew)
    (h : wpStill P l.toArray w3 (fun a' => wpList P l.toArray Q (l.drop n) a' w3) (l.take n) a) : (Code.region id l.toArray true).wp P Q a w := by
  subst hw
  exact wp_region_still_tail n hm hB h
end Go.Proofs.YtkaflgbipjppmaaDoor
