/- Contracts of the package table: New, Set, Drop, Add. -/
import Derived.Test.YtbdpbkblihaeiaaDoorTc
namespace Go.Proofs.YtbdpbkblihaeiaaDoor
open Go.RowKit
set_option linter.unusedVariables false
set_option linter.unusedSimpArgs false
variable {w w' : World} {B S p q : Nat} {l : List Slot} {tB tS T T' : TypeId}
def Four (B S p q k : Nat) : Prop := k = B ∨ k = S ∨ k = p ∨ k = q
def TableTo (w : World) (B S p q : Nat) (l : List Slot) (tB tS T T' : TypeId) (w' : World) : Prop := TableAt w' B S p q l tB tS T T' ∧ Mod (Four B S p q) w w'
theorem body_set (h : w.heap[S]? = some (.cells (l.flatMap slotV).toArray tS (0, 0))) (k j : Nat) (hk : k < l.length) (hj : j < 6) (v : Value) (x : Slot) (hx : slotV x = (slotV (l.getD k slot0)).set j v) :
    (w.setCell ⟨S, k * 6 + j, none⟩ v).heap[S]? = some (.cells ((l.set k x).flatMap slotV).toArray tS (0, 0)) := by
  rw [blk_set h (k * 6 + j) v, ← flatMap_set slotV 6 (fun _ => rfl) slot0 l k j v x hk hj hx]
  simp
theorem set_getD (l : List Slot) (k : Nat) (hk : k < l.length) (x : Slot) : (l.set k x).getD k slot0 = x := by simp [List.getD, hk]
/-- An entry is written into a slot. -/
def entSet (w : World) (S k : Nat) (e : Entry) : World := (((w.setCell ⟨S, k * 6 + 2, none⟩ (.int .i64 e.addr)).setCell ⟨S, k * 6 + 3, none⟩ (.int .i64 e.region)).setCell ⟨S, k * 6 + 4, none⟩ (.bool e.held)).setCell ⟨S, k * 6 + 5, none⟩ (.bool e.pinned)
theorem entSet_body (h : w.heap[S]? = some (.cells (l.flatMap slotV).toArray tS (0, 0))) (k : Nat) (hk : k < l.length) (e : Entry) :
    (entSet w S k e).heap[S]? = some (.cells ((l.set k ⟨(l.getD k slot0).gen, (l.getD k slot0).used, e⟩).flatMap slotV).toArray tS (0, 0)) := by
  generalize hs : l.getD k slot0 = s
  obtain ⟨g, u, a, r, hh, pp⟩ := s
  obtain ⟨a', r', h', p'⟩ := e
  have h1 := body_set h k 2 hk (by decide) (.int .i64 a') ⟨g, u, a', r, hh, pp⟩ (by rw [hs]; rfl)
  have h2 := body_set h1 k 3 (by simpa using hk) (by decide) (.int .i64 r') ⟨g, u, a', r', hh, pp⟩ (by rw [set_getD l k hk]; rfl)
  rw [List.set_set] at h2
  have h3 := body_set h2 k 4 (by simpa using hk) (by decide) (.bool h') ⟨g, u, a', r', h', pp⟩ (by rw [set_getD l k hk]; rfl)
  rw [List.set_set] at h3
  have h4 := body_set h3 k 5 (by simpa using hk) (by decide) (.bool p') ⟨g, u, a', r', h', p'⟩ (by rw [set_getD l k hk]; rfl)
  rw [List.set_set] at h4
  exact h4
theorem entSet_mod {P : Nat → Prop} (w : World) (S k : Nat) (e : Entry) (h : P S) : Mod P w (entSet w S k e) := (((Mod.setCell P w _ _ h).trans (Mod.setCell P _ _ _ h)).trans (Mod.setCell P _ _ _ h)).trans (Mod.setCell P _ _ _ h)
theorem goneN_set (l : List Slot) (k : Nat) (hk : k < l.length) (x : Slot) : (goneN (l.set k x) : Int) = goneN l - (if retired (l.getD k slot0) then 1 else 0) + (if retired x then 1 else 0) := by
  have h := List.countP_set (p := retired) (l := l) (i := k) (a := x) hk
  have hp : retired l[k] = true → 0 < l.countP retired := fun e => List.countP_pos_iff.2 ⟨_, List.getElem_mem hk, e⟩
  have e : l.getD k slot0 = l[k] := by simp [List.getD, hk]
  unfold goneN
  rw [← List.countP_eq_length_filter, ← List.countP_eq_length_filter, h, e]
  cases h1 : retired l[k] <;> cases h2 : retired x <;> simp <;> (first | omega | (have := hp h1; omega))
theorem TableAt.turned (h : TableAt w B S p q l tB tS T T') (k : Nat) (x : Slot) (hx : x.gen ≤ 255) {ws : List Nat} {n : Int}
    (hm : MapAt w' p q ((l.map taken).set k (taken x)) ws T T')
    (hbody : w'.heap[S]? = some (.cells ((l.set k x).flatMap slotV).toArray tS (0, 0)))
    (hhead : w'.heap[B]? = some (.cells #[.slice (some ⟨S, 0, none⟩) l.length l.length, .pointer (some ⟨p, 0, none⟩), .int .i64 n] tB (0, 0)))
    (hn : n = (goneN (l.set k x) : Nat)) : TableAt w' B S p q (l.set k x) tB tS T T' := by
  refine { h with head := ?_, body := hbody, map := ⟨ws, ?_⟩, gen := fun s hs => ?_, le := by simpa using h.le }
  · rw [hhead, hn, List.length_set]; rfl
  · rw [List.map_set]; exact hm
  · rcases List.mem_or_eq_of_mem_set hs with g | g
    · exact h.gen s g
    · rw [g]; exact hx
theorem set_same_taken (k : Nat) (hk : k < l.length) (x : Slot) (hx : taken x = taken (l.getD k slot0)) : (l.map taken).set k (taken x) = l.map taken := by
  have e : (l.map taken)[k]'(by simpa using hk) = taken x := by rw [hx]; simp [List.getD, hk]
  rw [← e, List.set_getElem_self]
theorem cell_gen (h : TableAt w B S p q l tB tS T T') (k : Nat) : (l.getD k slot0).gen ≤ 255 := by
  by_cases hk : k < l.length
  · have : l.getD k slot0 = l[k] := by simp [List.getD, hk]
    rw [this]; exact h.gen _ (List.getElem_mem hk)
  · have : l.getD k slot0 = slot0 := by simp [List.getD, Nat.le_of_not_lt hk]
    rw [this]; decide
theorem made_slots (n : Nat) : madeCells #[.int .i64 0, .bool false, .int .i64 0, .int .i64 0, .bool false, .bool false] (n * 6) = ((List.replicate n slot0).flatMap slotV).toArray := by
  have hlen : ((List.replicate n slot0).flatMap slotV).length = n * 6 := by
    induction n with
    | zero => rfl
    | succ n ih => rw [List.replicate_succ, List.flatMap_cons, List.length_append, ih, Nat.succ_mul]; simp [slotV]; omega
  apply Array.ext
  · rw [size_madeCells]; simpa using hlen.symm
  · intro i h1 h2
    rw [size_madeCells] at h1
    have hk : i / 6 < n := by omega
    have hr : i % 6 < 6 := Nat.mod_lt _ (by decide)
    have hg := flatMap_get slotV 6 (fun _ => rfl) slot0 (List.replicate n slot0) (i / 6) (i % 6) ((slotV slot0)[i % 6]'hr) (by simpa using hk) (by
      have : (List.replicate n slot0).getD (i / 6) slot0 = slot0 := by simp [List.getD, hk]
      rw [this]; exact List.getElem?_eq_getElem _)
    rw [show i / 6 * 6 + i % 6 = i by omega] at hg
    have h3 : ((List.replicate n slot0).flatMap slotV).toArray[i] = (slotV slot0)[i % 6]'hr := by
      have := (List.getElem?_eq_some_iff.1 hg).2
      simpa using this
    rw [h3]
    simp only [madeCells, Array.getElem_map, Array.getElem_range]
    generalize i % 6 = j at hr
    have : j = 0 ∨ j = 1 ∨ j = 2 ∨ j = 3 ∨ j = 4 ∨ j = 5 := by omega
    rcases this with rfl | rfl | rfl | rfl | rfl | rfl <;> rfl
set_option maxHeartbeats 1000000 in
theorem tset_nil (i g : Int) (e : Entry) (w : World) : Calls Tryd.prog 33 #[.pointer none, tokV i g, entV e] w fun e w' => e = .returned (.int .i64 1) ∧ Below w.heap.size w w' := by
  unfold tokV entV
  go_enter Tryd.func33, Tryd.ntmps33
  go_wp2_with fail
  refine (find_nil i g _).mono ?_
  rintro e w1 ⟨rfl, hb⟩
  have hB := two_below hb
  clear hb
  go_wp2
  go_ret
  exact ⟨rfl, hB⟩
set_option maxHeartbeats 1000000 in
theorem tset_no (h : TableAt w B S p q l tB tS T T') (i g : Int) (e : Entry) (hf : freshT l i g = false) : Calls Tryd.prog 33 #[.pointer (some ⟨B, 0, none⟩), tokV i g, entV e] w fun e w' => e = .returned (.int .i64 8) ∧ Below w.heap.size w w' := by
  unfold tokV entV
  have HC := Lib.hid (fun t0 c t1 => find_no ((h.on (below1 w (.cells #[.int .i64 i, .int .i64 g] t0))).on (below1 _ (.cells c t1))) i g hf)
  clear h
  go_enter Tryd.func33, Tryd.ntmps33
  go_wp2_with fail
  refine (HC.out _ _ _).mono ?_
  rintro e w1 ⟨rfl, hb⟩
  have hB := two_below hb
  clear hb
  go_wp2
  go_ret
  exact ⟨rfl, hB⟩
set_option maxHeartbeats 1000000 in
theorem tset_yes (h : TableAt w B S p q l tB tS T T') (k : Nat) (g : Int) (ee : Entry) (h1 : k < l.length) (h2 : (l.getD k slot0).used = true) (h3 : ((l.getD k slot0).gen : Int) = g) :
    Calls Tryd.prog 33 #[.pointer (some ⟨B, 0, none⟩), tokV k g, entV ee] w fun e w' => e = .returned (.int .i64 0) ∧ TableTo w B S p q (l.set k ⟨(l.getD k slot0).gen, true, ee⟩) tB tS T T' w' := by
  unfold tokV entV
  have HC := Lib.hid (fun t0 c t1 => find_fresh ((h.on (below1 w (.cells #[.int .i64 (k : Int), .int .i64 g] t0))).on (below1 _ (.cells c t1))) k g h1 h2 h3)
  have H := Lib.hid h
  have H2 := Lib.hid h2
  clear h h2 h3
  go_enter Tryd.func33, Tryd.ntmps33
  go_wp2_with fail
  refine (HC.out _ _ _).mono ?_
  rintro e w1 ⟨rfl, hb⟩
  have hB := two_below hb
  have hC := two_block hb
  have hT := H.out.on hB
  have d0 := hT.cell k h1 2 _ rfl
  have d1 := hT.cell k h1 3 _ rfl
  have d2 := hT.cell k h1 4 _ rfl
  have d3 := hT.cell k h1 5 _ rfl
  have c0 := (blk_cells hC 0).trans rfl
  have c1 := (blk_cells hC 1).trans rfl
  have c2 := (blk_cells hC 2).trans rfl
  have c3 := (blk_cells hC 3).trans rfl
  have f0 := blk_thaw hT.body (k * 6 + 2)
  have f1 := blk_thaw hT.body (k * 6 + 3)
  have f2 := blk_thaw hT.body (k * 6 + 4)
  have f3 := blk_thaw hT.body (k * 6 + 5)
  have HT := Lib.hid hT
  clear hb hC hT
  go_wp2
  go_ret
  refine ⟨rfl, ?_⟩
  have hT := HT.out
  obtain ⟨ws, hm⟩ := hT.map
  have hmod : Mod (Four B S p q) w (entSet w1 S k ee) := (Mod.of_below hB).trans (entSet_mod w1 S k ee (.inr (.inl rfl)))
  have hmS : Mod (fun i => i = S) w1 (entSet w1 S k ee) := entSet_mod w1 S k ee rfl
  have hgen := cell_gen hT k
  have hx : (⟨(l.getD k slot0).gen, true, ee⟩ : Slot) = ⟨(l.getD k slot0).gen, (l.getD k slot0).used, ee⟩ := by rw [H2.out]
  rw [hx]
  refine ⟨hT.turned k _ hgen (ws := ws) (n := (goneN l : Nat)) ?_ (entSet_body hT.body k h1 ee) (hmS.keeps hT.head hT.BS) ?_, hmod⟩
  · rw [set_same_taken k h1 _ (by simp [taken])]
    exact hm.mod hmS (fun e => hT.Sp e.symm) (fun e => hT.Sq e.symm)
  · have := goneN_set l k h1 ⟨(l.getD k slot0).gen, (l.getD k slot0).used, ee⟩
    rw [this]; simp [retired, H2.out]
def NewT (n : Nat) (w : World) (e : Ending) (w' : World) : Prop := ∃ B S p q, e = .returned (.tuple #[.pointer (some ⟨B, 0, none⟩), .int .i64 0]) ∧ TableAt w' B S p q (List.replicate n slot0) 107 104 88 85 ∧ Below w.heap.size w w' ∧ w.heap.size ≤ B ∧ w.heap.size ≤ S ∧ w.heap.size ≤ p ∧ w.heap.size ≤ q
theorem tnew_out (n : Int) (w : World) (hn : n < 1 ∨ 4096 < n) : Calls Tryd.prog 35 #[.int .i64 n] w fun e w' => e = .returned (.tuple #[.pointer none, .int .i64 3]) ∧ w = w' := by
  rcases hn with hn | hn
  · go_enter Tryd.func35, Tryd.ntmps35
    go_wp2
    go_ret2
    exact ⟨rfl, rfl⟩
  · have hm : ¬ n < 1 := by omega
    go_enter Tryd.func35, Tryd.ntmps35
    go_wp2
    go_ret2
    exact ⟨rfl, rfl⟩
theorem infoSlot : (Tryd.prog.info? 104).map (fun i => (i.zero, i.size, i.bytes)) = some (some (.agg #[.int .i64 0, .bool false, .int .i64 0, .int .i64 0, .bool false, .bool false]), 6, 40) := by kernel_rfl
set_option maxRecDepth 100000 in
theorem tnew_in (n : Nat) (w : World) (h1 : 1 ≤ n) (h2 : n ≤ 4096) : Calls Tryd.prog 35 #[.int .i64 n] w (NewT n w) := by
  obtain ⟨i0, hi, hz0, hz1, hz2⟩ := info_parts infoSlot
  have HMK : Hid (∀ w1 : World, (Instr.makeSlice 105 (.int .i64 (n : Int)) (.int .i64 (n : Int))).run Tryd.prog w1 = .ok (.slice (some ⟨w1.heap.size, 0, none⟩) n n) (w1.alloc (.cells ((List.replicate n slot0).flatMap slotV).toArray 104))) := Lib.hid (fun w1 => by
    rw [run_make w1 105 104 i0 (.agg #[.int .i64 0, .bool false, .int .i64 0, .int .i64 0, .bool false, .bool false]) Tryd.underlying105 hi hz0 .i64 .i64 _ _ (by omega) (by omega) (by rw [hz2]; omega) (by omega), hz1]
    rw [Int.toNat_natCast, ← made_slots n]
    rfl)
  have c1 : ¬ ((n : Int) < 1) := by omega
  have c2 : ¬ ((4096 : Int) < n) := by omega
  have HN := Lib.hid (new_in n w h1 (by omega))
  have H2 := Lib.hid h2
  clear hi hz0 hz1 hz2 h1 h2
  go_enter Tryd.func35, Tryd.ntmps35
  go_wp2_with fail
  refine HN.out.mono ?_
  rintro e w1 ⟨rfl, hM, hb⟩
  have hmk := HMK.out w1
  have HM := Lib.hid hM
  have HB := Lib.hid hb
  clear hM hb
  generalize hbody : ((List.replicate n slot0).flatMap slotV).toArray = body at hmk
  have HBD := Lib.hid hbody
  clear hbody
  go_wp2
  go_ret2
  have hM := HM.out
  have hb := HB.out
  have hlt := block_lt hM.head
  have hlt2 := block_lt hM.body
  have hlen : (List.replicate n slot0).length = n := List.length_replicate
  have hgone : goneN (List.replicate n slot0) = 0 := by unfold goneN; rw [List.filter_eq_nil_iff.2]; rfl; intro a ha; rw [(List.mem_replicate.1 ha).2]; decide
  have hmap : (List.replicate n slot0).map taken = List.replicate n false := by rw [List.map_replicate]; rfl
  have hb2 : Below w1.heap.size w1 ((w1.alloc (.cells body 104)).alloc (.cells #[.slice (some ⟨w1.heap.size, 0, none⟩) n n, .pointer (some ⟨w.heap.size + 1, 0, none⟩), .int .i64 0] 107)) := (below1 w1 _).on (below1 _ _)
  refine ⟨w1.heap.size + 1, w1.heap.size, w.heap.size + 1, w.heap.size, rfl, ⟨?_, ?_, ⟨List.replicate ((n + 63) / 64) 0, ?_⟩, ?_, by omega, by omega, by omega, by omega, by omega, by rw [hlen]; exact H2.out⟩, hb.on hb2, ?_⟩
  · rw [show ((List.replicate n slot0).filter retired).length = 0 from hgone, hlen]
    have := heap_alloc_new (w1.alloc (.cells body 104)) (.cells #[.slice (some ⟨w1.heap.size, 0, none⟩) n n, .pointer (some ⟨w.heap.size + 1, 0, none⟩), .int .i64 0] 107)
    rw [World.size_alloc] at this
    exact this
  · rw [HBD.out]
    refine (Below.heap_alloc _ _ _ ?_).trans (heap_alloc_new w1 _)
    rw [World.size_alloc]; exact Nat.lt_succ_self _
  · rw [hmap]
    exact hM.on hb2
  · intro s hs
    rw [(List.mem_replicate.1 hs).2]; decide
  · have := hb.size; omega
end Go.Proofs.YtbdpbkblihaeiaaDoor
