/- A bitmap in memory, and what it is in plain words. No program is imported. -/
import Derived.Test.YtkaflgbipjppmaaDoorMod
import Derived.Laws.BitsLemmas
import Derived.Laws.BitsAllLaws
import Derived.Laws.Bits64
namespace Go.Proofs.YtkaflgbipjppmaaDoor
open Go.RowKit
set_option linter.unusedVariables false
set_option linter.unusedSimpArgs false
/-- The words of some places: place i is bit i % 64 of word i / 64; what lies behind is off. -/
structure Words (bits : List Bool) (ws : List Nat) : Prop where
  len : ws.length = (bits.length + 63) / 64
  bit : ∀ i, (ws.getD (i / 64) 0).testBit (i % 64) = bits.getD i false
  lt : ∀ x ∈ ws, x < 18446744073709551616
def many (bits : List Bool) : Nat := bits.count true
structure MapAt (w : World) (p q : Nat) (bits : List Bool) (ws : List Nat) (T T' : TypeId) : Prop where
  ne : p ≠ q
  pos : 1 ≤ bits.length
  le : bits.length ≤ 1048576
  words : Words bits ws
  head : w.heap[p]? = some (.cells #[.int .i64 bits.length, .slice (some ⟨q, 0, none⟩) ws.length ws.length, .int .i64 (many bits)] T (0, 0))
  body : w.heap[q]? = some (.cells (ws.map fun x => Value.int .u64 (x : Nat)).toArray T' (0, 0))
variable {w w' : World} {p q : Nat} {bits : List Bool} {ws : List Nat} {T T' : TypeId}
theorem MapAt.n (h : MapAt w p q bits ws T T') : w.cell? ⟨p, 0, none⟩ = some (.int .i64 bits.length) := (blk_cells h.head 0).trans rfl
theorem MapAt.w_ (h : MapAt w p q bits ws T T') : w.cell? ⟨p, 1, none⟩ = some (.slice (some ⟨q, 0, none⟩) ws.length ws.length) := (blk_cells h.head 1).trans rfl
theorem MapAt.m (h : MapAt w p q bits ws T T') : w.cell? ⟨p, 2, none⟩ = some (.int .i64 (many bits)) := (blk_cells h.head 2).trans rfl
theorem MapAt.word (h : MapAt w p q bits ws T T') (j : Nat) (hj : j < ws.length) : w.cell? ⟨q, j, none⟩ = some (.int .u64 (ws.getD j 0 : Nat)) := by
  rw [blk_cells h.body j]; simp [List.getD, hj]
theorem MapAt.wlen (h : MapAt w p q bits ws T T') {i : Nat} (hi : i < bits.length) : i / 64 < ws.length := by rw [h.words.len]; omega
theorem MapAt.mod (h : MapAt w p q bits ws T T') {S : Nat → Prop} (hm : Mod S w w') (hp : ¬ S p) (hq : ¬ S q) : MapAt w' p q bits ws T T' := ⟨h.ne, h.pos, h.le, h.words, hm.keeps h.head hp, hm.keeps h.body hq⟩
theorem MapAt.on (h : MapAt w p q bits ws T T') (hb : Below w.heap.size w w') : MapAt w' p q bits ws T T' := h.mod (S := fun _ => False) (.of_below hb) (fun g => g) (fun g => g)
theorem MapAt.plt (h : MapAt w p q bits ws T T') : p < w.heap.size := block_lt h.head
theorem MapAt.qlt (h : MapAt w p q bits ws T T') : q < w.heap.size := block_lt h.body
/-- The blocks of a bitmap. -/
def Two (p q : Nat) (k : Nat) : Prop := k = p ∨ k = q
theorem and_one (a : Int) (h0 : 0 ≤ a) (h1 : a < 18446744073709551616) : Go.bits .and .u64 a 1 = a % 2 :=
  bits_mask .u64 64 (by decide) (fun n g0 g1 => by rw [IntKind.wrap_u64]; omega) 1 (by decide) a h0 h1
theorem Words.bound {bits : List Bool} {ws : List Nat} (h : Words bits ws) (j : Nat) : ws.getD j 0 < 18446744073709551616 := by
  rcases Nat.lt_or_ge j ws.length with g | g
  · exact h.lt _ (by simp [List.getD, g])
  · simp [List.getD, g]
/-- A place is asked for. -/
theorem Words.ask {bits : List Bool} {ws : List Nat} (h : Words bits ws) (i : Nat) : (Go.bits .and .u64 (((ws.getD (i / 64) 0 : Nat) : Int) / 2 ^ (i % 64)) 1 == 1) = bits.getD i false := by
  have hb := h.bit i
  have hlt := h.bound (i / 64)
  generalize ws.getD (i / 64) 0 = x at *
  have hd : (x : Int) / 2 ^ (i % 64) = ((x / 2 ^ (i % 64) : Nat) : Int) := by simp
  have hle : x / 2 ^ (i % 64) ≤ x := Nat.div_le_self _ _
  rw [Nat.testBit_eq_decide_div_mod_eq] at hb
  rw [hd, ← hb]
  generalize x / 2 ^ (i % 64) = y at *
  rw [and_one _ (by omega) (by omega), Bool.eq_iff_iff]
  simp; omega
theorem many_le (bits : List Bool) : many bits ≤ bits.length := List.count_le_length
theorem many_set (bits : List Bool) (i : Nat) (hi : i < bits.length) (on : Bool) (hne : bits.getD i false ≠ on) : (many (bits.set i on) : Int) = if on = true then (many bits : Int) + 1 else (many bits : Int) - 1 := by
  have hb : bits[i] = !on := by
    simp [List.getD, hi] at hne
    cases on <;> simp_all
  have h := List.count_set (a := on) (b := true) hi
  unfold many
  rw [h, hb]
  have hpos : on = false → 0 < bits.count true := fun e => by
    subst e
    exact List.count_pos_iff.2 (by rw [← show bits[i] = true by rw [hb]; rfl]; exact List.getElem_mem hi)
  cases on
  · have := hpos rfl; simp <;> omega
  · simp
/-- A place is turned: the word with that bit turned. -/
theorem Words.turn {bits : List Bool} {ws : List Nat} (h : Words bits ws) (i : Nat) (hi : i < bits.length) (on : Bool) (hne : bits.getD i false ≠ on) : Words (bits.set i on) (ws.set (i / 64) (ws.getD (i / 64) 0 ^^^ 2 ^ (i % 64))) := by
  have hj : i / 64 < ws.length := by rw [h.len]; omega
  refine ⟨by simpa using h.len, fun k => ?_, fun x hx => ?_⟩
  · have hk := h.bit k
    by_cases e : k / 64 = i / 64
    · have : (ws.set (i / 64) (ws.getD (i / 64) 0 ^^^ 2 ^ (i % 64))).getD (k / 64) 0 = ws.getD (i / 64) 0 ^^^ 2 ^ (i % 64) := by rw [e]; simp [List.getD, hj]
      rw [this, Nat.testBit_xor, Nat.testBit_two_pow]
      rw [e] at hk
      rw [hk]
      by_cases e2 : k = i
      · subst e2
        have : (bits.set k on).getD k false = on := by simp [List.getD, hi]
        rw [this]
        simp
        cases hb : bits.getD k false <;> cases on <;> simp_all
      · have : (bits.set i on).getD k false = bits.getD k false := by simp [List.getD, List.getElem?_set, Ne.symm e2]
        rw [this]
        have : ¬ i % 64 = k % 64 := by omega
        simp [this]
    · have : (ws.set (i / 64) (ws.getD (i / 64) 0 ^^^ 2 ^ (i % 64))).getD (k / 64) 0 = ws.getD (k / 64) 0 := by simp [List.getD, List.getElem?_set, Ne.symm e]
      rw [this, hk]
      have e2 : k ≠ i := fun e3 => e (by rw [e3])
      simp [List.getD, List.getElem?_set, Ne.symm e2]
  · rcases List.mem_or_eq_of_mem_set hx with g | g
    · exact h.lt x g
    · subst g
      exact Nat.xor_lt_two_pow (n := 64) (h.bound _) (Nat.pow_lt_pow_right (by decide) (by omega))
theorem xor_word (x i : Nat) (hx : x < 18446744073709551616) : Go.bits .xor .u64 (x : Int) (IntKind.u64.wrap (2 ^ (i % 64))) = ((x ^^^ 2 ^ (i % 64) : Nat) : Int) := by
  have hp : 2 ^ (i % 64) < 18446744073709551616 := Nat.pow_lt_pow_right (n := 64) (by decide) (by omega)
  have e : IntKind.u64.wrap ((2 : Int) ^ (i % 64)) = ((2 ^ (i % 64) : Nat) : Int) := by
    rw [IntKind.wrap_u64]
    have : ((2 : Int) ^ (i % 64)) = ((2 ^ (i % 64) : Nat) : Int) := by simp
    rw [this]
    generalize 2 ^ (i % 64) = y at *
    omega
  rw [e, bits_xor_u64_nat _ _ hx hp]
def Turned (w : World) (p q : Nat) (bits : List Bool) (T T' : TypeId) (w' : World) : Prop := ∃ ws, MapAt w' p q bits ws T T' ∧ Mod (Two p q) w w'
/-- What a turn leaves. -/
theorem MapAt.turned (h : MapAt w p q bits ws T T') (i : Nat) (hi : i < bits.length) (on : Bool) (hs : bits.getD i false = !on) {m : Int} (hm : m = if on = true then (many bits : Int) + 1 else (many bits : Int) - 1)
    (hd : w'.heap[p]? = some (.cells #[.int .i64 bits.length, .slice (some ⟨q, 0, none⟩) ws.length ws.length, .int .i64 m] T (0, 0)))
    (hb : w'.heap[q]? = some (.cells ((ws.map fun x => Value.int .u64 (x : Nat)).toArray.setIfInBounds (i / 64) (.int .u64 (Go.bits .xor .u64 (ws.getD (i / 64) 0 : Nat) (IntKind.u64.wrap (2 ^ (i % 64)))))) T' (0, 0)))
    (hmod : Mod (Two p q) w w') : Turned w p q (bits.set i on) T T' w' := by
  have hne : bits.getD i false ≠ on := by rw [hs]; cases on <;> simp
  refine ⟨_, ⟨h.ne, by simpa using h.pos, by simpa using h.le, h.words.turn i hi on hne, ?_, ?_⟩, hmod⟩
  · rw [hd, hm, ← many_set bits i hi on hne]; simp
  · rw [hb, xor_word _ _ (h.words.bound _)]
    simp [List.map_set]
end Go.Proofs.YtkaflgbipjppmaaDoor
