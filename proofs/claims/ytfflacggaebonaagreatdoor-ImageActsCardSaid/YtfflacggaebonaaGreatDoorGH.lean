/- D A U B Ha Hb Hc Hd He -/
import Derived.Laws.BitsAllLaws
import Derived.Lib.BitFns
import Derived.Test.YtfflacggaebonaaGreatDoorGC
import Derived.Test.YtfflacggaebonaaGreatDoorGA
import Derived.Below
import Derived.WalkKit
import Derived.KernelRfl
import Derived.RowKit3
import Derived.OwnWalk
import Derived.Tactics
import Derived.Outline
import Derived.Laws.Slices
import Derived.Deep.QuietTactic
import Derived.BigQuiet
import Derived.WalkSmall
import Derived.Lib.Hide
import Derived.Deep.RegionHeld3
import Derived.Deep.DeepCutAuto
import Derived.WalkLawsBesides
import Derived.Test.YtfflacggaebonaaGreatDoorGP
import Derived.Laws.StructEq
import Derived.Lib.SmallJoins
import Derived.Deep.RegionLaw
import Derived.Laws.ResultCell
section
namespace Go.Proofs.YtfflacggaebonaaGreatDoor
set_option linter.unusedVariables false

def rightB (a n : Int) : Bool := decide (0 ≤ a) && (decide (a < 64) && (decide (0 < n) && decide (n ≤ 64 - a)))
theorem rightB_iff {a n : Int} : rightB a n = true ↔ 0 ≤ a ∧ a < 64 ∧ 0 < n ∧ n ≤ 64 - a := by simp [rightB]
def maskI (a n : Int) : Int := IntKind.u64.wrap (18446744073709551615 / 2 ^ (64 - n).toNat * 2 ^ a.toNat)
def getI (x a n : Int) : Int := bits .and .u64 x (maskI a n) / 2 ^ a.toNat
def putI (w a n x : Int) : Int := bits .or .u64 (bits .andNot .u64 w (maskI a n)) (IntKind.u64.wrap (x * 2 ^ a.toNat))
def len64 (y : Int) : Int := ((Lib.bitLen y.toNat : Nat) : Int)
def apGo (m : Int) : List (Int × Int) → Bool
  | [] => true
  | (a, n) :: t => if rightB a n = true then (if bits .and .u64 m (maskI a n) = 0 then apGo (bits .or .u64 m (maskI a n)) t else false) else false
def packGo (w : Int) : List (Int × Int) → List Int → Int × Int
  | (a, n) :: t, x :: xs => if n < len64 x then (0, 3) else packGo (putI w a n x) t xs
  | _, _ => (w, 0)
def packI (l : List (Int × Int)) (x : List Int) : Int × Int := if l.length = x.length then (if apGo 0 l = true then packGo 0 l x else (0, 2)) else (0, 2)
theorem apGo_right : ∀ (l : List (Int × Int)) (m : Int), apGo m l = true → ∀ k, k < l.length → rightB (l.getD k (0, 0)).1 (l.getD k (0, 0)).2 = true
  | [], _, _, k, hk => by simp at hk
  | (a, n) :: t, m, h, k, hk => by
    simp only [apGo] at h
    split at h
    · split at h
      · cases k with
        | zero => simpa
        | succ k => simpa using apGo_right t _ h k (by simpa using hk)
      · cases h
    · cases h

/-! numbers -/
theorem mask_nat (a n : Nat) (h : 0 < n) (h' : a + n ≤ 64) : maskI a n = (((2 ^ n - 1) * 2 ^ a : Nat) : Int) := by
  unfold maskI
  rw [show ((64 : Int) - (n : Int)).toNat = 64 - n by omega, Int.toNat_natCast]
  have h1 : (18446744073709551615 : Int) / 2 ^ (64 - n) = ((2 ^ n - 1 : Nat) : Int) := by
    have e : (2 : Nat) ^ 64 = 2 ^ (64 - n) * 2 ^ n := by rw [← Nat.pow_add]; congr 1; omega
    have p : 0 < 2 ^ (64 - n) := Nat.two_pow_pos _
    have q : 0 < 2 ^ n := Nat.two_pow_pos _
    have hd : (2 ^ 64 - 1) / 2 ^ (64 - n) = 2 ^ n - 1 := by
      rw [e]
      rw [Nat.div_eq_iff p]
      constructor
      · rw [Nat.sub_mul, Nat.one_mul, Nat.mul_comm]
        omega
      · rw [Nat.sub_mul, Nat.one_mul, Nat.mul_comm]
        have : 2 ^ (64 - n) ≤ 2 ^ (64 - n) * 2 ^ n := Nat.le_mul_of_pos_right _ q
        omega
    have : ((18446744073709551615 : Nat) : Int) / ((2 ^ (64 - n) : Nat) : Int) = ((2 ^ n - 1 : Nat) : Int) := by
      rw [← Int.natCast_ediv, ← hd]
    simpa using this
  rw [h1]
  have h2 : (2 ^ n - 1) * 2 ^ a < 2 ^ 64 := by
    have : 2 ^ n * 2 ^ a ≤ 2 ^ 64 := by rw [← Nat.pow_add]; exact Nat.pow_le_pow_right (by decide) (by omega)
    have q : 0 < 2 ^ n := Nat.two_pow_pos _
    have p : 0 < 2 ^ a := Nat.two_pow_pos _
    rw [Nat.sub_mul]
    have : 2 ^ a ≤ 2 ^ n * 2 ^ a := Nat.le_mul_of_pos_left _ q
    omega
  have e : ((2 ^ n - 1 : Nat) : Int) * 2 ^ a = (((2 ^ n - 1) * 2 ^ a : Nat) : Int) := by simp
  rw [e, IntKind.wrap_u64]
  omega
def maskN (a n : Nat) : Nat := (2 ^ n - 1) * 2 ^ a
theorem maskN_bit (a n i : Nat) : (maskN a n).testBit i = (decide (a ≤ i) && decide (i < a + n)) := by
  unfold maskN
  rw [Nat.mul_comm, Nat.testBit_two_pow_mul, Nat.testBit_two_pow_sub_one]
  by_cases h : a ≤ i
  · simp [h]; omega
  · simp [h]
theorem maskN_lt (a n : Nat) (h' : a + n ≤ 64) : maskN a n < 2 ^ 64 := by
  apply Nat.lt_pow_two_of_testBit
  intro i hi
  rw [maskN_bit]
  simp; omega
theorem maskI_nat (a n : Nat) (h : 0 < n) (h' : a + n ≤ 64) : maskI a n = (maskN a n : Int) := mask_nat a n h h'
/-- What a field has, in bits. -/
def getN (x a n : Nat) : Nat := (x &&& maskN a n) / 2 ^ a
theorem getN_bit (x a n i : Nat) : (getN x a n).testBit i = (decide (i < n) && x.testBit (a + i)) := by
  unfold getN
  rw [Nat.testBit_div_two_pow, Nat.testBit_and, maskN_bit, Nat.add_comm i a]
  by_cases h : i < n
  · simp [h]
  · simp [h]
theorem getI_nat (x a n : Nat) (hx : x < 2 ^ 64) (h : 0 < n) (h' : a + n ≤ 64) : getI x a n = (getN x a n : Int) := by
  unfold getI getN
  have hm := maskN_lt a n h'
  rw [maskI_nat a n h h', u64_and _ _ (by omega) (by omega) (by omega) (by omega)]
  simp
theorem getN_lt (x a n : Nat) : getN x a n < 2 ^ n := by
  apply Nat.lt_pow_two_of_testBit
  intro i hi
  rw [getN_bit]; simp; omega
/-- A word with another number at a field, in bits. -/
def putN (w a n x : Nat) : Nat := (w &&& (2 ^ 64 - 1 - maskN a n)) ||| (x * 2 ^ a % 2 ^ 64)
theorem putN_bit (w a n x i : Nat) (h' : a + n ≤ 64) (hx : x < 2 ^ n) (hw : w < 2 ^ 64) : (putN w a n x).testBit i = if a ≤ i ∧ i < a + n then x.testBit (i - a) else w.testBit i := by
  unfold putN
  have hm := maskN_lt a n h'
  have hlt : x * 2 ^ a < 2 ^ 64 := by
    have : x * 2 ^ a < 2 ^ n * 2 ^ a := Nat.mul_lt_mul_of_pos_right hx (Nat.two_pow_pos _)
    have : 2 ^ n * 2 ^ a ≤ 2 ^ 64 := by rw [← Nat.pow_add]; exact Nat.pow_le_pow_right (by decide) (by omega)
    omega
  rw [Nat.mod_eq_of_lt hlt, Nat.testBit_or, Nat.testBit_and, Nat.mul_comm x, Nat.testBit_two_pow_mul, Nat.sub_right_comm, show 2 ^ 64 - maskN a n - 1 = 2 ^ 64 - (maskN a n + 1) by omega, Nat.testBit_two_pow_sub_succ hm, maskN_bit]
  by_cases hi : i < 64
  · by_cases h1 : a ≤ i
    · by_cases h2 : i < a + n
      · simp [h1, h2, hi]
      · have : x.testBit (i - a) = false := Nat.testBit_lt_two_pow (Nat.lt_of_lt_of_le hx (Nat.pow_le_pow_right (by decide) (by omega)))
        simp [h1, h2, hi, this]
    · simp [h1, hi]
  · have w0 : w.testBit i = false := Nat.testBit_lt_two_pow (Nat.lt_of_lt_of_le hw (Nat.pow_le_pow_right (by decide) (by omega)))
    have x0 : x.testBit (i - a) = false := Nat.testBit_lt_two_pow (Nat.lt_of_lt_of_le hx (Nat.pow_le_pow_right (by decide) (by omega)))
    simp [hi, w0, x0]
theorem putN_lt (w a n x : Nat) (h' : a + n ≤ 64) (hx : x < 2 ^ n) (hw : w < 2 ^ 64) : putN w a n x < 2 ^ 64 := by
  apply Nat.lt_pow_two_of_testBit
  intro i hi
  rw [putN_bit w a n x i h' hx hw]
  rw [if_neg (by omega)]
  exact Nat.testBit_lt_two_pow (Nat.lt_of_lt_of_le hw (Nat.pow_le_pow_right (by decide) (by omega)))
theorem putI_nat (w a n x : Nat) (hw : w < 2 ^ 64) (h : 0 < n) (h' : a + n ≤ 64) (hx : x < 2 ^ n) : putI w a n x = (putN w a n x : Int) := by
  unfold putI putN
  have hm := maskN_lt a n h'
  have e : IntKind.u64.wrap ((x : Int) * 2 ^ ((a : Int).toNat)) = ((x * 2 ^ a % 2 ^ 64 : Nat) : Int) := by
    rw [IntKind.wrap_u64]; simp
  have hl : x * 2 ^ a % 2 ^ 64 < 2 ^ 64 := Nat.mod_lt _ (by decide)
  have hl2 : w &&& (18446744073709551615 - maskN a n) < 2 ^ 64 := Nat.and_lt_two_pow _ (by omega)
  rw [maskI_nat a n h h', e, u64_andNot _ _ (by omega) (by omega) (by omega) (by omega), u64_or _ _ (by omega) (by simp only [Int.toNat_natCast]; omega) (by omega) (by omega)]
  simp only [Int.toNat_natCast]
theorem bitLen_gt (x n : Nat) (hx : x < 2 ^ 64) (h : 2 ^ n ≤ x) : n < Lib.bitLen x := by
  rw [Lib.bitLen_shift n x h hx]
  have h1 : 0 < x / 2 ^ n := Nat.div_pos h (Nat.two_pow_pos _)
  have : 0 < Lib.bitLen (x / 2 ^ n) := by
    unfold Lib.bitLen; simp only [Lib.bitLenAux]; rw [if_neg (by omega)]; omega
  omega
theorem len64_le (x n : Nat) (hx : x < 2 ^ 64) (hn : n ≤ 64) : len64 x ≤ n ↔ x < 2 ^ n := by
  unfold len64
  rw [Int.toNat_natCast]
  constructor
  · intro h
    rcases Nat.lt_or_ge x (2 ^ n) with g | g
    · exact g
    · rcases Nat.lt_or_ge n 64 with g' | g'
      · have := bitLen_gt x n hx g; omega
      · obtain rfl : n = 64 := by omega
        exact hx
  · intro h
    have := Lib.bitLen_le x n hn h
    omega
/-- Of how many fields a bit is one. -/
def cnt (b : Int) : List (Int × Int) → Nat
  | [] => 0
  | (a, n) :: t => (if a ≤ b ∧ b < a + n then 1 else 0) + cnt b t
theorem and_zero_iff (x y : Nat) : x &&& y = 0 ↔ ∀ i, (x.testBit i && y.testBit i) = false := by
  constructor
  · intro h i; rw [← Nat.testBit_and, h]; simp
  · intro h; apply Nat.eq_of_testBit_eq; intro i; rw [Nat.testBit_and, h i]; simp
theorem apGo_iff : ∀ (l : List (Int × Int)) (m : Nat), m < 2 ^ 64 → (apGo m l = true ↔ (∀ f ∈ l, rightB f.1 f.2 = true) ∧ ∀ b : Nat, b < 64 → (m.testBit b).toNat + cnt b l ≤ 1)
  | [], m, hm => by simp [apGo, cnt, Bool.toNat_le]
  | (a, n) :: t, m, hm => by
    simp only [apGo]
    by_cases hr : rightB a n = true
    · obtain ⟨h0, h1, h2, h3⟩ := rightB_iff.1 hr
      obtain ⟨a, rfl⟩ := Int.eq_ofNat_of_zero_le h0
      obtain ⟨n, rfl⟩ := Int.eq_ofNat_of_zero_le (Int.le_of_lt h2)
      have hk := maskN_lt a n (by omega)
      have hor : m ||| maskN a n < 2 ^ 64 := Nat.or_lt_two_pow hm hk
      rw [if_pos hr, maskI_nat a n (by omega) (by omega), u64_and _ _ (by omega) (by omega) (by omega) (by omega), u64_or _ _ (by omega) (by omega) (by omega) (by omega)]
      simp only [Int.toNat_natCast]
      have ih := apGo_iff t (m ||| maskN a n) hor
      by_cases hz : m &&& maskN a n = 0
      · rw [if_pos (by simpa using hz), ih]
        have hz' := (and_zero_iff _ _).1 hz
        constructor
        · rintro ⟨g1, g2⟩
          refine ⟨by simpa using ⟨hr, fun a b h => g1 (a, b) h⟩, fun b hb => ?_⟩
          have := g2 b hb
          have hzb := hz' b
          rw [Nat.testBit_or, maskN_bit] at this
          rw [maskN_bit] at hzb
          simp only [cnt]
          by_cases hin : a ≤ b ∧ b < a + n
          · rw [if_pos (by omega)]
            simp [hin] at this hzb
            simp [hzb]; omega
          · rw [if_neg (by omega)]
            have : (decide (a ≤ b) && decide (b < a + n)) = false := by simp; omega
            simp_all
        · rintro ⟨g1, g2⟩
          refine ⟨fun f hf => g1 f (by simp [hf]), fun b hb => ?_⟩
          have := g2 b hb
          have hzb := hz' b
          rw [Nat.testBit_or, maskN_bit]
          rw [maskN_bit] at hzb
          simp only [cnt] at this
          by_cases hin : a ≤ b ∧ b < a + n
          · rw [if_pos (by omega)] at this
            simp [hin] at hzb ⊢
            simp [hzb] at this; omega
          · rw [if_neg (by omega)] at this
            have hd : (decide (a ≤ b) && decide (b < a + n)) = false := by simp; omega
            rw [hd, Bool.or_false]; omega
      · rw [if_neg (by simpa using hz)]
        constructor
        · intro h; cases h
        · rintro ⟨g1, g2⟩
          exfalso
          apply hz
          rw [and_zero_iff]
          intro i
          rw [maskN_bit]
          by_cases hin : a ≤ i ∧ i < a + n
          · have := g2 i (by omega)
            simp only [cnt] at this
            rw [if_pos (by omega)] at this
            cases hmi : m.testBit i
            · simp
            · simp [hmi] at this; omega
          · simp; omega
    · rw [if_neg hr]
      constructor
      · intro h; cases h
      · rintro ⟨g1, _⟩; exact absurd (g1 (a, n) (by simp)) hr
end Go.Proofs.YtfflacggaebonaaGreatDoor
end
section
namespace Go.Proofs.YtfflacggaebonaaGreatDoor
open Go.RowKit


theorem mask_any (a n : Int) (w : World) (h0 : 0 ≤ a) (h1 : a < 64) (h2 : 0 < n) (h3 : n ≤ 64 - a) :
    Calls Tryz.prog 92 #[.agg #[.int .i64 a, .int .i64 n]] w fun e w' => e = .returned (.int .u64 (maskI a n)) ∧ Below w.heap.size w w' := by
  go_enter Tryz.func92, Tryz.ntmps92
  go_wp2
  go_quiet (fail)
  go_wp2
  go_ret
  exact ⟨rfl, below_drewN (below1 _ _) _⟩
theorem right_any (a n : Int) (w : World) :
    Calls Tryz.prog 93 #[.agg #[.int .i64 a, .int .i64 n]] w fun e w' => e = .returned (.bool (rightB a n)) ∧ Below w.heap.size w w' := by
  go_enter Tryz.func93, Tryz.ntmps93
  go_wp2
  all_goals (go_ret; exact ⟨retY_bool (by simp [rightB, *] <;> omega), below1 _ _⟩)
theorem put_none (x a n y : Int) (w : World) (h : rightB a n = false) :
    Calls Tryz.prog 87 #[.int .u64 x, .agg #[.int .i64 a, .int .i64 n], .int .u64 y] w fun e w' => e = .returned (.tuple #[.int .u64 0, .int .i64 2]) ∧ Below w.heap.size w w' := by
  go_enter Tryz.func87, Tryz.ntmps87
  go_wp2_with (go_at_call 93; refine (right_any _ _ _).mono ?_; rintro e w' ⟨rfl, hb⟩)
  go_ret2
  exact ⟨rfl, (below1 _ _).on hb⟩
theorem len64_any (y : Int) (w : World) (h0 : 0 ≤ y) (h1 : y < 18446744073709551616) : Calls Tryz.prog 94 #[.int .u64 y] w fun e w' => e = .returned (.int .i64 (len64 y)) ∧ w' = w := Tryz.bits_Len64 y w h0 (by omega)
theorem put_wide (x a n y : Int) (w : World) (h : rightB a n = true) (h0 : 0 ≤ y) (h1 : y < 18446744073709551616) (hl : n < len64 y) :
    Calls Tryz.prog 87 #[.int .u64 x, .agg #[.int .i64 a, .int .i64 n], .int .u64 y] w fun e w' => e = .returned (.tuple #[.int .u64 0, .int .i64 3]) ∧ Below w.heap.size w w' := by
  go_enter Tryz.func87, Tryz.ntmps87
  go_wp2_with (first | (go_at_call 93; refine (right_any _ _ _).mono ?_; rintro e w1 ⟨rfl, hb⟩; have e1 : w1.cell? ⟨w.heap.size, 1, none⟩ = some (.int .i64 n) := cell_on hb (by go_simp)))
  have B := (below1 _ _).on hb
  go_quiet ((go_at_call 94; exact Calls.quiet_of_same (len64_any _ _ h0 h1)))
  go_wp2
  go_ret2
  exact ⟨rfl, below_drewN B _⟩
theorem put_any (x a n y : Int) (w : World) (h : rightB a n = true) (h0 : 0 ≤ y) (h1 : y < 18446744073709551616) (hl : len64 y ≤ n) :
    Calls Tryz.prog 87 #[.int .u64 x, .agg #[.int .i64 a, .int .i64 n], .int .u64 y] w fun e w' => e = .returned (.tuple #[.int .u64 (putI x a n y), .int .i64 0]) ∧ Below w.heap.size w w' := by
  obtain ⟨g0, g1, g2, g3⟩ := rightB_iff.1 h
  go_enter Tryz.func87, Tryz.ntmps87
  go_wp2_with (first | (go_at_call 93; refine (right_any _ _ _).mono ?_; rintro e w1 ⟨rfl, hb⟩; have e0 : w1.cell? ⟨w.heap.size, 0, none⟩ = some (.int .i64 a) := cell_on hb (by go_simp); have e1 : w1.cell? ⟨w.heap.size, 1, none⟩ = some (.int .i64 n) := cell_on hb (by go_simp)))
  have B := (below1 _ _).on hb
  go_quiet ((go_at_call 94; exact Calls.quiet_of_same (len64_any _ _ h0 h1)))
  go_wp2
  go_region_held3 (fun wk => (wk.cell? ⟨w.heap.size, 0, none⟩ = some (.int .i64 a) ∧ wk.cell? ⟨w.heap.size, 1, none⟩ = some (.int .i64 n)) ∧ Below w.heap.size w wk) (first | exact kp2_drew ⟨⟨e0, e1⟩, below_drewN B _⟩ | exact kp2_call (by assumption) (by assumption)) (first | (go_at_call 92; refine (mask_any _ _ _ g0 g1 g2 g3).mono ?_; rintro e w1 ⟨rfl, hb1⟩))
  go_wp2
  go_ret2
  exact ⟨rfl, (by assumption : _ ∧ Below w.heap.size w _).2⟩

def IsFl (w : World) (A : Option Addr) (l : List (Int × Int)) : Prop := ∀ i, i < l.length → ∃ b o, A = some ⟨b, o, none⟩ ∧ w.cell? ⟨b, o + i * 2, none⟩ = some (.int .i64 (l.getD i (0, 0)).1) ∧ w.cell? ⟨b, o + i * 2 + 1, none⟩ = some (.int .i64 (l.getD i (0, 0)).2)
theorem IsFl.on {w w1 : World} {A : Option Addr} {l : List (Int × Int)} (h : IsFl w A l) (hb : Below w.heap.size w w1) : IsFl w1 A l := fun i hi => by
  obtain ⟨b, o, e, h1, h2⟩ := h i hi
  exact ⟨b, o, e, cell_on hb h1, cell_on hb h2⟩
theorem apart_any (A : Option Addr) (l : List (Int × Int)) (c : Nat) (w : World) (hl : IsFl w A l) (hc : l.length ≤ maxLen) :
    Calls Tryz.prog 86 #[.slice A l.length c] w fun e w' => e = .returned (.bool (apGo 0 l)) ∧ Below w.heap.size w w' := by
  unfold maxLen at hc
  have HL := Lib.hid hl
  clear hl
  go_enter Tryz.func86, Tryz.ntmps86
  go_wp2
  go_loopw [3, 8] (fun v3 v8 wr => ∃ (m : Int) (k : Nat), k ≤ l.length ∧ v3 = .int .u64 m ∧ v8 = .int .i64 k ∧ Hid (apGo m (l.drop k) = apGo 0 l) ∧ Below w.heap.size w wr) (fun _ v8 _ => l.length - (intOf v8).toNat)
  case atStart => exact ⟨0, 0, by omega, rfl, rfl, Lib.hid rfl, Below.refl _ _⟩
  case round =>
    obtain ⟨m, k, hk, rfl, rfl, HA, hb⟩ := hrel
    by_cases hlt : k < l.length
    · obtain ⟨b, o, rfl, c0, c1⟩ := HL.out k hlt
      replace c0 := cell_on hb c0
      replace c1 := cell_on hb c1
      have h1 := drop_at l k (0, 0) hlt
      generalize l.getD k (0, 0) = f at h1 c0 c1
      obtain ⟨fa, fn⟩ := f
      have HA := HA.out
      rw [h1] at HA
      simp only [apGo] at HA
      clear h1
      by_cases hr : rightB fa fn = true
      · rw [if_pos hr] at HA
        obtain ⟨g0, g1, g2, g3⟩ := rightB_iff.1 hr
        by_cases hm : bits .and .u64 m (maskI fa fn) = 0
        · rw [if_pos hm] at HA
          replace HA := Lib.hid HA
          have hm' : (bits .and .u64 m (maskI fa fn) != 0) = false := by simp [hm]
          clear hm
          go_wp2_with (first | (go_at_call 93; refine (right_any _ _ _).mono ?_; rintro e w1 ⟨rfl, hb1⟩; have d0 : w1.cell? ⟨wr.heap.size, 0, none⟩ = some (.int .i64 fa) := cell_on hb1 (by go_simp); have d1 : w1.cell? ⟨wr.heap.size, 1, none⟩ = some (.int .i64 fn) := cell_on hb1 (by go_simp); have B1 := (hb.on (below1 wr _)).on hb1; clear hb1) | (go_at_call 92; refine (mask_any _ _ _ g0 g1 g2 g3).mono ?_; rintro e w2 ⟨rfl, hb2⟩; replace d0 := cell_on hb2 d0; replace d1 := cell_on hb2 d1; replace B1 := B1.on hb2; clear hb2))
          go_roundw
          case rel => exact ⟨_, k + 1, by omega, rfl, by go_num, HA, B1⟩
          case measure => simp [intOf]; omega
        · rw [if_neg hm] at HA
          replace HA := Lib.hid HA
          have hm' : (bits .and .u64 m (maskI fa fn) != 0) = true := by simp [hm]
          clear hm
          go_wp2_with (first | (go_at_call 93; refine (right_any _ _ _).mono ?_; rintro e w1 ⟨rfl, hb1⟩; have d0 : w1.cell? ⟨wr.heap.size, 0, none⟩ = some (.int .i64 fa) := cell_on hb1 (by go_simp); have d1 : w1.cell? ⟨wr.heap.size, 1, none⟩ = some (.int .i64 fn) := cell_on hb1 (by go_simp); have B1 := (hb.on (below1 wr _)).on hb1; clear hb1) | (go_at_call 92; refine (mask_any _ _ _ g0 g1 g2 g3).mono ?_; rintro e w2 ⟨rfl, hb2⟩; replace d0 := cell_on hb2 d0; replace d1 := cell_on hb2 d1; replace B1 := B1.on hb2; clear hb2))
          go_ret
          exact ⟨retY_bool HA.out, B1⟩
      · rw [if_neg hr] at HA
        have hr' : rightB fa fn = false := by simpa using hr
        clear hr
        replace HA := Lib.hid HA
        go_wp2_with (first | (go_at_call 93; refine (right_any _ _ _).mono ?_; rintro e w1 ⟨rfl, hb1⟩; have B1 := (hb.on (below1 wr _)).on hb1; clear hb1))
        go_ret
        exact ⟨retY_bool HA.out, B1⟩
    · obtain rfl : k = l.length := by omega
      go_wp2
      go_ret
      have := HA.out
      rw [List.drop_length] at this
      exact ⟨retY_bool this, hb⟩
end Go.Proofs.YtfflacggaebonaaGreatDoor
end
section
namespace Go.Proofs.YtfflacggaebonaaGreatDoor
open Go.RowKit Go.Proofs.YtfflacggaebonaaGreatDoorW.PrintWords Go.Proofs.YtfflacggaebonaaGreatDoorW.PrintLast Go.Proofs.YtfflacggaebonaaGreatDoorW.PrintMore
set_option linter.unusedVariables false
set_option linter.unusedSimpArgs false
def enc1 (k : IntKind) (x : Int) : List Value := [.int k x]
def enc2 (f : Int × Int) : List Value := [.int .i64 f.1, .int .i64 f.2]
theorem SliceOf.fl {w : World} {A : Option Addr} {l : List (Int × Int)} (h : SliceOf w A 2 enc2 (0, 0) l) : IsFl w A l := fun i hi => by
  obtain ⟨b, o, e, h1⟩ := h i hi
  exact ⟨b, o, e, h1 0 _ rfl, h1 1 _ rfl⟩
theorem reads_of {α β : Type} {R : α → List Value → Prop} {w : World} {A : Option Addr} {size : Nat} {enc : β → List Value} {d : β} {l : List β} (f : β → α) (h : SliceOf w A size enc d l) (hm : l.length ≤ maxLen)
    (hs : ∀ x, (enc x).length = size) (hR : ∀ x, R (f x) (enc x)) (hpos : 0 < size) : ReadsRow R size w A l.length (l.map f) := by
  unfold maxLen at hm
  refine ⟨by simp, by omega, fun hn => ?_⟩
  obtain ⟨b, o, e, h0⟩ := h 0 hn
  refine ⟨_, e, fun j p hp => ?_⟩
  obtain ⟨x, hx, rfl⟩ : ∃ x, l[j]? = some x ∧ f x = p := by simpa using hp
  have hj := (List.getElem?_eq_some_iff.1 hx).1
  refine ⟨enc x, hs x, hR x, fun i u hu => ?_⟩
  obtain ⟨b', o', e', h1⟩ := h j hj
  rw [e] at e'
  cases e'
  have : (⟨b, o, none⟩ : Addr).add (j * size + i) = ⟨b, o + j * size + i, none⟩ := by unfold Addr.add; split <;> simp <;> omega
  rw [this]
  exact h1 i u (by simpa [List.getD, hx] using hu)
theorem slice_of_C {k : IntKind} {w : World} {A : Option Addr} {l : List Int} (h : (Kd.int k).C w A l.length l) : SliceOf w A 1 (enc1 k) 0 l := fun i hi => by
  obtain ⟨ad0, e0, c0⟩ := Kd.at_int h 0 (by omega) (by omega)
  obtain ⟨ad, e, c⟩ := Kd.at_int h i (by omega) (by omega)
  rw [e0] at e
  cases e
  have hspot : ad0.spot = none := by simpa [Addr.add] using World.cell?_spot c0
  obtain ⟨b, o, spot⟩ := ad0
  simp only at hspot
  subst hspot
  refine ⟨b, o, e0, fun j v hv => ?_⟩
  cases j with
  | succ j => simp [enc1] at hv
  | zero =>
    simp [enc1] at hv
    subst hv
    have hadd : (⟨b, o, none⟩ : Addr).add (i : Int).toNat = ⟨b, o + i * 1 + 0, none⟩ := by rw [Int.toNat_natCast]; unfold Addr.add; split <;> simp_all
    rw [hadd] at c
    rw [c]; simp [rd]
theorem SliceOf.k24u {w : World} {A : Option Addr} {l : List (Int × Int)} (h : SliceOf w A 2 enc2 (0, 0) l) (hm : l.length ≤ maxLen) : Kd.C PUnpack.k160 w A l.length (l.map fun f => (⟨f.1, f.2⟩ : PUnpack.S160)) :=
  reads_of _ h hm (fun _ => rfl) (fun x => PUnpack.k160_mk w ⟨x.1, x.2⟩) (by decide)
theorem mask_f (a n : Int) (h : rightB a n = true) : PUnpack.field_mask.f a n = some (maskI a n) := by
  obtain ⟨h0, h1, h2, h3⟩ := rightB_iff.1 h
  unfold PUnpack.field_mask.f maskI shl shr
  have e : wrap64 (64 - n) = 64 - n := by unfold wrap64; omega
  have e1 : min (64 - n).toNat IntKind.u64.bits = (64 - n).toNat := by simp [IntKind.bits]; omega
  have e2 : min a.toNat IntKind.u64.bits = a.toNat := by simp [IntKind.bits]; omega
  rw [e, if_pos (by omega), if_pos h0, e1, e2]
theorem fright_f (a n : Int) : PUnpack.field_Right.f a n = some (rightB a n) := by
  unfold PUnpack.field_Right.f rightB
  split
  · split
    · split
      · have : wrap64 (64 - a) = 64 - a := by unfold wrap64; omega
        rw [this]; congr 1; rw [Bool.eq_iff_iff]; simp; omega
      · simp; omega
    · simp; omega
  · simp; omega
theorem rd24 (l : List (Int × Int)) (i : Nat) (h : i < l.length) : PUnpack.rd_T160 (l.map fun f => (⟨f.1, f.2⟩ : PUnpack.S160)) (i : Int) = ⟨(l[i]).1, (l[i]).2⟩ := by simp [PUnpack.rd_T160, h]
theorem fapart_loop (l : List (Int × Int)) (hl : l.length ≤ 70) : ∀ (d i k : Nat) (m : Int), l.length - i = d → i ≤ l.length → d < k →
    PUnpack.field_Apart.l0 k m (l.map fun f => (⟨f.1, f.2⟩ : PUnpack.S160)) l.length i = some (apGo m (l.drop i)) := by
  intro d
  induction d with
  | zero =>
    intro i k m hd hi hk
    obtain ⟨k, rfl⟩ : ∃ m, k = m + 1 := ⟨k - 1, by omega⟩
    obtain rfl : i = l.length := by omega
    simp only [PUnpack.field_Apart.l0]
    rw [if_neg (by omega), List.drop_length]; rfl
  | succ d ih =>
    intro i k m hd hi hk
    obtain ⟨k, rfl⟩ : ∃ m, k = m + 1 := ⟨k - 1, by omega⟩
    have hlt : i < l.length := by omega
    have hw : wrap64 ((i : Int) + 1) = ((i + 1 : Nat) : Int) := by unfold wrap64; omega
    have hdr : l.drop i = l[i] :: l.drop (i + 1) := List.drop_eq_getElem_cons hlt
    obtain ⟨a, n, hf⟩ : ∃ a n, l[i] = (a, n) := ⟨_, _, rfl⟩
    simp only [PUnpack.field_Apart.l0]
    rw [if_pos (by omega), if_pos (by omega), if_pos (by simp; omega), rd24 l i hlt, hdr, hf]
    simp only [fright_f, Option.bind_some, apGo]
    by_cases hr : rightB a n = true
    · rw [if_pos hr, if_pos hr, mask_f a n hr]
      simp only [Option.bind_some]
      by_cases hz : bits .and .u64 m (maskI a n) = 0
      · rw [if_pos hz, if_pos hz, hw]
        exact ih (i + 1) k _ (by omega) (by omega) (by omega)
      · rw [if_neg hz, if_neg hz]
    · rw [if_neg hr, if_neg hr]
theorem unpack_loop (x : Int) (l : List (Int × Int)) (hl : l.length ≤ 70) (hr : ∀ f ∈ l, rightB f.1 f.2 = true) : ∀ (d i k : Nat), l.length - i = d → i ≤ l.length → d < k →
    PUnpack.field_Unpack.l0 k x ((l.take i).map fun f => getI x f.1 f.2) (l.map fun f => (⟨f.1, f.2⟩ : PUnpack.S160)) l.length i = some (l.map (fun f => getI x f.1 f.2), 0) := by
  intro d
  induction d with
  | zero =>
    intro i k hd hi hk
    obtain ⟨k, rfl⟩ : ∃ m, k = m + 1 := ⟨k - 1, by omega⟩
    obtain rfl : i = l.length := by omega
    simp only [PUnpack.field_Unpack.l0]
    rw [if_neg (by omega)]; simp
  | succ d ih =>
    intro i k hd hi hk
    obtain ⟨k, rfl⟩ : ∃ m, k = m + 1 := ⟨k - 1, by omega⟩
    have hlt : i < l.length := by omega
    have hw : wrap64 ((i : Int) + 1) = ((i + 1 : Nat) : Int) := by unfold wrap64; omega
    have h1 := ih (i + 1) k (by omega) (by omega) (by omega)
    rw [List.take_succ_eq_append_getElem hlt, List.map_append] at h1
    have hrr := hr _ (List.getElem_mem hlt)
    obtain ⟨a, n, hf⟩ : ∃ a n, l[i] = (a, n) := ⟨_, _, rfl⟩
    rw [hf] at hrr h1
    simp only at hrr
    obtain ⟨g0, g1, g2, g3⟩ := rightB_iff.1 hrr
    have e2 : min a.toNat IntKind.u64.bits = a.toNat := by simp [IntKind.bits]; omega
    have hg : shr .u64 (bits .and .u64 x (maskI a n)) a = getI x a n := by unfold shr getI; rw [e2]
    simp only [PUnpack.field_Unpack.l0]
    rw [if_pos (by omega), if_pos (by omega), if_pos (by simp; omega), rd24 l i hlt, hf]
    simp only [mask_f a n hrr, Option.bind_some]
    rw [if_pos g0, if_pos (by simp; omega), hw, hg]
    exact h1
def unpackI (x : Int) (l : List (Int × Int)) : List Int × Int := if apGo 0 l = true then (l.map (fun f => getI x f.1 f.2), 0) else ([], 2)
def UnpackPost (x : Int) (l : List (Int × Int)) (w : World) (e : Ending) (w' : World) : Prop :=
  ∃ A c, e = .returned (.tuple #[.slice A (unpackI x l).1.length c, .int .i64 (unpackI x l).2]) ∧ (unpackI x l).1.length ≤ c ∧ (Kd.int .u64).C w' A (unpackI x l).1.length (unpackI x l).1 ∧ Below w.heap.size w w'
theorem unpack_any (x : Int) (A : Option Addr) (c : Nat) (l : List (Int × Int)) (w : World) (h : SliceOf w A 2 enc2 (0, 0) l) (hl : l.length ≤ 70) (hc : l.length ≤ c) : Calls Tryz.prog 84 #[.int .u64 x, .slice A l.length c] w (UnpackPost x l w) := by
  have hm : l.length ≤ maxLen := by unfold maxLen; omega
  have hC := h.k24u hm
  have hf : PUnpack.field_Unpack.f 71 x (l.map fun f => (⟨f.1, f.2⟩ : PUnpack.S160)) = some ((unpackI x l).1, (unpackI x l).2) := by
    unfold PUnpack.field_Unpack.f PUnpack.field_Apart.f
    have ha := fapart_loop l hl l.length 0 71 0 (by omega) (by omega) (by omega)
    rw [List.length_map, show (0 : Int) = ((0 : Nat) : Int) from rfl] at *
    simp only [List.drop_zero, Int.ofNat_zero, Int.natCast_zero] at ha ⊢
    rw [ha]
    simp only [Option.bind_some, unpackI]
    by_cases hap : apGo 0 l = true
    · rw [if_pos hap, if_pos hap]
      have hr : ∀ f ∈ l, rightB f.1 f.2 = true := ((apGo_iff l 0 (by decide)).1 hap).1
      have hu := unpack_loop x l hl hr l.length 0 71 (by omega) (by omega) (by omega)
      simpa using hu
    · rw [if_neg hap, if_neg hap]
  have hlen : (l.map fun f => (⟨f.1, f.2⟩ : PUnpack.S160)).length = l.length := by simp
  have hcall := PUnpack.field_Unpack.calls 71 x A c (l.map fun f => (⟨f.1, f.2⟩ : PUnpack.S160)) _ _ w (by rw [hlen]; exact hC) (by rw [hlen]; exact hc) hf
  rw [hlen] at hcall
  refine hcall.mono fun e w' h => ?_
  obtain ⟨v0, he, hR0, hb⟩ := h
  obtain ⟨A0, c0, rfl, hc0, hC0⟩ := Kd.R_reads hR0
  exact ⟨A0, c0, he, hc0, hC0, hb⟩
end Go.Proofs.YtfflacggaebonaaGreatDoor
end
section
namespace Go.Proofs.YtfflacggaebonaaGreatDoor
open Go.RowKit


def IsU (w : World) (A : Option Addr) (l : List Int) : Prop := ∀ i, i < l.length → ∃ b o, A = some ⟨b, o, none⟩ ∧ w.cell? ⟨b, o + i, none⟩ = some (.int .u64 (l.getD i 0))
def U64 (l : List Int) : Prop := ∀ x ∈ l, 0 ≤ x ∧ x < 18446744073709551616
theorem ret_2 {k k' : IntKind} {a b c d : Int} (h : a = b) (h' : c = d) : Ending.returned (.tuple #[.int k a, .int k' c]) = .returned (.tuple #[.int k b, .int k' d]) := by rw [h, h']
theorem pack_ok (A X : Option Addr) (l : List (Int × Int)) (x : List Int) (c c' : Nat) (w : World) (hl : IsFl w A l) (hx : IsU w X x) (hu : U64 x) (hc : l.length ≤ maxLen) (he : l.length = x.length) (ha : apGo 0 l = true) :
    Calls Tryz.prog 73 #[.slice A l.length c, .slice X x.length c'] w fun e w' => e = .returned (.tuple #[.int .u64 (packI l x).1, .int .i64 (packI l x).2]) ∧ Below w.heap.size w w' := by
  have hlen := hc
  unfold maxLen at hlen
  have HP := Lib.hid (show packI l x = packGo 0 l x by simp [packI, he, ha])
  have HL := Lib.hid hl
  have HX := Lib.hid hx
  have HU := Lib.hid hu
  have HA := Lib.hid ha
  have HE := Lib.hid he
  have hr := apGo_right l 0 ha
  have HR := Lib.hid hr
  clear hx hu ha hr
  have hne : ((l.length : Int) != (x.length : Int)) = false := by simp [he]
  clear he
  go_enter Tryz.func73, Tryz.ntmps73
  go_wp2_with (first | (go_at_call 86; refine (apart_any A l c _ hl hc).mono ?_; rintro e w1 ⟨rfl, hb1⟩; simp only [HA.out]; clear hl))
  go_loopw [6, 22] (fun v6 v22 wr => ∃ (m : Int) (k : Nat), k ≤ l.length ∧ v6 = .int .u64 m ∧ v22 = .int .i64 k ∧ Hid (packGo m (l.drop k) (x.drop k) = packI l x) ∧ Below w.heap.size w wr) (fun _ v22 _ => l.length - (intOf v22).toNat)
  case atStart => exact ⟨0, 0, by omega, rfl, rfl, Lib.hid (by simp [HP.out]), hb1⟩
  case round =>
    clear hb1
    obtain ⟨m, k, hk, rfl, rfl, HG, hb⟩ := hrel
    by_cases hlt : k < l.length
    · have hltx : k < x.length := by rw [← HE.out]; exact hlt
      obtain ⟨b, o, rfl, c0, c1⟩ := HL.out k hlt
      obtain ⟨bx, ox, rfl, cx⟩ := HX.out k hltx
      have hr := HR.out k hlt
      have hu := HU.out (x.getD k 0) (by simp [List.getD, hltx])
      have h1 := drop_at l k (0, 0) hlt
      have h2 := drop_at x k 0 hltx
      replace c0 := cell_on hb c0
      replace c1 := cell_on hb c1
      replace cx := cell_on hb cx
      generalize l.getD k (0, 0) = f at h1 c0 c1 hr
      generalize x.getD k 0 = y at h2 cx hu
      obtain ⟨fa, fn⟩ := f
      obtain ⟨hu0, hu1⟩ := hu
      have HG := HG.out
      rw [h1, h2] at HG
      simp only [packGo] at HG
      clear h1 h2
      have HRR := Lib.hid hr
      clear hr
      by_cases hw : fn < len64 y
      · rw [if_pos hw] at HG
        replace HG := Lib.hid HG
        go_wp2_with fail
        have s0 : (wr.alloc (.cells #[.int .i64 fa, .int .i64 fn] 160)).cell? ⟨wr.heap.size, 0, none⟩ = some (.int .i64 fa) := by go_simp
        have s1 : (wr.alloc (.cells #[.int .i64 fa, .int .i64 fn] 160)).cell? ⟨wr.heap.size, 1, none⟩ = some (.int .i64 fn) := by go_simp
        have s2 := cell_on (below1 wr (.cells #[.int .i64 fa, .int .i64 fn] 160)) cx
        have B := hb.on (below1 wr (.cells #[.int .i64 fa, .int .i64 fn] 160))
        go_region_held3 (fun wk => (wk.cell? ⟨wr.heap.size, 0, none⟩ = some (.int .i64 fa) ∧ wk.cell? ⟨wr.heap.size, 1, none⟩ = some (.int .i64 fn) ∧ wk.cell? ⟨bx, ox + k, none⟩ = some (.int .u64 y)) ∧ Below w.heap.size w wk) (first | exact kp3_drew ⟨⟨s0, s1, s2⟩, B⟩ | exact kp3_call (by assumption) (by assumption)) (first | (go_at_call 87; refine (put_wide _ _ _ _ _ HRR.out hu0 hu1 hw).mono ?_; rintro e w1 ⟨rfl, hb1⟩))
        go_wp2
        go_ret2
        exact ⟨by rw [← HG.out]; rfl, (by assumption : _ ∧ Below w.heap.size w _).2⟩
      · rw [if_neg hw] at HG
        replace HG := Lib.hid HG
        go_wp2_with fail
        have s0 : (wr.alloc (.cells #[.int .i64 fa, .int .i64 fn] 160)).cell? ⟨wr.heap.size, 0, none⟩ = some (.int .i64 fa) := by go_simp
        have s1 : (wr.alloc (.cells #[.int .i64 fa, .int .i64 fn] 160)).cell? ⟨wr.heap.size, 1, none⟩ = some (.int .i64 fn) := by go_simp
        have s2 := cell_on (below1 wr (.cells #[.int .i64 fa, .int .i64 fn] 160)) cx
        have B := hb.on (below1 wr (.cells #[.int .i64 fa, .int .i64 fn] 160))
        go_region_held3 (fun wk => (wk.cell? ⟨wr.heap.size, 0, none⟩ = some (.int .i64 fa) ∧ wk.cell? ⟨wr.heap.size, 1, none⟩ = some (.int .i64 fn) ∧ wk.cell? ⟨bx, ox + k, none⟩ = some (.int .u64 y)) ∧ Below w.heap.size w wk) (first | exact kp3_drew ⟨⟨s0, s1, s2⟩, B⟩ | exact kp3_call (by assumption) (by assumption)) (first | (go_at_call 87; refine (put_any _ _ _ _ _ HRR.out hu0 hu1 (by omega)).mono ?_; rintro e w1 ⟨rfl, hb1⟩))
        go_wp2
        go_roundw
        case rel => exact ⟨_, k + 1, by omega, rfl, by go_num, HG, (by assumption : _ ∧ Below w.heap.size w _).2⟩
        case measure => simp [intOf]; omega
    · obtain rfl : k = l.length := by omega
      go_wp2
      go_ret2
      have := HG.out
      rw [List.drop_length] at this
      exact ⟨by rw [← this]; rfl, hb⟩
end Go.Proofs.YtfflacggaebonaaGreatDoor
end
section
namespace Go.Proofs.YtfflacggaebonaaGreatDoor
open Go.RowKit
set_option linter.unusedVariables false
set_option linter.unusedSimpArgs false
def mayB (l c s : Int) : Bool := decide (1 ≤ l) && (decide (l ≤ 64) && (decide (0 ≤ c) && (decide (c ≤ 1024) && (decide (0 ≤ s) && decide (s ≤ 4095)))))
theorem mayB_iff {l c s : Int} : mayB l c s = true ↔ 1 ≤ l ∧ l ≤ 64 ∧ 0 ≤ c ∧ c ≤ 1024 ∧ 0 ≤ s ∧ s ≤ 4095 := by simp [mayB]
def aliveB (i g : Int) : Bool := decide (0 ≤ i) && (decide (i ≤ 4095) && (decide (1 ≤ g) && decide (g ≤ 255)))
theorem aliveB_iff {i g : Int} : aliveB i g = true ↔ 0 ≤ i ∧ i ≤ 4095 ∧ 1 ≤ g ∧ g ≤ 255 := by simp [aliveB]
def encH (l c s : Int) : Int := 165 * 72057594037927936 + l * 4294967296 + c * 65536 + s
def fieldsL : List (Int × Int) := [(0, 16), (16, 16), (32, 8), (40, 16), (56, 8)]
def linksL : List (Int × Int) := [(0, 32), (32, 32)]
theorem getI_div (x a n : Nat) (hx : x < 18446744073709551616) (h : 0 < n) (h' : a + n ≤ 64) : getI x a n = ((x / 2 ^ a % 2 ^ n : Nat) : Int) := by
  rw [getI_nat x a n hx h h']
  congr 1
  apply Nat.eq_of_testBit_eq
  intro i
  rw [getN_bit, Nat.testBit_mod_two_pow, Nat.testBit_div_two_pow, Nat.add_comm i a]
/-- A field put into a word that has nothing there nor above it. -/
theorem putI_low (w a n x : Nat) (hw : w < 2 ^ a) (h : 0 < n) (h' : a + n ≤ 64) (hx : x < 2 ^ n) : putI w a n x = ((w + x * 2 ^ a : Nat) : Int) := by
  have hw64 : w < 18446744073709551616 := Nat.lt_of_lt_of_le hw (Nat.pow_le_pow_right (by decide) (by omega) : 2 ^ a ≤ 2 ^ 64)
  rw [putI_nat w a n x hw64 h h' hx]
  congr 1
  apply Nat.eq_of_testBit_eq
  intro i
  rw [putN_bit w a n x i h' hx hw64, Nat.add_comm w, Nat.mul_comm x, Nat.testBit_two_pow_mul_add _ hw]
  by_cases h1 : i < a
  · rw [if_pos h1, if_neg (by omega)]
  · rw [if_neg h1]
    by_cases h2 : i < a + n
    · rw [if_pos (by omega)]
    · rw [if_neg (by omega)]
      have w0 : w.testBit i = false := Nat.testBit_lt_two_pow (Nat.lt_of_lt_of_le hw (Nat.pow_le_pow_right (by decide) (by omega)))
      have x0 : x.testBit (i - a) = false := Nat.testBit_lt_two_pow (Nat.lt_of_lt_of_le hx (Nat.pow_le_pow_right (by decide) (by omega)))
      rw [w0, x0]
theorem pack_step (w x : Nat) (a n : Nat) (t : List (Int × Int)) (xs : List Int) (hw : w < 2 ^ a) (h : 0 < n) (h' : a + n ≤ 64) (hx : x < 2 ^ n) :
    packGo w (((a : Int), (n : Int)) :: t) ((x : Int) :: xs) = packGo ((w + x * 2 ^ a : Nat) : Int) t xs := by
  have hx64 : x < 18446744073709551616 := Nat.lt_of_lt_of_le hx (Nat.pow_le_pow_right (by decide) (by omega) : 2 ^ n ≤ 2 ^ 64)
  have hl := (len64_le x n hx64 (by omega)).2 hx
  simp only [packGo]
  rw [if_neg (by omega), putI_low w a n x hw h h' hx]
theorem pack_header (l c s : Int) (h : mayB l c s = true) : packI fieldsL [s, c, l, 0, 165] = (encH l c s, 0) := by
  obtain ⟨h1, h2, h3, h4, h5, h6⟩ := mayB_iff.1 h
  obtain ⟨l, rfl⟩ := Int.eq_ofNat_of_zero_le (show 0 ≤ l by omega)
  obtain ⟨c, rfl⟩ := Int.eq_ofNat_of_zero_le h3
  obtain ⟨s, rfl⟩ := Int.eq_ofNat_of_zero_le h5
  unfold packI
  rw [if_pos (by rfl), if_pos (by decide +kernel)]
  unfold fieldsL
  have e1 := pack_step 0 s 0 16 [(16, 16), (32, 8), (40, 16), (56, 8)] [(c : Int), l, 0, 165] (by decide) (by decide) (by decide) (by omega)
  have e2 := pack_step (0 + s * 2 ^ 0) c 16 16 [(32, 8), (40, 16), (56, 8)] [(l : Int), 0, 165] (by omega) (by decide) (by decide) (by omega)
  have e3 := pack_step (0 + s * 2 ^ 0 + c * 2 ^ 16) l 32 8 [(40, 16), (56, 8)] [0, 165] (by omega) (by decide) (by decide) (by omega)
  have e4 := pack_step (0 + s * 2 ^ 0 + c * 2 ^ 16 + l * 2 ^ 32) 0 40 16 [(56, 8)] [165] (by omega) (by decide) (by decide) (by omega)
  have e5 := pack_step (0 + s * 2 ^ 0 + c * 2 ^ 16 + l * 2 ^ 32 + 0 * 2 ^ 40) 165 56 8 [] [] (by omega) (by decide) (by decide) (by omega)
  refine (e1.trans (e2.trans (e3.trans (e4.trans e5)))).trans ?_
  simp only [packGo, encH]
  congr 1
  omega
theorem pack_link (i g : Int) (h : aliveB i g = true) : packI linksL [i + 2, g] = (g * 4294967296 + i + 2, 0) := by
  obtain ⟨h1, h2, h3, h4⟩ := aliveB_iff.1 h
  obtain ⟨i, rfl⟩ := Int.eq_ofNat_of_zero_le h1
  obtain ⟨g, rfl⟩ := Int.eq_ofNat_of_zero_le (show 0 ≤ g by omega)
  unfold packI
  rw [if_pos (by rfl), if_pos (by decide +kernel)]
  unfold linksL
  have e1 := pack_step 0 (i + 2) 0 32 [(32, 32)] [(g : Int)] (by decide) (by decide) (by decide) (by omega)
  have e2 := pack_step (0 + (i + 2) * 2 ^ 0) g 32 32 [] [] (by omega) (by decide) (by decide) (by omega)
  refine (e1.trans e2).trans ?_
  simp only [packGo]
  congr 1
  omega
/-- What a header's word tells. -/
def decOK (w : Int) : Bool := decide (w / 1099511627776 % 65536 = 0) && (decide (w / 72057594037927936 % 256 = 165) && mayB (w / 4294967296 % 256) (w / 65536 % 65536) (w % 65536))
theorem decOK_iff {w : Int} : decOK w = true ↔ w / 1099511627776 % 65536 = 0 ∧ w / 72057594037927936 % 256 = 165 ∧ mayB (w / 4294967296 % 256) (w / 65536 % 65536) (w % 65536) = true := by
  unfold decOK
  rw [Bool.and_eq_true, Bool.and_eq_true, decide_eq_true_iff, decide_eq_true_iff]
def decI (w : Int) : Int × Int × Int × Int := if decOK w = true then (w / 4294967296 % 256, w / 65536 % 65536, w % 65536, 0) else (0, 0, 0, 4)
theorem unpack_header (w : Nat) (hw : w < 18446744073709551616) : unpackI w fieldsL = ([((w % 65536 : Nat) : Int), ((w / 65536 % 65536 : Nat) : Int), ((w / 4294967296 % 256 : Nat) : Int), ((w / 1099511627776 % 65536 : Nat) : Int), ((w / 72057594037927936 % 256 : Nat) : Int)], 0) := by
  unfold unpackI
  rw [if_pos (by decide +kernel)]
  have e1 : getI w 0 16 = ((w / 2 ^ 0 % 2 ^ 16 : Nat) : Int) := getI_div w 0 16 hw (by decide) (by decide)
  have e2 : getI w 16 16 = ((w / 2 ^ 16 % 2 ^ 16 : Nat) : Int) := getI_div w 16 16 hw (by decide) (by decide)
  have e3 : getI w 32 8 = ((w / 2 ^ 32 % 2 ^ 8 : Nat) : Int) := getI_div w 32 8 hw (by decide) (by decide)
  have e4 : getI w 40 16 = ((w / 2 ^ 40 % 2 ^ 16 : Nat) : Int) := getI_div w 40 16 hw (by decide) (by decide)
  have e5 : getI w 56 8 = ((w / 2 ^ 56 % 2 ^ 8 : Nat) : Int) := getI_div w 56 8 hw (by decide) (by decide)
  have hl : fieldsL.map (fun f => getI w f.1 f.2) = [getI w 0 16, getI w 16 16, getI w 32 8, getI w 40 16, getI w 56 8] := rfl
  rw [hl, e1, e2, e3, e4, e5, Nat.pow_zero, Nat.div_one]
theorem unpack_link (w : Nat) (hw : w < 18446744073709551616) : unpackI w linksL = ([((w % 4294967296 : Nat) : Int), ((w / 4294967296 : Nat) : Int)], 0) := by
  unfold unpackI
  rw [if_pos (by decide +kernel)]
  have e1 : getI w 0 32 = ((w / 2 ^ 0 % 2 ^ 32 : Nat) : Int) := getI_div w 0 32 hw (by decide) (by decide)
  have e2 : getI w 32 32 = ((w / 2 ^ 32 % 2 ^ 32 : Nat) : Int) := getI_div w 32 32 hw (by decide) (by decide)
  have hl : linksL.map (fun f => getI w f.1 f.2) = [getI w 0 32, getI w 32 32] := rfl
  have h2 : w / 2 ^ 32 % 2 ^ 32 = w / 4294967296 := by omega
  rw [hl, e1, e2, h2, Nat.pow_zero, Nat.div_one]
/-- What a reference's word tells. -/
def linkG (w z1 z2 : Int) : Int × Int × Int × Int :=
  if w = 0 then (0, 0, 0, 0) else if w = 1 then (1, 0, 0, 0) else if aliveB z1 z2 = true then (2, z1, z2, 0) else (0, 0, 0, 4)
def linkI (w : Int) : Int × Int × Int × Int := linkG w (w % 4294967296 - 2) (w / 4294967296)
end Go.Proofs.YtfflacggaebonaaGreatDoor
end
section
namespace Go.Proofs.YtfflacggaebonaaGreatDoor
open Go.RowKit
set_option linter.unusedVariables false
set_option linter.unusedSimpArgs false
theorem may_any (l c s : Int) (w : World) : Calls Tryz.prog 72 #[.agg #[.int .i64 l, .int .i64 c, .int .i64 s]] w fun e w' => e = .returned (.bool (mayB l c s)) ∧ Below w.heap.size w w' := by
  go_enter Tryz.func72, Tryz.ntmps72
  go_wp2
  all_goals (go_ret; exact ⟨retY_bool (by simp [mayB, *] <;> omega), below1 _ _⟩)
theorem refmay_any (l c s : Int) (w : World) : Calls Tryz.prog 57 #[.agg #[.int .i64 l, .int .i64 c, .int .i64 s]] w fun e w' => e = .returned (.bool (mayB l c s)) ∧ Below w.heap.size w w' := by
  go_enter Tryz.func57, Tryz.ntmps57
  go_wp2
  all_goals (go_ret; exact ⟨retY_bool (by simp [mayB, *] <;> omega), below1 _ _⟩)
theorem alive5_any (i g : Int) (w : World) : Calls Tryz.prog 82 #[.agg #[.int .i64 i, .int .i64 g]] w fun e w' => e = .returned (.bool (aliveB i g)) ∧ Below w.heap.size w w' := by
  go_enter Tryz.func82, Tryz.ntmps82
  go_wp2
  all_goals (go_ret; exact ⟨retY_bool (by simp [aliveB, *] <;> omega), below1 _ _⟩)
theorem refenc_any (l c s : Int) (w : World) (h : mayB l c s = true) : Calls Tryz.prog 58 #[.agg #[.int .i64 l, .int .i64 c, .int .i64 s]] w fun e w' => e = .returned (.int .u64 (encH l c s)) ∧ Below w.heap.size w w' := by
  obtain ⟨h1, h2, h3, h4, h5, h6⟩ := mayB_iff.1 h
  clear h
  go_enter Tryz.func58, Tryz.ntmps58
  go_wp2
  go_ret
  exact ⟨ret_int (by unfold encH; omega), below1 _ _⟩
theorem fields_any (w : World) : Calls Tryz.prog 74 #[] w fun e w' => e = .returned (.slice (some ⟨w.heap.size, 0, none⟩) 5 5) ∧ w' = w.alloc (.cells #[.int .i64 0, .int .i64 16, .int .i64 16, .int .i64 16, .int .i64 32, .int .i64 8, .int .i64 40, .int .i64 16, .int .i64 56, .int .i64 8] 160) := by
  go_enter Tryz.func74, Tryz.ntmps74
  go_wp2
  go_ret
  exact ⟨rfl, rfl⟩
theorem links_any (w : World) : Calls Tryz.prog 83 #[] w fun e w' => e = .returned (.slice (some ⟨w.heap.size, 0, none⟩) 2 2) ∧ w' = w.alloc (.cells #[.int .i64 0, .int .i64 32, .int .i64 32, .int .i64 32] 160) := by
  go_enter Tryz.func83, Tryz.ntmps83
  go_wp2
  go_ret
  exact ⟨rfl, rfl⟩
theorem encode_no (l c s : Int) (w : World) (h : mayB l c s = false) : Calls Tryz.prog 45 #[.agg #[.int .i64 l, .int .i64 c, .int .i64 s]] w fun e w' => e = .returned (.tuple #[.int .u64 0, .int .i64 3]) ∧ Below w.heap.size w w' := by
  go_enter Tryz.func45, Tryz.ntmps45
  go_wp2_with (go_at_call 72; refine (may_any l c s _).mono ?_; rintro e w1 ⟨rfl, hbx⟩)
  go_ret2
  exact ⟨rfl, (below1 _ _).on hbx⟩
theorem encode_yes (l c s : Int) (w : World) (h : mayB l c s = true) : Calls Tryz.prog 45 #[.agg #[.int .i64 l, .int .i64 c, .int .i64 s]] w fun e w' => e = .returned (.tuple #[.int .u64 (encH l c s), .int .i64 0]) ∧ Below w.heap.size w w' := by
  have HP := Lib.hid (show packI [(0, 16), (16, 16), (32, 8), (40, 16), (56, 8)] [s, c, l, 0, 165] = (encH l c s, 0) from pack_header l c s h)
  obtain ⟨h1, h2, h3, h4, h5, h6⟩ := mayB_iff.1 h
  have HM := Lib.hid h
  clear h
  have e1 : IntKind.u64.wrap l = l := by rw [IntKind.wrap_u64]; omega
  have e2 : IntKind.u64.wrap c = c := by rw [IntKind.wrap_u64]; omega
  have e3 : IntKind.u64.wrap s = s := by rw [IntKind.wrap_u64]; omega
  go_enter Tryz.func45, Tryz.ntmps45
  go_wp2_with (go_at_call 72; refine (may_any l c s _).mono ?_; rintro e w1 ⟨rfl, hbx⟩; rw [HM.out])
  have d0 : w1.cell? ⟨w.heap.size, 0, none⟩ = some (.int .i64 l) := cell_on hbx (by go_simp)
  have d1 : w1.cell? ⟨w.heap.size, 1, none⟩ = some (.int .i64 c) := cell_on hbx (by go_simp)
  have d2 : w1.cell? ⟨w.heap.size, 2, none⟩ = some (.int .i64 s) := cell_on hbx (by go_simp)
  have B1 := (below1 w _).on hbx
  clear hbx
  go_region_held3 (fun wk => (wk.cell? ⟨w.heap.size, 0, none⟩ = some (.int .i64 l) ∧ wk.cell? ⟨w.heap.size, 1, none⟩ = some (.int .i64 c) ∧ wk.cell? ⟨w.heap.size, 2, none⟩ = some (.int .i64 s)) ∧ Below w.heap.size w wk) (first | exact kp3_drew ⟨⟨d0, d1, d2⟩, B1⟩ | exact kp3_alloc _ (by assumption) | exact kp3_call (by assumption) (by assumption)) (first | (go_at_call 74; refine (fields_any _).mono ?_; rintro e w2 ⟨rfl, rfl⟩) | (go_at_call 73; refine (pack_ok _ _ [(0, 16), (16, 16), (32, 8), (40, 16), (56, 8)] [s, c, l, 0, 165] 5 5 _ (by intro i hi; refine ⟨_, _, rfl, ?_, ?_⟩ <;> (rcases i with _ | _ | _ | _ | _ | i <;> first | (go_simp; done) | (simp at hi; omega))) (by intro i hi; refine ⟨_, _, rfl, ?_⟩; (rcases i with _ | _ | _ | _ | _ | i <;> first | (go_simp; done) | (simp at hi; omega))) (by intro x hx; simp at hx; omega) (by decide) rfl (by decide +kernel)).mono ?_; rintro e w3 ⟨rfl, hb3⟩; rw [HP.out]))
  all_goals (
    have B3 := (by assumption : _ ∧ Below w.heap.size w w3).2
    go_wp2
    go_ret2
    exact ⟨rfl, B3⟩)
def mayLinkB (k i g : Int) : Bool := if k = 2 then aliveB i g else ((decide (k = 0) || decide (k = 1)) && (decide (i = 0) && decide (g = 0)))
def refWordI (k i g : Int) : Int := if k = 2 then g * 4294967296 + i + 2 else k
theorem word_null (w : World) : Calls Tryz.prog 60 #[.agg #[.int .i64 0, .int .i64 0, .int .i64 0]] w fun e w' => e = .returned (.tuple #[.int .u64 0, .int .i64 0]) ∧ Below w.heap.size w w' := by
  go_enter Tryz.func60, Tryz.ntmps60
  go_wp2
  go_ret2
  exact ⟨rfl, below1 _ _⟩
theorem word_tomb (w : World) : Calls Tryz.prog 60 #[.agg #[.int .i64 1, .int .i64 0, .int .i64 0]] w fun e w' => e = .returned (.tuple #[.int .u64 1, .int .i64 0]) ∧ Below w.heap.size w w' := by
  go_enter Tryz.func60, Tryz.ntmps60
  go_wp2
  go_ret2
  exact ⟨rfl, below1 _ _⟩
theorem word_dead (i g : Int) (w : World) (h : aliveB i g = false) : Calls Tryz.prog 60 #[.agg #[.int .i64 2, .int .i64 i, .int .i64 g]] w fun e w' => e = .returned (.tuple #[.int .u64 0, .int .i64 3]) ∧ Below w.heap.size w w' := by
  go_enter Tryz.func60, Tryz.ntmps60
  go_wp2_with (go_at_call 82; refine (alive5_any i g _).mono ?_; rintro e w1 ⟨rfl, hbx⟩)
  go_ret2
  exact ⟨rfl, (below1 _ _).on hbx⟩
theorem word_other (k i g : Int) (w : World) (h2 : k ≠ 2) (h0 : ¬ (k = 0 ∧ i = 0 ∧ g = 0)) (h1 : ¬ (k = 1 ∧ i = 0 ∧ g = 0)) : Calls Tryz.prog 60 #[.agg #[.int .i64 k, .int .i64 i, .int .i64 g]] w fun e w' => e = .returned (.tuple #[.int .u64 0, .int .i64 3]) ∧ Below w.heap.size w w' := by
  have H0 := Lib.hid h0
  have H1 := Lib.hid h1
  clear h0 h1
  go_enter Tryz.func60, Tryz.ntmps60
  go_wp2
  all_goals first
    | (exact absurd ⟨by assumption, by assumption, by assumption⟩ H0.out)
    | (exact absurd ⟨by assumption, by assumption, by assumption⟩ H1.out)
    | (exfalso; have q0 := H0.out; have q1 := H1.out; omega)
    | (go_ret2; exact ⟨rfl, below1 _ _⟩)
theorem word_alive (i g : Int) (w : World) (h : aliveB i g = true) : Calls Tryz.prog 60 #[.agg #[.int .i64 2, .int .i64 i, .int .i64 g]] w fun e w' => e = .returned (.tuple #[.int .u64 (g * 4294967296 + i + 2), .int .i64 0]) ∧ Below w.heap.size w w' := by
  have HP := Lib.hid (show packI [(0, 32), (32, 32)] [i + 2, g] = (g * 4294967296 + i + 2, 0) from pack_link i g h)
  obtain ⟨h1, h2, h3, h4⟩ := aliveB_iff.1 h
  have HM := Lib.hid h
  clear h
  have e1 : IntKind.u64.wrap i = i := by rw [IntKind.wrap_u64]; omega
  have e2 : IntKind.u64.wrap g = g := by rw [IntKind.wrap_u64]; omega
  have e3 : IntKind.u64.wrap (i + 2) = i + 2 := by rw [IntKind.wrap_u64]; omega
  go_enter Tryz.func60, Tryz.ntmps60
  go_wp2_with (go_at_call 82; refine (alive5_any i g _).mono ?_; rintro e w1 ⟨rfl, hbx⟩; rw [HM.out])
  have d0 : w1.cell? ⟨w.heap.size, 1, none⟩ = some (.int .i64 i) := cell_on hbx (by go_simp)
  have d1 : w1.cell? ⟨w.heap.size, 2, none⟩ = some (.int .i64 g) := cell_on hbx (by go_simp)
  have B1 := (below1 w _).on hbx
  clear hbx
  go_region_held3 (fun wk => (wk.cell? ⟨w.heap.size, 1, none⟩ = some (.int .i64 i) ∧ wk.cell? ⟨w.heap.size, 2, none⟩ = some (.int .i64 g)) ∧ Below w.heap.size w wk) (first | exact kp2_drew ⟨⟨d0, d1⟩, B1⟩ | exact kp2_alloc _ (by assumption) | exact kp2_call (by assumption) (by assumption)) (first | (go_at_call 83; refine (links_any _).mono ?_; rintro e w2 ⟨rfl, rfl⟩) | (go_at_call 73; refine (pack_ok _ _ [(0, 32), (32, 32)] [i + 2, g] 2 2 _ (by intro i hi; refine ⟨_, _, rfl, ?_, ?_⟩ <;> (rcases i with _ | _ | i <;> first | (go_simp; done) | (simp at hi; omega))) (by intro i hi; refine ⟨_, _, rfl, ?_⟩; (rcases i with _ | _ | i <;> first | (go_simp; done) | (simp at hi; omega))) (by intro x hx; simp at hx; omega) (by unfold maxLen; simp) rfl (by decide +kernel)).mono ?_; rintro e w3 ⟨rfl, hb3⟩; rw [HP.out]))
  all_goals (
    have B3 := (by assumption : _ ∧ Below w.heap.size w w3).2
    go_wp2
    go_ret2
    exact ⟨rfl, B3⟩)
theorem mayLink_two (i g : Int) : mayLinkB 2 i g = aliveB i g := rfl
theorem reflinkmay_any (k i g : Int) (w : World) : Calls Tryz.prog 61 #[.agg #[.int .i64 k, .int .i64 i, .int .i64 g]] w fun e w' => e = .returned (.bool (mayLinkB k i g)) ∧ Below w.heap.size w w' := by
  by_cases hk : k = 2
  · subst hk
    go_enter Tryz.func61, Tryz.ntmps61
    go_wp2
    all_goals (go_ret; exact ⟨retY_bool (by rw [mayLink_two]; simp [aliveB, *] <;> omega), below1 _ _⟩)
  · have hm : mayLinkB k i g = ((decide (k = 0) || decide (k = 1)) && (decide (i = 0) && decide (g = 0))) := by unfold mayLinkB; rw [if_neg hk]
    have HM := Lib.hid hm
    clear hm
    go_enter Tryz.func61, Tryz.ntmps61
    go_wp2
    all_goals (go_ret; exact ⟨retY_bool (by rw [HM.out]; simp [*] <;> (rw [Bool.eq_iff_iff]; simp)), below1 _ _⟩)
theorem refword_any (k i g : Int) (w : World) (h : mayLinkB k i g = true) : Calls Tryz.prog 62 #[.agg #[.int .i64 k, .int .i64 i, .int .i64 g]] w fun e w' => e = .returned (.int .u64 (refWordI k i g)) ∧ Below w.heap.size w w' := by
  by_cases hk : k = 2
  · subst hk
    have ha : aliveB i g = true := by simpa [mayLinkB] using h
    obtain ⟨h1, h2, h3, h4⟩ := aliveB_iff.1 ha
    clear h ha
    go_enter Tryz.func62, Tryz.ntmps62
    go_wp2
    go_ret
    exact ⟨ret_int (by unfold refWordI; simp), below1 _ _⟩
  · have ha : k = 0 ∨ k = 1 := by simp [mayLinkB, hk] at h; omega
    have hb : 0 ≤ k ∧ k ≤ 1 := by omega
    clear h ha
    have hr : refWordI k i g = k := by unfold refWordI; rw [if_neg hk]
    obtain ⟨hb0, hb1⟩ := hb
    go_enter Tryz.func62, Tryz.ntmps62
    go_wp2
    go_ret
    exact ⟨ret_int hr.symm, below1 _ _⟩
theorem dec_law (w : Int) (h0 : 0 ≤ w) (h1 : w < 18446744073709551616) : decOK w = true ↔ mayB (w / 4294967296 % 256) (w / 65536 % 65536) (w % 65536) = true ∧ encH (w / 4294967296 % 256) (w / 65536 % 65536) (w % 65536) = w := by
  rw [decOK_iff]
  unfold encH
  constructor
  · rintro ⟨a, b, c⟩
    exact ⟨c, by omega⟩
  · rintro ⟨c, d⟩
    exact ⟨by omega, by omega, c⟩
/-- No cell of a block is frozen. -/
def Thawed (w : World) (b : Nat) : Prop := b < w.heap.size ∧ ∀ o, w.frozen? ⟨b, o, none⟩ = false
theorem Thawed.on {w w1 : World} {b : Nat} (h : Thawed w b) (hb : Below w.heap.size w w1) : Thawed w1 b := ⟨by have := hb.size; have := h.1; omega, fun o => (hb.frozen (p := ⟨b, o, none⟩) h.1).trans (h.2 o)⟩
theorem thawed_on {w w1 : World} {b : Nat} (hb : Below w.heap.size w w1) (h1 : b < w.heap.size) (h2 : ∀ o, w.frozen? ⟨b, o, none⟩ = false) : Thawed w1 b := Thawed.on ⟨h1, h2⟩ hb
theorem refdecode_any (w : Int) (W : World) (h0 : 0 ≤ w) (h1 : w < 18446744073709551616) : Calls Tryz.prog 37 #[.int .u64 w] W fun e w' => e = .returned (.tuple #[.agg #[.int .i64 (decI w).1, .int .i64 (decI w).2.1, .int .i64 (decI w).2.2.1], .bool (decOK w)]) ∧ Below W.heap.size W w' := by
  have HLAW := Lib.hid (dec_law w h0 h1)
  by_cases hm : mayB (w / 4294967296 % 256) (w / 65536 % 65536) (w % 65536) = true
  · have HM := Lib.hid hm
    have HD := Lib.hid (show decI w = if decOK w = true then (w / 4294967296 % 256, w / 65536 % 65536, w % 65536, 0) else (0, 0, 0, 4) from rfl)
    clear hm
    go_enter Tryz.func37, Tryz.ntmps37
    go_wp2_with fail
    generalize w / 4294967296 % 256 = z1 at *
    generalize w / 65536 % 65536 = z2 at *
    generalize w % 65536 = z3 at *
    refine (refmay_any z1 z2 z3 _).mono ?_
    rintro e w1 ⟨rfl, hbx⟩
    rw [HM.out]
    have c0 : w1.cell? ⟨W.heap.size + 1, 0, none⟩ = some (.int .i64 z1) := cell_on hbx (by go_simp)
    have c1 : w1.cell? ⟨W.heap.size + 1, 1, none⟩ = some (.int .i64 z2) := cell_on hbx (by go_simp)
    have c2 : w1.cell? ⟨W.heap.size + 1, 2, none⟩ = some (.int .i64 z3) := cell_on hbx (by go_simp)
    have r0 : w1.cell? ⟨W.heap.size, 0, none⟩ = some (.int .i64 0) := cell_on hbx (by go_simp)
    have r1 : w1.cell? ⟨W.heap.size, 1, none⟩ = some (.int .i64 0) := cell_on hbx (by go_simp)
    have r2 : w1.cell? ⟨W.heap.size, 2, none⟩ = some (.int .i64 0) := cell_on hbx (by go_simp)
    have B1 := ((below1 W _).on (below1 _ _)).on hbx
    have hfz : Thawed w1 W.heap.size := thawed_on hbx (by simp; omega) (fun o => by go_simp)
    clear hbx
    go_wp2_with fail
    refine (refenc_any z1 z2 z3 _ HM.out).mono ?_
    rintro e w2 ⟨rfl, hbx⟩
    replace c0 := cell_on hbx c0
    replace c1 := cell_on hbx c1
    replace c2 := cell_on hbx c2
    replace r0 := cell_on hbx r0
    replace r1 := cell_on hbx r1
    replace r2 := cell_on hbx r2
    have fz0 := hfz.on hbx
    replace B1 := B1.on hbx
    have fz0' := fz0.2
    have fz1 := fz0.1
    clear hbx
    by_cases hok : decOK w = true
    · have HOK := Lib.hid hok
      have he := (HLAW.out.1 hok).2
      rw [he]
      clear he hok
      go_wp2
      exact bodyPost_ret (v := .tuple #[.agg #[.int .i64 z1, .int .i64 z2, .int .i64 z3], .bool true]) (by simp [results, Tryz.results37, go_sem, r0, r1, r2]) rfl ⟨by rw [HD.out, if_pos HOK.out, HOK.out], ((B1.setCell (p := ⟨W.heap.size, 0, none⟩) (Nat.le_refl _) _).setCell (p := ⟨W.heap.size, 1, none⟩) (Nat.le_refl _) _).setCell (p := ⟨W.heap.size, 2, none⟩) (Nat.le_refl _) _⟩
    · have hne : (encH z1 z2 z3 == w) = false := by rw [beq_eq_false_iff_ne]; intro h; exact hok (HLAW.out.2 ⟨HM.out, h⟩)
      have hne' : (encH z1 z2 z3 != w) = true := by rw [bne, hne]; rfl
      have HOK := Lib.hid hok
      clear hok
      go_wp2
      exact bodyPost_ret (v := .tuple #[.agg #[.int .i64 0, .int .i64 0, .int .i64 0], .bool false]) (by simp [results, Tryz.results37, go_sem, r0, r1, r2]) rfl ⟨by rw [HD.out, if_neg HOK.out, Bool.eq_false_iff.2 HOK.out], ((B1.setCell (p := ⟨W.heap.size, 0, none⟩) (Nat.le_refl _) _).setCell (p := ⟨W.heap.size, 1, none⟩) (Nat.le_refl _) _).setCell (p := ⟨W.heap.size, 2, none⟩) (Nat.le_refl _) _⟩
  · have hok : ¬ decOK w = true := fun h => hm (HLAW.out.1 h).1
    have HD := Lib.hid (show decI w = (0, 0, 0, 4) by unfold decI; rw [if_neg hok])
    have HOK := Lib.hid (Bool.eq_false_iff.2 hok)
    have HM := Lib.hid (Bool.eq_false_iff.2 hm)
    clear hok hm
    go_enter Tryz.func37, Tryz.ntmps37
    go_wp2_with fail
    generalize w / 4294967296 % 256 = z1 at *
    generalize w / 65536 % 65536 = z2 at *
    generalize w % 65536 = z3 at *
    refine (refmay_any z1 z2 z3 _).mono ?_
    rintro e w1 ⟨rfl, hbx⟩
    rw [HM.out]
    have c0 : w1.cell? ⟨W.heap.size + 1, 0, none⟩ = some (.int .i64 z1) := cell_on hbx (by go_simp)
    have c1 : w1.cell? ⟨W.heap.size + 1, 1, none⟩ = some (.int .i64 z2) := cell_on hbx (by go_simp)
    have c2 : w1.cell? ⟨W.heap.size + 1, 2, none⟩ = some (.int .i64 z3) := cell_on hbx (by go_simp)
    have r0 : w1.cell? ⟨W.heap.size, 0, none⟩ = some (.int .i64 0) := cell_on hbx (by go_simp)
    have r1 : w1.cell? ⟨W.heap.size, 1, none⟩ = some (.int .i64 0) := cell_on hbx (by go_simp)
    have r2 : w1.cell? ⟨W.heap.size, 2, none⟩ = some (.int .i64 0) := cell_on hbx (by go_simp)
    have B1 := ((below1 W _).on (below1 _ _)).on hbx
    have hfz : Thawed w1 W.heap.size := thawed_on hbx (by simp; omega) (fun o => by go_simp)
    clear hbx
    have fz0' := hfz.2
    have fz1 := hfz.1
    go_wp2
    exact bodyPost_ret (v := .tuple #[.agg #[.int .i64 0, .int .i64 0, .int .i64 0], .bool false]) (by simp [results, Tryz.results37, go_sem, r0, r1, r2]) rfl ⟨by rw [HD.out, HOK.out], ((B1.setCell (p := ⟨W.heap.size, 0, none⟩) (Nat.le_refl _) _).setCell (p := ⟨W.heap.size, 1, none⟩) (Nat.le_refl _) _).setCell (p := ⟨W.heap.size, 2, none⟩) (Nat.le_refl _) _⟩
def linkOK (w : Int) : Bool := decide ((linkI w).2.2.2 = 0)
theorem link_low (w : Int) (h0 : 0 ≤ w) (h2 : w < 2) : linkI w = (w, 0, 0, 0) := by
  unfold linkI linkG
  rcases (show w = 0 ∨ w = 1 by omega) with h | h
  · rw [if_pos h, h]
  · rw [if_neg (by omega), if_pos h, h]
theorem link_high (w z1 z2 : Int) (h2 : ¬ w < 2) (h0 : 0 ≤ w) : linkG w z1 z2 = if aliveB z1 z2 = true then (2, z1, z2, 0) else (0, 0, 0, 4) := by
  unfold linkG
  rw [if_neg (by omega), if_neg (by omega)]
theorem reflink_any (w : Int) (W : World) (h0 : 0 ≤ w) (h1 : w < 18446744073709551616) : Calls Tryz.prog 42 #[.int .u64 w] W fun e w' => e = .returned (.tuple #[.agg #[.int .i64 (linkI w).1, .int .i64 (linkI w).2.1, .int .i64 (linkI w).2.2.1], .bool (linkOK w)]) ∧ Below W.heap.size W w' := by
  by_cases hlow : w < 2
  · have HD := Lib.hid (link_low w h0 hlow)
    have HK := Lib.hid (show linkOK w = true by unfold linkOK; rw [link_low w h0 hlow]; rfl)
    go_enter Tryz.func42, Tryz.ntmps42
    go_wp2
    exact bodyPost_ret (v := .tuple #[.agg #[.int .i64 w, .int .i64 0, .int .i64 0], .bool true]) (by simp [results, Tryz.results42, go_sem]) rfl ⟨by rw [HD.out, HK.out], below1 _ _⟩
  · by_cases hl2 : w % 4294967296 < 2
    · have hdead : ¬ aliveB (w % 4294967296 - 2) (w / 4294967296) = true := fun h => by have := (aliveB_iff.1 h).1; omega
      have hD : linkI w = (0, 0, 0, 4) := by unfold linkI; rw [link_high w _ _ hlow h0, if_neg hdead]
      have HD := Lib.hid hD
      have HK := Lib.hid (show linkOK w = false by unfold linkOK; rw [hD]; rfl)
      clear hD hdead
      go_enter Tryz.func42, Tryz.ntmps42
      go_wp2
      exact bodyPost_ret (v := .tuple #[.agg #[.int .i64 0, .int .i64 0, .int .i64 0], .bool false]) (by simp [results, Tryz.results42, go_sem]) rfl ⟨by rw [HD.out, HK.out], below1 _ _⟩
    · by_cases ha : aliveB (w % 4294967296 - 2) (w / 4294967296) = true
      · have hD : linkI w = (2, w % 4294967296 - 2, w / 4294967296, 0) := by unfold linkI; rw [link_high w _ _ hlow h0, if_pos ha]
        have HD := Lib.hid hD
        have HK := Lib.hid (show linkOK w = true by unfold linkOK; rw [hD]; rfl)
        have HM := Lib.hid (show mayLinkB 2 (w % 4294967296 - 2) (w / 4294967296) = true by rw [mayLink_two]; exact ha)
        clear hD ha
        go_enter Tryz.func42, Tryz.ntmps42
        go_wp2_with fail
        generalize w % 4294967296 - 2 = z1 at *
        generalize w / 4294967296 = z2 at *
        refine (reflinkmay_any 2 z1 z2 _).mono ?_
        rintro e w1 ⟨rfl, hbx⟩
        rw [HM.out]
        have c0 : w1.cell? ⟨W.heap.size + 1, 0, none⟩ = some (.int .i64 2) := cell_on hbx (by go_simp)
        have c1 : w1.cell? ⟨W.heap.size + 1, 1, none⟩ = some (.int .i64 z1) := cell_on hbx (by go_simp)
        have c2 : w1.cell? ⟨W.heap.size + 1, 2, none⟩ = some (.int .i64 z2) := cell_on hbx (by go_simp)
        have r0 : w1.cell? ⟨W.heap.size, 0, none⟩ = some (.int .i64 0) := cell_on hbx (by go_simp)
        have r1 : w1.cell? ⟨W.heap.size, 1, none⟩ = some (.int .i64 0) := cell_on hbx (by go_simp)
        have r2 : w1.cell? ⟨W.heap.size, 2, none⟩ = some (.int .i64 0) := cell_on hbx (by go_simp)
        have B1 := ((below1 W _).on (below1 _ _)).on hbx
        have hfz : Thawed w1 W.heap.size := thawed_on hbx (by simp; omega) (fun o => by go_simp)
        have fz0' := hfz.2
        have fz1 := hfz.1
        clear hbx
        go_wp2
        exact bodyPost_ret (v := .tuple #[.agg #[.int .i64 2, .int .i64 z1, .int .i64 z2], .bool true]) (by simp [results, Tryz.results42, go_sem, r0, r1, r2]) rfl ⟨by rw [HD.out, HK.out], ((B1.setCell (p := ⟨W.heap.size, 0, none⟩) (Nat.le_refl _) _).setCell (p := ⟨W.heap.size, 1, none⟩) (Nat.le_refl _) _).setCell (p := ⟨W.heap.size, 2, none⟩) (Nat.le_refl _) _⟩
      · have hD : linkI w = (0, 0, 0, 4) := by unfold linkI; rw [link_high w _ _ hlow h0, if_neg ha]
        have HD := Lib.hid hD
        have HK := Lib.hid (show linkOK w = false by unfold linkOK; rw [hD]; rfl)
        have HM := Lib.hid (show mayLinkB 2 (w % 4294967296 - 2) (w / 4294967296) = false by rw [mayLink_two]; exact Bool.eq_false_iff.2 ha)
        clear hD ha
        go_enter Tryz.func42, Tryz.ntmps42
        go_wp2_with fail
        generalize w % 4294967296 - 2 = z1 at *
        generalize w / 4294967296 = z2 at *
        refine (reflinkmay_any 2 z1 z2 _).mono ?_
        rintro e w1 ⟨rfl, hbx⟩
        rw [HM.out]
        have c0 : w1.cell? ⟨W.heap.size + 1, 0, none⟩ = some (.int .i64 2) := cell_on hbx (by go_simp)
        have c1 : w1.cell? ⟨W.heap.size + 1, 1, none⟩ = some (.int .i64 z1) := cell_on hbx (by go_simp)
        have c2 : w1.cell? ⟨W.heap.size + 1, 2, none⟩ = some (.int .i64 z2) := cell_on hbx (by go_simp)
        have r0 : w1.cell? ⟨W.heap.size, 0, none⟩ = some (.int .i64 0) := cell_on hbx (by go_simp)
        have r1 : w1.cell? ⟨W.heap.size, 1, none⟩ = some (.int .i64 0) := cell_on hbx (by go_simp)
        have r2 : w1.cell? ⟨W.heap.size, 2, none⟩ = some (.int .i64 0) := cell_on hbx (by go_simp)
        have B1 := ((below1 W _).on (below1 _ _)).on hbx
        have hfz : Thawed w1 W.heap.size := thawed_on hbx (by simp; omega) (fun o => by go_simp)
        have fz0' := hfz.2
        have fz1 := hfz.1
        clear hbx
        go_wp2
        exact bodyPost_ret (v := .tuple #[.agg #[.int .i64 0, .int .i64 0, .int .i64 0], .bool false]) (by simp [results, Tryz.results42, go_sem, r0, r1, r2]) rfl ⟨by rw [HD.out, HK.out], ((B1.setCell (p := ⟨W.heap.size, 0, none⟩) (Nat.le_refl _) _).setCell (p := ⟨W.heap.size, 1, none⟩) (Nat.le_refl _) _).setCell (p := ⟨W.heap.size, 2, none⟩) (Nat.le_refl _) _⟩
end Go.Proofs.YtfflacggaebonaaGreatDoor
end
section
namespace Go.Proofs.YtfflacggaebonaaGreatDoor
open Go.RowKit
set_option linter.unusedVariables false
set_option linter.unusedSimpArgs false
theorem mayLink_cases {k i g : Int} (h : mayLinkB k i g = true) : (k = 2 ∧ aliveB i g = true) ∨ (k = 0 ∧ i = 0 ∧ g = 0) ∨ (k = 1 ∧ i = 0 ∧ g = 0) := by
  unfold mayLinkB at h
  by_cases hk : k = 2
  · rw [if_pos hk] at h; exact .inl ⟨hk, h⟩
  · rw [if_neg hk] at h
    simp at h
    omega
theorem word_yes (k i g : Int) (w : World) (h : mayLinkB k i g = true) : Calls Tryz.prog 60 #[.agg #[.int .i64 k, .int .i64 i, .int .i64 g]] w fun e w' => e = .returned (.tuple #[.int .u64 (refWordI k i g), .int .i64 0]) ∧ Below w.heap.size w w' := by
  rcases mayLink_cases h with ⟨rfl, ha⟩ | ⟨rfl, rfl, rfl⟩ | ⟨rfl, rfl, rfl⟩
  · exact word_alive i g w ha
  · exact word_null w
  · exact word_tomb w
theorem word_no (k i g : Int) (w : World) (h : mayLinkB k i g = false) : Calls Tryz.prog 60 #[.agg #[.int .i64 k, .int .i64 i, .int .i64 g]] w fun e w' => e = .returned (.tuple #[.int .u64 0, .int .i64 3]) ∧ Below w.heap.size w w' := by
  by_cases hk : k = 2
  · subst hk
    exact word_dead i g w h
  · refine word_other k i g w hk (fun hh => ?_) (fun hh => ?_)
    · obtain ⟨rfl, rfl, rfl⟩ := hh; cases h
    · obtain ⟨rfl, rfl, rfl⟩ := hh; cases h
theorem enc_in {l c s : Int} (h : mayB l c s = true) : 0 ≤ encH l c s ∧ encH l c s < 18446744073709551616 := by
  obtain ⟨a1, a2, a3, a4, a5, a6⟩ := mayB_iff.1 h
  unfold encH; omega
theorem refWord_in {k i g : Int} (h : mayLinkB k i g = true) : 0 ≤ refWordI k i g ∧ refWordI k i g < 18446744073709551616 := by
  rcases mayLink_cases h with ⟨rfl, ha⟩ | ⟨rfl, rfl, rfl⟩ | ⟨rfl, rfl, rfl⟩
  · obtain ⟨a1, a2, a3, a4⟩ := aliveB_iff.1 ha
    unfold refWordI; rw [if_pos rfl]; omega
  · decide
  · decide
theorem back_enc {l c s : Int} (h : mayB l c s = true) : decI (encH l c s) = (l, c, s, 0) := by
  obtain ⟨a1, a2, a3, a4, a5, a6⟩ := mayB_iff.1 h
  have e1 : encH l c s / 4294967296 % 256 = l := by unfold encH; omega
  have e2 : encH l c s / 65536 % 65536 = c := by unfold encH; omega
  have e3 : encH l c s % 65536 = s := by unfold encH; omega
  have hok : decOK (encH l c s) = true := by
    rw [decOK_iff, e1, e2, e3]
    refine ⟨?_, ?_, h⟩ <;> (unfold encH; omega)
  unfold decI
  rw [if_pos hok, e1, e2, e3]
theorem back_word {k i g : Int} (h : mayLinkB k i g = true) : linkI (refWordI k i g) = (k, i, g, 0) := by
  rcases mayLink_cases h with ⟨rfl, ha⟩ | ⟨rfl, rfl, rfl⟩ | ⟨rfl, rfl, rfl⟩
  · obtain ⟨a1, a2, a3, a4⟩ := aliveB_iff.1 ha
    have e0 : refWordI 2 i g = g * 4294967296 + i + 2 := rfl
    have e1 : (g * 4294967296 + i + 2) % 4294967296 - 2 = i := by omega
    have e2 : (g * 4294967296 + i + 2) / 4294967296 = g := by omega
    unfold linkI
    rw [e0, e1, e2, link_high _ _ _ (by omega) (by omega), if_pos ha]
  · rfl
  · rfl
theorem dec_parts {x : Int} (h0 : 0 ≤ x) (h1 : x < 18446744073709551616) : (∃ l c s, decI x = (l, c, s, 0) ∧ mayB l c s = true ∧ encH l c s = x) ∨ decI x = (0, 0, 0, 4) := by
  by_cases h : decOK x = true
  · left
    have hl := (dec_law x h0 h1).1 h
    refine ⟨_, _, _, ?_, hl.1, hl.2⟩
    unfold decI; rw [if_pos h]
  · right
    unfold decI; rw [if_neg h]
theorem link_parts {x : Int} (h0 : 0 ≤ x) (h1 : x < 18446744073709551616) : (∃ k i g, linkI x = (k, i, g, 0) ∧ mayLinkB k i g = true ∧ refWordI k i g = x) ∨ linkI x = (0, 0, 0, 4) := by
  by_cases hl : x < 2
  · left
    refine ⟨x, 0, 0, link_low x h0 hl, ?_, ?_⟩
    · rcases (show x = 0 ∨ x = 1 by omega) with h | h <;> subst h <;> rfl
    · unfold refWordI; rw [if_neg (by omega)]
  · by_cases ha : aliveB (x % 4294967296 - 2) (x / 4294967296) = true
    · left
      obtain ⟨a1, a2, a3, a4⟩ := aliveB_iff.1 ha
      refine ⟨2, x % 4294967296 - 2, x / 4294967296, ?_, ha, ?_⟩
      · unfold linkI; rw [link_high _ _ _ hl h0, if_pos ha]
      · unfold refWordI; rw [if_pos rfl]; omega
    · right
      unfold linkI; rw [link_high _ _ _ hl h0, if_neg ha]
theorem link_err (x : Int) : (linkOK x = true ∧ (linkI x).2.2.2 = 0) ∨ (linkOK x = false ∧ (linkI x).2.2.2 = 4) := by
  unfold linkOK
  have h : (linkI x).2.2.2 = 0 ∨ (linkI x).2.2.2 = 4 := by
    unfold linkI linkG
    split
    · exact .inl rfl
    · split
      · exact .inl rfl
      · split
        · exact .inl rfl
        · exact .inr rfl
  rcases h with h | h <;> rw [h] <;> simp
/-- A header's word is no link's. -/
theorem enc_link {l c s : Int} (h : mayB l c s = true) : linkI (encH l c s) = (0, 0, 0, 4) := by
  obtain ⟨a1, a2, a3, a4, a5, a6⟩ := mayB_iff.1 h
  unfold linkI
  rw [link_high _ _ _ (by unfold encH; omega) (by unfold encH; omega), if_neg (fun ha => by have := (aliveB_iff.1 ha).2.2.2; unfold encH at this; omega)]
theorem enc_inj {l c s l' c' s' : Int} (h : mayB l c s = true) (h' : mayB l' c' s' = true) (e : encH l c s = encH l' c' s') : l = l' ∧ c = c' ∧ s = s' := by
  have := back_enc h
  rw [e, back_enc h'] at this
  injection this with a b; injection b with b c; injection c with c d
  exact ⟨a.symm, b.symm, c.symm⟩
theorem word_inj {k i g k' i' g' : Int} (h : mayLinkB k i g = true) (h' : mayLinkB k' i' g' = true) (e : refWordI k i g = refWordI k' i' g') : k = k' ∧ i = i' ∧ g = g' := by
  have := back_word h
  rw [e, back_word h'] at this
  injection this with a b; injection b with b c; injection c with c d
  exact ⟨a.symm, b.symm, c.symm⟩
end Go.Proofs.YtfflacggaebonaaGreatDoor
end
section
namespace Go.Proofs.YtfflacggaebonaaGreatDoor
open Go.RowKit
set_option linter.unusedVariables false
set_option linter.unusedSimpArgs false
theorem fields_sl (w : World) : SliceOf (w.alloc (.cells #[.int .i64 0, .int .i64 16, .int .i64 16, .int .i64 16, .int .i64 32, .int .i64 8, .int .i64 40, .int .i64 16, .int .i64 56, .int .i64 8] 160)) (some ⟨w.heap.size, 0, none⟩) 2 enc2 (0, 0) fieldsL := by
  have hk := heap_alloc_new w (.cells #[.int .i64 0, .int .i64 16, .int .i64 16, .int .i64 16, .int .i64 32, .int .i64 8, .int .i64 40, .int .i64 16, .int .i64 56, .int .i64 8] 160)
  intro i hi
  refine ⟨w.heap.size, 0, rfl, fun j u hu => ?_⟩
  rw [blk_cells hk]
  have hi5 : i < 5 := hi
  rcases i with _ | _ | _ | _ | _ | i
  all_goals first | (exfalso; omega) | (rcases j with _ | _ | j <;> first | exact hu | (simp [enc2, fieldsL] at hu))
theorem slice_at {k : IntKind} {w : World} {A : Option Addr} {l : List Int} (h : SliceOf w A 1 (enc1 k) 0 l) (hl : 0 < l.length) : ∃ b o, A = some ⟨b, o, none⟩ ∧ ∀ i, i < l.length → w.cell? ⟨b, o + i, none⟩ = some (.int k (l.getD i 0)) := by
  obtain ⟨b, o, e, _⟩ := h 0 hl
  refine ⟨b, o, e, fun i hi => ?_⟩
  obtain ⟨b2, o2, e2, h2⟩ := h i hi
  rw [e] at e2
  injection e2 with e2
  injection e2 with e2 e3
  subst e2
  subst e3
  have := h2 0 _ rfl
  rwa [Nat.mul_one, Nat.add_zero] at this
set_option maxRecDepth 100000 in
set_option maxHeartbeats 1000000 in
theorem decode_any (w : Int) (W : World) (h0 : 0 ≤ w) (h1 : w < 18446744073709551616) :
    Calls Tryz.prog 66 #[.int .u64 w] W fun e w' => e = .returned (.tuple #[.agg #[.int .i64 (decI w).1, .int .i64 (decI w).2.1, .int .i64 (decI w).2.2.1], .int .i64 (decI w).2.2.2]) ∧ Below W.heap.size W w' := by
  obtain ⟨n, rfl⟩ := Int.eq_ofNat_of_zero_le h0
  have hn : n < 18446744073709551616 := by omega
  have hiff := decOK_iff (w := (n : Int))
  have hdec : decI (n : Int) = if decOK (n : Int) = true then ((n : Int) / 4294967296 % 256, (n : Int) / 65536 % 65536, (n : Int) % 65536, 0) else (0, 0, 0, 4) := by rw [decI]
  obtain ⟨z0, hz0⟩ : ∃ z, z = n % 65536 := ⟨_, rfl⟩
  obtain ⟨z1, hz1⟩ : ∃ z, z = n / 65536 % 65536 := ⟨_, rfl⟩
  obtain ⟨z2, hz2⟩ : ∃ z, z = n / 4294967296 % 256 := ⟨_, rfl⟩
  obtain ⟨z3, hz3⟩ : ∃ z, z = n / 1099511627776 % 65536 := ⟨_, rfl⟩
  obtain ⟨z4, hz4⟩ : ∃ z, z = n / 72057594037927936 % 256 := ⟨_, rfl⟩
  have hu := unpack_header n hn
  rw [← hz0, ← hz1, ← hz2, ← hz3, ← hz4] at hu
  have HU : Hid (∀ Y, Calls Tryz.prog 84 #[.int .u64 n, .slice (some ⟨Y.heap.size, 0, none⟩) 5 5] (Y.alloc (.cells #[.int .i64 0, .int .i64 16, .int .i64 16, .int .i64 16, .int .i64 32, .int .i64 8, .int .i64 40, .int .i64 16, .int .i64 56, .int .i64 8] 160)) fun e w' => ∃ b o c, e = .returned (.tuple #[.slice (some ⟨b, o, none⟩) 5 c, .int .i64 0]) ∧ (w'.cell? ⟨b, o, none⟩ = some (.int .u64 (z0 : Int)) ∧ w'.cell? ⟨b, o + 1, none⟩ = some (.int .u64 (z1 : Int)) ∧ w'.cell? ⟨b, o + 2, none⟩ = some (.int .u64 (z2 : Int)) ∧ w'.cell? ⟨b, o + 3, none⟩ = some (.int .u64 (z3 : Int)) ∧ w'.cell? ⟨b, o + 4, none⟩ = some (.int .u64 (z4 : Int))) ∧ Below Y.heap.size Y w') := Lib.hid (fun Y => by
    refine (unpack_any (n : Int) _ 5 fieldsL _ (fields_sl Y) (by decide) (by decide)).mono ?_
    rintro e w' ⟨A, c, he, hc, hC, hb⟩
    rw [hu] at he hc hC
    obtain ⟨b, o, rfl, hcell⟩ := slice_at (slice_of_C hC) (by simp)
    exact ⟨b, o, c, he, ⟨hcell 0 (by simp), hcell 1 (by simp), hcell 2 (by simp), hcell 3 (by simp), hcell 4 (by simp)⟩, (below1 _ _).on hb⟩)
  clear hu
  have b0 : z0 < 65536 := by omega
  have b1 : z1 < 65536 := by omega
  have b2 : z2 < 256 := by omega
  rw [show (n : Int) / 4294967296 % 256 = (z2 : Int) by omega, show (n : Int) / 65536 % 65536 = (z1 : Int) by omega, show (n : Int) % 65536 = (z0 : Int) by omega] at hiff hdec
  rw [show (n : Int) / 1099511627776 % 65536 = (z3 : Int) by omega, show (n : Int) / 72057594037927936 % 256 = (z4 : Int) by omega] at hiff
  have HIFF := Lib.hid hiff
  have HDEC := Lib.hid hdec
  have w0 : IntKind.i64.wrap (z0 : Int) = (z0 : Int) := by rw [IntKind.wrap_i64]; omega
  have w1 : IntKind.i64.wrap (z1 : Int) = (z1 : Int) := by rw [IntKind.wrap_i64]; omega
  have w2 : IntKind.i64.wrap (z2 : Int) = (z2 : Int) := by rw [IntKind.wrap_i64]; omega
  have hb0 := below1 W (.cells #[.int .i64 0, .int .i64 0, .int .i64 0] 32)
  have hk0 := heap_alloc_new W (.cells #[.int .i64 0, .int .i64 0, .int .i64 0] 32)
  have HB0 := Lib.hid hb0
  have HK0 := Lib.hid hk0
  clear hz0 hz1 hz2 hz3 hz4 hiff hdec h0 h1 hn hb0 hk0
  have hu1 := HU.out (W.alloc (.cells #[.int .i64 0, .int .i64 0, .int .i64 0] 32))
  rw [World.size_alloc] at hu1
  have HU1 := Lib.hid hu1
  clear hu1 HU
  go_enter Tryz.func66, Tryz.ntmps66
  go_wp2_with fail
  refine (fields_any _).mono ?_
  rintro e x1 ⟨rfl, rfl⟩
  go_wp2_with fail
  refine HU1.out.mono ?_
  rintro e x2 ⟨b, o, c, rfl, ⟨c0, c1, c2, c3, c4⟩, hb2⟩
  have HK2 := Lib.hid ((hb2.block _ (by omega)).trans HK0.out)
  have HB2 := Lib.hid (HB0.out.on (by rw [World.size_alloc]; exact hb2))
  clear hb2 HU1
  have hbz := below1 x2 (.cells #[.int .i64 0, .int .i64 0, .int .i64 0] 32)
  have y0 := cell_on hbz c0
  have y1 := cell_on hbz c1
  have y2 := cell_on hbz c2
  have y3 := cell_on hbz c3
  have y4 := cell_on hbz c4
  have nb : ¬ b = x2.heap.size := by have h : b < x2.heap.size := lt_of_cell c0; omega
  have nb2 : ¬ x2.heap.size = b := fun e => nb e.symm
  clear hbz
  go_wp2_with fail
  go_region_held3 (fun wk => (wk.cell? ⟨b, o, none⟩ = some (.int .u64 z0) ∧ wk.cell? ⟨b, o + 1, none⟩ = some (.int .u64 z1) ∧ wk.cell? ⟨b, o + 2, none⟩ = some (.int .u64 z2) ∧ wk.cell? ⟨b, o + 3, none⟩ = some (.int .u64 z3) ∧ wk.cell? ⟨b, o + 4, none⟩ = some (.int .u64 z4)) ∧ Below x2.heap.size x2 wk) (first | exact kp5_drew ⟨⟨c0, c1, c2, c3, c4⟩, Below.refl _ _⟩ | exact kp5_alloc _ (by assumption) | exact kp5_drew (kp5_alloc _ ⟨⟨c0, c1, c2, c3, c4⟩, Below.refl _ _⟩) | exact kp5_alloc _ (kp5_drew ⟨⟨c0, c1, c2, c3, c4⟩, Below.refl _ _⟩)) (fail)
  have hxb := Below.drew (below1 x2 (.cells #[.int .i64 z2, .int .i64 z1, .int .i64 z0] 32))
  have hx3 := cell_on hxb c3
  have hx4 := cell_on hxb c4
  have hkr := ((below1 x2 (.cells #[.int .i64 z2, .int .i64 z1, .int .i64 z0] 32)).block _ (block_lt HK2.out)).trans HK2.out
  have q0 := (blk_cells hkr 0).trans rfl
  have q1 := (blk_cells hkr 1).trans rfl
  have q2 := (blk_cells hkr 2).trans rfl
  have t0 := blk_thaw hkr 0
  have t1 := blk_thaw hkr 1
  have t2 := blk_thaw hkr 2
  have HXB := Lib.hid (HB2.out.on hxb)
  clear hxb y0 y1 y2 y3 y4 hkr
  by_cases e3 : z3 = 0
  · have f3 : ((z3 : Int) != 0) = false := by simp [e3]
    by_cases e4 : z4 = 165
    · have f4 : ((z4 : Int) != 165) = false := by simp [e4]
      have hkh := heap_alloc_new x2 (.cells #[.int .i64 z2, .int .i64 z1, .int .i64 z0] 32)
      have HKH := Lib.hid hkh
      have HKR := Lib.hid (((below1 x2 (.cells #[.int .i64 z2, .int .i64 z1, .int .i64 z0] 32)).block _ (block_lt HK2.out)).trans HK2.out)
      have hnx : ¬ W.heap.size = x2.heap.size := by have := block_lt HK2.out; omega
      clear hkh
      go_wp2_with fail
      refine (may_any (z2 : Int) (z1 : Int) (z0 : Int) _).mono ?_
      rintro e x4 ⟨rfl, hb4⟩
      have kh := (hb4.block _ (block_lt HKH.out)).trans HKH.out
      have kr := (hb4.block _ (block_lt HKR.out)).trans HKR.out
      have g0 := (blk_cells kh 0).trans rfl
      have g1 := (blk_cells kh 1).trans rfl
      have g2 := (blk_cells kh 2).trans rfl
      have s0 := (blk_cells kr 0).trans rfl
      have s1 := (blk_cells kr 1).trans rfl
      have s2 := (blk_cells kr 2).trans rfl
      have v0 := blk_thaw kr 0
      have v1 := blk_thaw kr 1
      have v2 := blk_thaw kr 2
      have HXC := Lib.hid (HXB.out.on hb4)
      clear hb4 kh kr q0 q1 q2 t0 t1 t2
      by_cases hm : mayB (z2 : Int) (z1 : Int) (z0 : Int) = true
      · have HD : Hid (decI (n : Int) = ((z2 : Int), (z1 : Int), (z0 : Int), 0)) := Lib.hid (by rw [HDEC.out, if_pos (HIFF.out.2 ⟨by omega, by omega, hm⟩)])
        rw [hm]
        clear hm e3 e4
        go_wp2
        refine bodyPost_ret (v := .tuple #[.agg #[.int .i64 z2, .int .i64 z1, .int .i64 z0], .int .i64 0]) ?_ rfl ⟨by rw [HD.out], ((HXC.out.setCell (p := ⟨W.heap.size, 0, none⟩) (Nat.le_refl _) _).setCell (p := ⟨W.heap.size, 1, none⟩) (Nat.le_refl _) _).setCell (p := ⟨W.heap.size, 2, none⟩) (Nat.le_refl _) _⟩
        rw [results_cell_tmp rfl]
        go_simp
        try rfl
      · have HD : Hid (decI (n : Int) = (0, 0, 0, 4)) := Lib.hid (by rw [HDEC.out, if_neg (fun h => hm (HIFF.out.1 h).2.2)])
        rw [Bool.not_eq_true] at hm
        rw [hm]
        clear hm e3 e4
        go_wp2
        refine bodyPost_ret (v := .tuple #[.agg #[.int .i64 0, .int .i64 0, .int .i64 0], .int .i64 4]) ?_ rfl ⟨by rw [HD.out], ((HXC.out.setCell (p := ⟨W.heap.size, 0, none⟩) (Nat.le_refl _) _).setCell (p := ⟨W.heap.size, 1, none⟩) (Nat.le_refl _) _).setCell (p := ⟨W.heap.size, 2, none⟩) (Nat.le_refl _) _⟩
        rw [results_cell_tmp rfl]
        go_simp
        try rfl
    · have f4 : ((z4 : Int) != 165) = true := by simp; omega
      have HD : Hid (decI (n : Int) = (0, 0, 0, 4)) := Lib.hid (by rw [HDEC.out, if_neg (fun h => by have := (HIFF.out.1 h).2.1; omega)])
      clear e3 e4
      go_wp2
      refine bodyPost_ret (v := .tuple #[.agg #[.int .i64 0, .int .i64 0, .int .i64 0], .int .i64 4]) ?_ rfl ⟨by rw [HD.out], ((HXB.out.setCell (p := ⟨W.heap.size, 0, none⟩) (Nat.le_refl _) _).setCell (p := ⟨W.heap.size, 1, none⟩) (Nat.le_refl _) _).setCell (p := ⟨W.heap.size, 2, none⟩) (Nat.le_refl _) _⟩
      rw [results_cell_tmp rfl]
      go_simp
      try rfl
  · have f3 : ((z3 : Int) != 0) = true := by simp; omega
    have HD : Hid (decI (n : Int) = (0, 0, 0, 4)) := Lib.hid (by rw [HDEC.out, if_neg (fun h => by have := (HIFF.out.1 h).1; omega)])
    clear e3
    go_wp2
    refine bodyPost_ret (v := .tuple #[.agg #[.int .i64 0, .int .i64 0, .int .i64 0], .int .i64 4]) ?_ rfl ⟨by rw [HD.out], ((HXB.out.setCell (p := ⟨W.heap.size, 0, none⟩) (Nat.le_refl _) _).setCell (p := ⟨W.heap.size, 1, none⟩) (Nat.le_refl _) _).setCell (p := ⟨W.heap.size, 2, none⟩) (Nat.le_refl _) _⟩
    rw [results_cell_tmp rfl]
    go_simp
    try rfl
end Go.Proofs.YtfflacggaebonaaGreatDoor
end
section
namespace Go.Proofs.YtfflacggaebonaaGreatDoor
open Go.RowKit
set_option linter.unusedVariables false
set_option linter.unusedSimpArgs false
theorem links_sl (w : World) : SliceOf (w.alloc (.cells #[.int .i64 0, .int .i64 32, .int .i64 32, .int .i64 32] 160)) (some ⟨w.heap.size, 0, none⟩) 2 enc2 (0, 0) linksL := by
  have hk := heap_alloc_new w (.cells #[.int .i64 0, .int .i64 32, .int .i64 32, .int .i64 32] 160)
  intro i hi
  refine ⟨w.heap.size, 0, rfl, fun j u hu => ?_⟩
  rw [blk_cells hk]
  have hi5 : i < 2 := hi
  rcases i with _ | _ | i
  all_goals first | (exfalso; omega) | (rcases j with _ | _ | j <;> first | exact hu | (simp [enc2, linksL] at hu))
set_option maxRecDepth 100000 in
set_option maxHeartbeats 1000000 in
theorem link_any (w : Int) (W : World) (h0 : 0 ≤ w) (h1 : w < 18446744073709551616) :
    Calls Tryz.prog 76 #[.int .u64 w] W fun e w' => e = .returned (.tuple #[.agg #[.int .i64 (linkI w).1, .int .i64 (linkI w).2.1, .int .i64 (linkI w).2.2.1], .int .i64 (linkI w).2.2.2]) ∧ Below W.heap.size W w' := by
  obtain ⟨n, rfl⟩ := Int.eq_ofNat_of_zero_le h0
  have hn : n < 18446744073709551616 := by omega
  obtain ⟨z0, hz0⟩ : ∃ z, z = n % 4294967296 := ⟨_, rfl⟩
  obtain ⟨z1, hz1⟩ : ∃ z, z = n / 4294967296 := ⟨_, rfl⟩
  have hu := unpack_link n hn
  rw [← hz0, ← hz1] at hu
  have HU : Hid (∀ Y, Calls Tryz.prog 84 #[.int .u64 n, .slice (some ⟨Y.heap.size, 0, none⟩) 2 2] (Y.alloc (.cells #[.int .i64 0, .int .i64 32, .int .i64 32, .int .i64 32] 160)) fun e w' => ∃ b o c, e = .returned (.tuple #[.slice (some ⟨b, o, none⟩) 2 c, .int .i64 0]) ∧ (w'.cell? ⟨b, o, none⟩ = some (.int .u64 (z0 : Int)) ∧ w'.cell? ⟨b, o + 1, none⟩ = some (.int .u64 (z1 : Int))) ∧ Below Y.heap.size Y w') := Lib.hid (fun Y => by
    refine (unpack_any (n : Int) _ 2 linksL _ (links_sl Y) (by decide) (by decide)).mono ?_
    rintro e w' ⟨A, c, he, hc, hC, hb⟩
    rw [hu] at he hc hC
    obtain ⟨b, o, rfl, hcell⟩ := slice_at (slice_of_C hC) (by simp)
    exact ⟨b, o, c, he, ⟨hcell 0 (by simp), hcell 1 (by simp)⟩, (below1 _ _).on hb⟩)
  clear hu
  have hdec : linkI (n : Int) = linkG (n : Int) ((n : Int) % 4294967296 - 2) ((n : Int) / 4294967296) := by rw [linkI]
  have b0 : z0 < 4294967296 := by omega
  have b1 : z1 < 4294967296 := by omega
  rw [show (n : Int) % 4294967296 = (z0 : Int) by omega, show (n : Int) / 4294967296 = (z1 : Int) by omega] at hdec
  have HDEC := Lib.hid hdec
  have w0 : IntKind.i64.wrap (z0 : Int) = (z0 : Int) := by rw [IntKind.wrap_i64]; omega
  have w1 : IntKind.i64.wrap (z1 : Int) = (z1 : Int) := by rw [IntKind.wrap_i64]; omega
  have w2 : IntKind.i64.wrap ((z0 : Int) - 2) = (z0 : Int) - 2 := by rw [IntKind.wrap_i64]; omega
  have hb0 := below1 W (.cells #[.int .i64 0, .int .i64 0, .int .i64 0] 37)
  have hk0 := heap_alloc_new W (.cells #[.int .i64 0, .int .i64 0, .int .i64 0] 37)
  have r0 := (blk_cells hk0 0).trans rfl
  have r1 := (blk_cells hk0 1).trans rfl
  have r2 := (blk_cells hk0 2).trans rfl
  have HB0 := Lib.hid hb0
  have HK0 := Lib.hid hk0
  have hu1 := HU.out (W.alloc (.cells #[.int .i64 0, .int .i64 0, .int .i64 0] 37))
  rw [World.size_alloc] at hu1
  have HU1 := Lib.hid hu1
  clear hz0 hz1 hdec h0 h1 hn hb0 hk0 hu1 HU
  by_cases e0 : n = 0
  · subst e0
    have HD : Hid (linkI ((0 : Nat) : Int) = (0, 0, 0, 0)) := Lib.hid (by rw [HDEC.out]; rfl)
    clear HDEC
    go_enter Tryz.func76, Tryz.ntmps76
    go_wp2
    refine bodyPost_ret (v := .tuple #[.agg #[.int .i64 0, .int .i64 0, .int .i64 0], .int .i64 0]) ?_ rfl ⟨by rw [HD.out], below1 _ _⟩
    rw [results_cell_tmp rfl]
    go_simp
    try rfl
  · by_cases e1 : n = 1
    · subst e1
      have HD : Hid (linkI ((1 : Nat) : Int) = (1, 0, 0, 0)) := Lib.hid (by rw [HDEC.out]; rfl)
      clear HDEC e0
      go_enter Tryz.func76, Tryz.ntmps76
      go_wp2
      refine bodyPost_ret (v := .tuple #[.agg #[.int .i64 1, .int .i64 0, .int .i64 0], .int .i64 0]) ?_ rfl ⟨by rw [HD.out], below1 _ _⟩
      rw [results_cell_tmp rfl]
      go_simp
      try rfl
    · have f0 : ((n : Int) == 0) = false := by simp; omega
      have f1 : ((n : Int) == 1) = false := by simp; omega
      have HLG : Hid (linkI (n : Int) = if aliveB ((z0 : Int) - 2) (z1 : Int) = true then (2, (z0 : Int) - 2, (z1 : Int), 0) else (0, 0, 0, 4)) := Lib.hid (by
        rw [HDEC.out]; unfold linkG
        rw [if_neg (by omega), if_neg (by omega)])
      clear HDEC e0 e1 r0 r1 r2
      go_enter Tryz.func76, Tryz.ntmps76
      go_wp2_with fail
      refine (links_any _).mono ?_
      rintro e x1 ⟨rfl, rfl⟩
      go_wp2_with fail
      refine HU1.out.mono ?_
      rintro e x2 ⟨b, o, c, rfl, ⟨c0, c1⟩, hb2⟩
      have HK2 := Lib.hid ((hb2.block _ (by omega)).trans HK0.out)
      have HB2 := Lib.hid (HB0.out.on (by rw [World.size_alloc]; exact hb2))
      have nb : ¬ b = x2.heap.size := by have h : b < x2.heap.size := lt_of_cell c0; omega
      have nb2 : ¬ x2.heap.size = b := fun e => nb e.symm
      clear hb2 HU1
      go_wp2_with fail
      go_region_held3 (fun wk => (wk.cell? ⟨b, o, none⟩ = some (.int .u64 z0) ∧ wk.cell? ⟨b, o + 1, none⟩ = some (.int .u64 z1)) ∧ Below x2.heap.size x2 wk) (first | exact kp2_drew ⟨⟨c0, c1⟩, Below.refl _ _⟩ | exact kp2_alloc _ (by assumption) | exact kp2_drew (kp2_alloc _ ⟨⟨c0, c1⟩, Below.refl _ _⟩) | exact kp2_alloc _ (kp2_drew ⟨⟨c0, c1⟩, Below.refl _ _⟩)) (fail)
      have HKH := Lib.hid (heap_alloc_new x2 (.cells #[.int .i64 ((z0 : Int) - 2), .int .i64 z1] 35))
      have HKR := Lib.hid (((below1 x2 (.cells #[.int .i64 ((z0 : Int) - 2), .int .i64 z1] 35)).block _ (block_lt HK2.out)).trans HK2.out)
      have HXB := Lib.hid (HB2.out.on (Below.drew (below1 x2 (.cells #[.int .i64 ((z0 : Int) - 2), .int .i64 z1] 35))))
      go_wp2_with fail
      refine (alive5_any ((z0 : Int) - 2) (z1 : Int) _).mono ?_
      rintro e x4 ⟨rfl, hb4⟩
      have kh := (hb4.block _ (block_lt HKH.out)).trans HKH.out
      have kr := (hb4.block _ (block_lt HKR.out)).trans HKR.out
      have g0 := (blk_cells kh 0).trans rfl
      have g1 := (blk_cells kh 1).trans rfl
      have s0 := (blk_cells kr 0).trans rfl
      have s1 := (blk_cells kr 1).trans rfl
      have s2 := (blk_cells kr 2).trans rfl
      have v0 := blk_thaw kr 0
      have v1 := blk_thaw kr 1
      have v2 := blk_thaw kr 2
      have HXC := Lib.hid (HXB.out.on hb4)
      clear hb4 kh kr
      by_cases hm : aliveB ((z0 : Int) - 2) (z1 : Int) = true
      · have HD := Lib.hid (HLG.out.trans (if_pos hm))
        rw [hm]
        clear hm HLG
        go_wp2
        refine bodyPost_ret (v := .tuple #[.agg #[.int .i64 2, .int .i64 ((z0 : Int) - 2), .int .i64 z1], .int .i64 0]) ?_ rfl ⟨by rw [HD.out], ((HXC.out.setCell (p := ⟨W.heap.size, 0, none⟩) (Nat.le_refl _) _).setCell (p := ⟨W.heap.size, 1, none⟩) (Nat.le_refl _) _).setCell (p := ⟨W.heap.size, 2, none⟩) (Nat.le_refl _) _⟩
        rw [results_cell_tmp rfl]
        go_simp
        try rfl
      · have HD := Lib.hid (HLG.out.trans (if_neg hm))
        rw [Bool.not_eq_true] at hm
        rw [hm]
        clear hm HLG
        go_wp2
        refine bodyPost_ret (v := .tuple #[.agg #[.int .i64 0, .int .i64 0, .int .i64 0], .int .i64 4]) ?_ rfl ⟨by rw [HD.out], ((HXC.out.setCell (p := ⟨W.heap.size, 0, none⟩) (Nat.le_refl _) _).setCell (p := ⟨W.heap.size, 1, none⟩) (Nat.le_refl _) _).setCell (p := ⟨W.heap.size, 2, none⟩) (Nat.le_refl _) _⟩
        rw [results_cell_tmp rfl]
        go_simp
        try rfl
end Go.Proofs.YtfflacggaebonaaGreatDoor
end
