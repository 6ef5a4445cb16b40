/- The plain words of the package field: what it computes, in numbers. No program. -/
import Derived.Laws.BitsAllLaws
import Derived.Lib.BitFns
namespace Go.Proofs.Ytcffenekomiakaa
set_option linter.unusedVariables false

def rightB (a n : Int) : Bool := decide (0 ≤ a) && (decide (a < 64) && (decide (0 < n) && decide (n ≤ 64 - a)))
theorem rightB_iff {a n : Int} : rightB a n = true ↔ 0 ≤ a ∧ a < 64 ∧ 0 < n ∧ n ≤ 64 - a := by simp [rightB]
def maskI (a n : Int) : Int := IntKind.u64.wrap (18446744073709551615 / 2 ^ (64 - n).toNat * 2 ^ a.toNat)
def getI (x a n : Int) : Int := bits .and .u64 x (maskI a n) / 2 ^ a.toNat
def putI (w a n x : Int) : Int := bits .or .u64 (bits .andNot .u64 w (maskI a n)) (IntKind.u64.wrap (x * 2 ^ a.toNat))
def len64 (y : Int) : Int := ((Lib.bitLen y.toNat : Nat) : Int)
def apGo (m : Int) : List (Int × Int) → Bool
  | [] => true
  | (a, n) :: t => if rightB a n = true then (if bits .and .u64 m (maskI a n) = 0 then apGo (bits .or .u64 m (maskI a n)) t else false) else false
def packGo (w : Int) : List (Int × Int) → List Int → Int × Int
  | (a, n) :: t, x :: xs => if n < len64 x then (0, 3) else packGo (putI w a n x) t xs
  | _, _ => (w, 0)
def packI (l : List (Int × Int)) (x : List Int) : Int × Int := if l.length = x.length then (if apGo 0 l = true then packGo 0 l x else (0, 2)) else (0, 2)
theorem apGo_right : ∀ (l : List (Int × Int)) (m : Int), apGo m l = true → ∀ k, k < l.length → rightB (l.getD k (0, 0)).1 (l.getD k (0, 0)).2 = true
  | [], _, _, k, hk => by simp at hk
  | (a, n) :: t, m, h, k, hk => by
    simp only [apGo] at h
    split at h
    · split at h
      · cases k with
        | zero => simpa
        | succ k => simpa using apGo_right t _ h k (by simpa using hk)
      · cases h
    · cases h

/-! numbers -/
theorem mask_nat (a n : Nat) (h : 0 < n) (h' : a + n ≤ 64) : maskI a n = (((2 ^ n - 1) * 2 ^ a : Nat) : Int) := by
  unfold maskI
  rw [show ((64 : Int) - (n : Int)).toNat = 64 - n by omega, Int.toNat_natCast]
  have h1 : (18446744073709551615 : Int) / 2 ^ (64 - n) = ((2 ^ n - 1 : Nat) : Int) := by
    have e : (2 : Nat) ^ 64 = 2 ^ (64 - n) * 2 ^ n := by rw [← Nat.pow_add]; congr 1; omega
    have p : 0 < 2 ^ (64 - n) := Nat.two_pow_pos _
    have q : 0 < 2 ^ n := Nat.two_pow_pos _
    have hd : (2 ^ 64 - 1) / 2 ^ (64 - n) = 2 ^ n - 1 := by
      rw [e]
      rw [Nat.div_eq_iff p]
      constructor
      · rw [Nat.sub_mul, Nat.one_mul, Nat.mul_comm]
        omega
      · rw [Nat.sub_mul, Nat.one_mul, Nat.mul_comm]
        have : 2 ^ (64 - n) ≤ 2 ^ (64 - n) * 2 ^ n := Nat.le_mul_of_pos_right _ q
        omega
    have : ((18446744073709551615 : Nat) : Int) / ((2 ^ (64 - n) : Nat) : Int) = ((2 ^ n - 1 : Nat) : Int) := by
      rw [← Int.natCast_ediv, ← hd]
    simpa using this
  rw [h1]
  have h2 : (2 ^ n - 1) * 2 ^ a < 2 ^ 64 := by
    have : 2 ^ n * 2 ^ a ≤ 2 ^ 64 := by rw [← Nat.pow_add]; exact Nat.pow_le_pow_right (by decide) (by omega)
    have q : 0 < 2 ^ n := Nat.two_pow_pos _
    have p : 0 < 2 ^ a := Nat.two_pow_pos _
    rw [Nat.sub_mul]
    have : 2 ^ a ≤ 2 ^ n * 2 ^ a := Nat.le_mul_of_pos_left _ q
    omega
  have e : ((2 ^ n - 1 : Nat) : Int) * 2 ^ a = (((2 ^ n - 1) * 2 ^ a : Nat) : Int) := by simp
  rw [e, IntKind.wrap_u64]
  omega
def maskN (a n : Nat) : Nat := (2 ^ n - 1) * 2 ^ a
theorem maskN_bit (a n i : Nat) : (maskN a n).testBit i = (decide (a ≤ i) && decide (i < a + n)) := by
  unfold maskN
  rw [Nat.mul_comm, Nat.testBit_two_pow_mul, Nat.testBit_two_pow_sub_one]
  by_cases h : a ≤ i
  · simp [h]; omega
  · simp [h]
theorem maskN_lt (a n : Nat) (h' : a + n ≤ 64) : maskN a n < 2 ^ 64 := by
  apply Nat.lt_pow_two_of_testBit
  intro i hi
  rw [maskN_bit]
  simp; omega
theorem maskI_nat (a n : Nat) (h : 0 < n) (h' : a + n ≤ 64) : maskI a n = (maskN a n : Int) := mask_nat a n h h'
/-- What a field has, in bits. -/
def getN (x a n : Nat) : Nat := (x &&& maskN a n) / 2 ^ a
theorem getN_bit (x a n i : Nat) : (getN x a n).testBit i = (decide (i < n) && x.testBit (a + i)) := by
  unfold getN
  rw [Nat.testBit_div_two_pow, Nat.testBit_and, maskN_bit, Nat.add_comm i a]
  by_cases h : i < n
  · simp [h]
  · simp [h]
theorem getI_nat (x a n : Nat) (hx : x < 2 ^ 64) (h : 0 < n) (h' : a + n ≤ 64) : getI x a n = (getN x a n : Int) := by
  unfold getI getN
  have hm := maskN_lt a n h'
  rw [maskI_nat a n h h', u64_and _ _ (by omega) (by omega) (by omega) (by omega)]
  simp
theorem getN_lt (x a n : Nat) : getN x a n < 2 ^ n := by
  apply Nat.lt_pow_two_of_testBit
  intro i hi
  rw [getN_bit]; simp; omega
/-- A word with another number at a field, in bits. -/
def putN (w a n x : Nat) : Nat := (w &&& (2 ^ 64 - 1 - maskN a n)) ||| (x * 2 ^ a % 2 ^ 64)
theorem putN_bit (w a n x i : Nat) (h' : a + n ≤ 64) (hx : x < 2 ^ n) (hw : w < 2 ^ 64) : (putN w a n x).testBit i = if a ≤ i ∧ i < a + n then x.testBit (i - a) else w.testBit i := by
  unfold putN
  have hm := maskN_lt a n h'
  have hlt : x * 2 ^ a < 2 ^ 64 := by
    have : x * 2 ^ a < 2 ^ n * 2 ^ a := Nat.mul_lt_mul_of_pos_right hx (Nat.two_pow_pos _)
    have : 2 ^ n * 2 ^ a ≤ 2 ^ 64 := by rw [← Nat.pow_add]; exact Nat.pow_le_pow_right (by decide) (by omega)
    omega
  rw [Nat.mod_eq_of_lt hlt, Nat.testBit_or, Nat.testBit_and, Nat.mul_comm x, Nat.testBit_two_pow_mul, Nat.sub_right_comm, show 2 ^ 64 - maskN a n - 1 = 2 ^ 64 - (maskN a n + 1) by omega, Nat.testBit_two_pow_sub_succ hm, maskN_bit]
  by_cases hi : i < 64
  · by_cases h1 : a ≤ i
    · by_cases h2 : i < a + n
      · simp [h1, h2, hi]
      · have : x.testBit (i - a) = false := Nat.testBit_lt_two_pow (Nat.lt_of_lt_of_le hx (Nat.pow_le_pow_right (by decide) (by omega)))
        simp [h1, h2, hi, this]
    · simp [h1, hi]
  · have w0 : w.testBit i = false := Nat.testBit_lt_two_pow (Nat.lt_of_lt_of_le hw (Nat.pow_le_pow_right (by decide) (by omega)))
    have x0 : x.testBit (i - a) = false := Nat.testBit_lt_two_pow (Nat.lt_of_lt_of_le hx (Nat.pow_le_pow_right (by decide) (by omega)))
    simp [hi, w0, x0]
theorem putN_lt (w a n x : Nat) (h' : a + n ≤ 64) (hx : x < 2 ^ n) (hw : w < 2 ^ 64) : putN w a n x < 2 ^ 64 := by
  apply Nat.lt_pow_two_of_testBit
  intro i hi
  rw [putN_bit w a n x i h' hx hw]
  rw [if_neg (by omega)]
  exact Nat.testBit_lt_two_pow (Nat.lt_of_lt_of_le hw (Nat.pow_le_pow_right (by decide) (by omega)))
theorem putI_nat (w a n x : Nat) (hw : w < 2 ^ 64) (h : 0 < n) (h' : a + n ≤ 64) (hx : x < 2 ^ n) : putI w a n x = (putN w a n x : Int) := by
  unfold putI putN
  have hm := maskN_lt a n h'
  have e : IntKind.u64.wrap ((x : Int) * 2 ^ ((a : Int).toNat)) = ((x * 2 ^ a % 2 ^ 64 : Nat) : Int) := by
    rw [IntKind.wrap_u64]; simp
  have hl : x * 2 ^ a % 2 ^ 64 < 2 ^ 64 := Nat.mod_lt _ (by decide)
  have hl2 : w &&& (18446744073709551615 - maskN a n) < 2 ^ 64 := Nat.and_lt_two_pow _ (by omega)
  rw [maskI_nat a n h h', e, u64_andNot _ _ (by omega) (by omega) (by omega) (by omega), u64_or _ _ (by omega) (by simp only [Int.toNat_natCast]; omega) (by omega) (by omega)]
  simp only [Int.toNat_natCast]
theorem bitLen_gt (x n : Nat) (hx : x < 2 ^ 64) (h : 2 ^ n ≤ x) : n < Lib.bitLen x := by
  rw [Lib.bitLen_shift n x h hx]
  have h1 : 0 < x / 2 ^ n := Nat.div_pos h (Nat.two_pow_pos _)
  have : 0 < Lib.bitLen (x / 2 ^ n) := by
    unfold Lib.bitLen; simp only [Lib.bitLenAux]; rw [if_neg (by omega)]; omega
  omega
theorem len64_le (x n : Nat) (hx : x < 2 ^ 64) (hn : n ≤ 64) : len64 x ≤ n ↔ x < 2 ^ n := by
  unfold len64
  rw [Int.toNat_natCast]
  constructor
  · intro h
    rcases Nat.lt_or_ge x (2 ^ n) with g | g
    · exact g
    · rcases Nat.lt_or_ge n 64 with g' | g'
      · have := bitLen_gt x n hx g; omega
      · obtain rfl : n = 64 := by omega
        exact hx
  · intro h
    have := Lib.bitLen_le x n hn h
    omega
/-- Of how many fields a bit is one. -/
def cnt (b : Int) : List (Int × Int) → Nat
  | [] => 0
  | (a, n) :: t => (if a ≤ b ∧ b < a + n then 1 else 0) + cnt b t
theorem and_zero_iff (x y : Nat) : x &&& y = 0 ↔ ∀ i, (x.testBit i && y.testBit i) = false := by
  constructor
  · intro h i; rw [← Nat.testBit_and, h]; simp
  · intro h; apply Nat.eq_of_testBit_eq; intro i; rw [Nat.testBit_and, h i]; simp
theorem apGo_iff : ∀ (l : List (Int × Int)) (m : Nat), m < 2 ^ 64 → (apGo m l = true ↔ (∀ f ∈ l, rightB f.1 f.2 = true) ∧ ∀ b : Nat, b < 64 → (m.testBit b).toNat + cnt b l ≤ 1)
  | [], m, hm => by simp [apGo, cnt, Bool.toNat_le]
  | (a, n) :: t, m, hm => by
    simp only [apGo]
    by_cases hr : rightB a n = true
    · obtain ⟨h0, h1, h2, h3⟩ := rightB_iff.1 hr
      obtain ⟨a, rfl⟩ := Int.eq_ofNat_of_zero_le h0
      obtain ⟨n, rfl⟩ := Int.eq_ofNat_of_zero_le (Int.le_of_lt h2)
      have hk := maskN_lt a n (by omega)
      have hor : m ||| maskN a n < 2 ^ 64 := Nat.or_lt_two_pow hm hk
      rw [if_pos hr, maskI_nat a n (by omega) (by omega), u64_and _ _ (by omega) (by omega) (by omega) (by omega), u64_or _ _ (by omega) (by omega) (by omega) (by omega)]
      simp only [Int.toNat_natCast]
      have ih := apGo_iff t (m ||| maskN a n) hor
      by_cases hz : m &&& maskN a n = 0
      · rw [if_pos (by simpa using hz), ih]
        have hz' := (and_zero_iff _ _).1 hz
        constructor
        · rintro ⟨g1, g2⟩
          refine ⟨by simpa using ⟨hr, fun a b h => g1 (a, b) h⟩, fun b hb => ?_⟩
          have := g2 b hb
          have hzb := hz' b
          rw [Nat.testBit_or, maskN_bit] at this
          rw [maskN_bit] at hzb
          simp only [cnt]
          by_cases hin : a ≤ b ∧ b < a + n
          · rw [if_pos (by omega)]
            simp [hin] at this hzb
            simp [hzb]; omega
          · rw [if_neg (by omega)]
            have : (decide (a ≤ b) && decide (b < a + n)) = false := by simp; omega
            simp_all
        · rintro ⟨g1, g2⟩
          refine ⟨fun f hf => g1 f (by simp [hf]), fun b hb => ?_⟩
          have := g2 b hb
          have hzb := hz' b
          rw [Nat.testBit_or, maskN_bit]
          rw [maskN_bit] at hzb
          simp only [cnt] at this
          by_cases hin : a ≤ b ∧ b < a + n
          · rw [if_pos (by omega)] at this
            simp [hin] at hzb ⊢
            simp [hzb] at this; omega
          · rw [if_neg (by omega)] at this
            have hd : (decide (a ≤ b) && decide (b < a + n)) = false := by simp; omega
            rw [hd, Bool.or_false]; omega
      · rw [if_neg (by simpa using hz)]
        constructor
        · intro h; cases h
        · rintro ⟨g1, g2⟩
          exfalso
          apply hz
          rw [and_zero_iff]
          intro i
          rw [maskN_bit]
          by_cases hin : a ≤ i ∧ i < a + n
          · have := g2 i (by omega)
            simp only [cnt] at this
            rw [if_pos (by omega)] at this
            cases hmi : m.testBit i
            · simp
            · simp [hmi] at this; omega
          · simp; omega
    · rw [if_neg hr]
      constructor
      · intro h; cases h
      · rintro ⟨g1, _⟩; exact absurd (g1 (a, n) (by simp)) hr
end Go.Proofs.Ytcffenekomiakaa
