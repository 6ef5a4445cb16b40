/- What the document's functions of layer 1 answer: the printed functions, held against the plain words. -/
import Derived.Test.YtagccnjkgnaimaaD
import Derived.Test.YtagccnjkgnaimaaPPutx1
import Derived.Lib.Hide
import Derived.Test.YtagccnjkgnaimaaPGetx1
import Derived.Test.YtagccnjkgnaimaaPFitsx1
import Derived.Test.YtagccnjkgnaimaaPApartx1
namespace Go.Proofs.Ytagccnjkgnaimaa
open Go.RowKit Go.Proofs.YtagccnjkgnaimaaW.PrintWords Go.Proofs.YtagccnjkgnaimaaW.PrintLast Go.Proofs.YtagccnjkgnaimaaW.PrintMore
set_option linter.unusedVariables false

theorem ref_right (a n : Int) (w : World) : Calls Try.prog 17 #[.int .i64 a, .int .i64 n] w fun e w' => e = .returned (.bool (rightB a n)) ∧ Below w.heap.size w w' := by
  refine (PApart.turnrowref01_Right.calls a n _ w ?_).mono fun e w' ⟨he, hd⟩ => ⟨he, hd.below⟩
  unfold PApart.turnrowref01_Right.f rightB
  split
  · split
    · split
      · split
        · have : wrap64 (a + n) = a + n := by unfold wrap64; omega
          rw [this]; congr 1; rw [Bool.eq_iff_iff]; simp; omega
        · simp; omega
      · simp; omega
    · simp; omega
  · simp; omega
theorem pow_lt64 (i : Nat) (hi : i < 64) : 2 ^ i < 18446744073709551616 := Nat.pow_lt_pow_right (n := 64) (by decide) hi
theorem shl_one (i : Nat) (hi : i < 64) : shl .u64 1 (i : Int) = ((2 ^ i : Nat) : Int) := by
  have hlt := pow_lt64 i hi
  unfold shl
  have : min (i : Int).toNat IntKind.u64.bits = i := by simp [IntKind.bits]; omega
  rw [IntKind.wrap_u64, this]
  have : ((1 : Int) * 2 ^ i) = ((2 ^ i : Nat) : Int) := by simp
  rw [this]
  generalize 2 ^ i = p at *
  omega
theorem ref_fits (x n : Nat) (w : World) (hx : x < 18446744073709551616) (hn : n ≤ 64) : Calls Try.prog 19 #[.int .u64 x, .int .i64 n] w fun e w' => e = .returned (.bool (decide (len64 x ≤ n))) ∧ Below w.heap.size w w' := by
  refine (PFits.turnrowref01_Fits.calls x n _ w ?_).mono fun e w' ⟨he, hd⟩ => ⟨he, hd.below⟩
  unfold PFits.turnrowref01_Fits.f
  have h := len64_le x n hx hn
  split
  · have : n = 64 := by omega
    subst this
    have : len64 x ≤ (64 : Nat) := h.2 hx
    simp; simpa using this
  · rw [if_pos (by omega), shl_one n (by omega)]
    congr 1
    rw [decide_eq_decide, h]
    exact Int.ofNat_lt
theorem bit_f (w i : Nat) (hi : i < 64) (hw : w < 18446744073709551616) : PPut.turnrowref01_Bit.f w i = some ((w.testBit i).toNat : Int) := by
  unfold PPut.turnrowref01_Bit.f
  have hp : 0 < 2 ^ i := Nat.two_pow_pos _
  have hne : ((2 ^ i : Nat) : Int) ≠ 0 := by
    generalize 2 ^ i = p at *
    omega
  rw [if_pos (by omega), shl_one i hi, if_neg hne]
  have h1 : Int.tdiv (w : Int) ((2 ^ i : Nat) : Int) = ((w / 2 ^ i : Nat) : Int) := by
    rw [Int.tdiv_eq_ediv_of_nonneg (by omega)]; simp
  have h2 : w / 2 ^ i < 18446744073709551616 := Nat.lt_of_le_of_lt (Nat.div_le_self _ _) hw
  rw [h1, IntKind.wrap_u64, Nat.testBit_eq_decide_div_mod_eq]
  generalize w / 2 ^ i = q at *
  rw [Int.tmod_eq_emod_of_nonneg (by omega)]
  have h4 : q % 2 = 0 ∨ q % 2 = 1 := by omega
  rcases h4 with h4 | h4
  · simp [h4]; omega
  · simp [h4]; omega
theorem next_bit (T i : Nat) : T / 2 ^ i = 2 * (T / 2 ^ (i + 1)) + (T.testBit i).toNat := by
  rw [Nat.pow_succ, ← Nat.div_div_eq_div_mul, Nat.testBit_eq_decide_div_mod_eq]
  generalize T / 2 ^ i = q
  have h4 : q % 2 = 0 ∨ q % 2 = 1 := by omega
  rcases h4 with h4 | h4
  · simp [h4]; omega
  · simp [h4]; omega
theorem wrap_two (T i : Nat) (hT : T < 18446744073709551616) : IntKind.u64.wrap ((IntKind.u64.wrap (2 * ((T / 2 ^ (i + 1) : Nat) : Int))) + ((T.testBit i).toNat : Int)) = ((T / 2 ^ i : Nat) : Int) := by
  have hn := next_bit T i
  have hle : T / 2 ^ i ≤ T := Nat.div_le_self _ _
  generalize T / 2 ^ i = q at *
  generalize T / 2 ^ (i + 1) = p at *
  rw [IntKind.wrap_u64, IntKind.wrap_u64]; omega
theorem put_loop (T w a n x : Nat) (hw : w < 18446744073709551616) (hx64 : x < 18446744073709551616) (h' : a + n ≤ 64) (hT : T < 18446744073709551616) (hbit : ∀ i, T.testBit i = if a ≤ i ∧ i < a + n then x.testBit (i - a) else w.testBit i) : ∀ (i k : Nat), i ≤ 64 → i < k →
    PPut.turnrowref01_Put.l0 k w a n x ((T / 2 ^ i : Nat) : Int) ((i : Int) - 1) = some (T : Int) := by
  intro i
  induction i with
  | zero =>
    intro k _ hk
    obtain ⟨k, rfl⟩ : ∃ m, k = m + 1 := ⟨k - 1, by omega⟩
    simp only [PPut.turnrowref01_Put.l0]
    rw [if_neg (by omega)]; simp
  | succ i ih =>
    intro k hi hk
    obtain ⟨k, rfl⟩ : ∃ m, k = m + 1 := ⟨k - 1, by omega⟩
    have hrec := Lib.hid (ih k (by omega) (by omega))
    have hb := hbit i
    have hi1 : ((i + 1 : Nat) : Int) - 1 = (i : Int) := by omega
    have hwr : wrap64 ((i : Int) - 1) = (i : Int) - 1 := by unfold wrap64; omega
    have hwt := Lib.hid (wrap_two T i hT)
    simp only [PPut.turnrowref01_Put.l0]
    rw [hi1, if_pos (by omega), bit_f w i (by omega) hw]
    simp only [Option.bind_some]
    rw [hwr]
    by_cases h1 : a ≤ i
    · rw [if_pos (by omega)]
      have hwa : wrap64 ((a : Int) + n) = (a : Int) + n := by unfold wrap64; omega
      rw [hwa]
      by_cases h2 : i < a + n
      · have hwi : wrap64 ((i : Int) - a) = ((i - a : Nat) : Int) := by unfold wrap64; omega
        rw [if_pos (by omega), hwi, bit_f x (i - a) (by omega) hx64]
        simp only [Option.bind_some]
        rw [if_pos ⟨h1, h2⟩] at hb
        rw [← hb, hwt.out]
        exact hrec.out
      · rw [if_neg (by omega)]
        rw [if_neg (by omega)] at hb
        rw [← hb, hwt.out]
        exact hrec.out
    · rw [if_neg (by omega)]
      rw [if_neg (by omega)] at hb
      rw [← hb, hwt.out]
      exact hrec.out
theorem two_pow_le64 (x n : Nat) (hn : n ≤ 64) (hx : x < 2 ^ n) : x < 18446744073709551616 := Nat.lt_of_lt_of_le hx (Nat.pow_le_pow_right (by decide : 0 < 2) hn : 2 ^ n ≤ 2 ^ 64)
theorem ref_put (w a n x : Nat) (W : World) (hw : w < 18446744073709551616) (h' : a + n ≤ 64) (h0 : 0 < n) (hx : x < 2 ^ n) :
    Calls Try.prog 20 #[.int .u64 w, .int .i64 a, .int .i64 n, .int .u64 x] W fun e w' => e = .returned (.int .u64 (putI w a n x)) ∧ Below W.heap.size W w' := by
  refine (PPut.turnrowref01_Put.calls 65 w a n x _ W ?_).mono fun e w' ⟨he, hd⟩ => ⟨he, hd.below⟩
  have hT := putN_lt w a n x h' hx hw
  have hb := fun i => putN_bit w a n x i h' hx hw
  rw [putI_nat w a n x hw h0 h' hx]
  generalize putN w a n x = T at *
  have h := put_loop T w a n x hw (two_pow_le64 x n (by omega) hx) h' hT hb 64 65 (by omega) (by omega)
  rw [Nat.div_eq_of_lt hT] at h
  exact h
theorem get_loop (T x a n : Nat) (hx : x < 18446744073709551616) (h' : a + n ≤ 64) (hT : T < 18446744073709551616) (hbit : ∀ i, T.testBit i = (decide (i < n) && x.testBit (a + i))) : ∀ (i k : Nat), i ≤ n → i < k →
    PGet.turnrowref01_Get.l0 k x a ((T / 2 ^ i : Nat) : Int) ((i : Int) - 1) = some (T : Int) := by
  intro i
  induction i with
  | zero =>
    intro k _ hk
    obtain ⟨k, rfl⟩ : ∃ m, k = m + 1 := ⟨k - 1, by omega⟩
    simp only [PGet.turnrowref01_Get.l0]
    rw [if_neg (by omega)]; simp
  | succ i ih =>
    intro k hi hk
    obtain ⟨k, rfl⟩ : ∃ m, k = m + 1 := ⟨k - 1, by omega⟩
    have hrec := Lib.hid (ih k (by omega) (by omega))
    have hb := hbit i
    have hwt := Lib.hid (wrap_two T i hT)
    have hi1 : ((i + 1 : Nat) : Int) - 1 = (i : Int) := by omega
    have hwr : wrap64 ((i : Int) - 1) = (i : Int) - 1 := by unfold wrap64; omega
    have hwa : wrap64 ((a : Int) + i) = ((a + i : Nat) : Int) := by unfold wrap64; omega
    have hbf : PGet.turnrowref01_Bit.f x ((a + i : Nat) : Int) = some ((x.testBit (a + i)).toNat : Int) := bit_f x (a + i) (by omega) hx
    simp only [PGet.turnrowref01_Get.l0]
    rw [hi1, if_pos (by omega), hwa, hbf]
    simp only [Option.bind_some]
    rw [hwr]
    rw [show (decide (i < n)) = true by simp; omega, Bool.true_and] at hb
    rw [← hb, hwt.out]
    exact hrec.out
theorem ref_get (x a n : Nat) (W : World) (hx : x < 18446744073709551616) (h' : a + n ≤ 64) (h0 : 0 < n) :
    Calls Try.prog 27 #[.int .u64 x, .int .i64 a, .int .i64 n] W fun e w' => e = .returned (.int .u64 (getI x a n)) ∧ Below W.heap.size W w' := by
  refine (PGet.turnrowref01_Get.calls (n + 1) x a n _ W ?_).mono fun e w' ⟨he, hd⟩ => ⟨he, hd.below⟩
  have hb := fun i => getN_bit x a n i
  have hlt := getN_lt x a n
  have hT := two_pow_le64 _ n (by omega) hlt
  rw [getI_nat x a n hx h0 h']
  generalize getN x a n = T at *
  have h := get_loop T x a n hx h' hT hb n (n + 1) (by omega) (by omega)
  rw [Nat.div_eq_of_lt hlt] at h
  unfold PGet.turnrowref01_Get.f
  have : wrap64 ((n : Int) - 1) = (n : Int) - 1 := by unfold wrap64; omega
  rw [this]
  exact h
end Go.Proofs.Ytagccnjkgnaimaa
