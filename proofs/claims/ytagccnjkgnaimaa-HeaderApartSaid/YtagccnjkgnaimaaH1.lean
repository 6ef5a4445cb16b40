/- The plain words of the package header. -/
import Derived.Test.YtagccnjkgnaimaaE4
import Derived.Test.YtagccnjkgnaimaaE5
namespace Go.Proofs.Ytagccnjkgnaimaa
open Go.RowKit Go.Proofs.YtagccnjkgnaimaaW.PrintWords Go.Proofs.YtagccnjkgnaimaaW.PrintLast Go.Proofs.YtagccnjkgnaimaaW.PrintMore
set_option linter.unusedVariables false
set_option linter.unusedSimpArgs false
def mayB (l c s : Int) : Bool := decide (1 ≤ l) && (decide (l ≤ 64) && (decide (0 ≤ c) && (decide (c ≤ 1024) && (decide (0 ≤ s) && decide (s ≤ 4095)))))
theorem mayB_iff {l c s : Int} : mayB l c s = true ↔ 1 ≤ l ∧ l ≤ 64 ∧ 0 ≤ c ∧ c ≤ 1024 ∧ 0 ≤ s ∧ s ≤ 4095 := by simp [mayB]
def aliveB (i g : Int) : Bool := decide (0 ≤ i) && (decide (i ≤ 4095) && (decide (1 ≤ g) && decide (g ≤ 255)))
theorem aliveB_iff {i g : Int} : aliveB i g = true ↔ 0 ≤ i ∧ i ≤ 4095 ∧ 1 ≤ g ∧ g ≤ 255 := by simp [aliveB]
def encI (l c s : Int) : Int := 165 * 72057594037927936 + l * 4294967296 + c * 65536 + s
def fieldsL : List (Int × Int) := [(0, 16), (16, 16), (32, 8), (40, 16), (56, 8)]
def linksL : List (Int × Int) := [(0, 32), (32, 32)]
theorem getI_div (x a n : Nat) (hx : x < 18446744073709551616) (h : 0 < n) (h' : a + n ≤ 64) : getI x a n = ((x / 2 ^ a % 2 ^ n : Nat) : Int) := by
  rw [getI_nat x a n hx h h']
  congr 1
  apply Nat.eq_of_testBit_eq
  intro i
  rw [getN_bit, Nat.testBit_mod_two_pow, Nat.testBit_div_two_pow, Nat.add_comm i a]
/-- A field put into a word that has nothing there nor above it. -/
theorem putI_low (w a n x : Nat) (hw : w < 2 ^ a) (h : 0 < n) (h' : a + n ≤ 64) (hx : x < 2 ^ n) : putI w a n x = ((w + x * 2 ^ a : Nat) : Int) := by
  have hw64 : w < 18446744073709551616 := Nat.lt_of_lt_of_le hw (Nat.pow_le_pow_right (by decide) (by omega) : 2 ^ a ≤ 2 ^ 64)
  rw [putI_nat w a n x hw64 h h' hx]
  congr 1
  apply Nat.eq_of_testBit_eq
  intro i
  rw [putN_bit w a n x i h' hx hw64, Nat.add_comm w, Nat.mul_comm x, Nat.testBit_two_pow_mul_add _ hw]
  by_cases h1 : i < a
  · rw [if_pos h1, if_neg (by omega)]
  · rw [if_neg h1]
    by_cases h2 : i < a + n
    · rw [if_pos (by omega)]
    · rw [if_neg (by omega)]
      have w0 : w.testBit i = false := Nat.testBit_lt_two_pow (Nat.lt_of_lt_of_le hw (Nat.pow_le_pow_right (by decide) (by omega)))
      have x0 : x.testBit (i - a) = false := Nat.testBit_lt_two_pow (Nat.lt_of_lt_of_le hx (Nat.pow_le_pow_right (by decide) (by omega)))
      rw [w0, x0]
theorem pack_step (w x : Nat) (a n : Nat) (t : List (Int × Int)) (xs : List Int) (hw : w < 2 ^ a) (h : 0 < n) (h' : a + n ≤ 64) (hx : x < 2 ^ n) :
    packGo w (((a : Int), (n : Int)) :: t) ((x : Int) :: xs) = packGo ((w + x * 2 ^ a : Nat) : Int) t xs := by
  have hx64 : x < 18446744073709551616 := Nat.lt_of_lt_of_le hx (Nat.pow_le_pow_right (by decide) (by omega) : 2 ^ n ≤ 2 ^ 64)
  have hl := (len64_le x n hx64 (by omega)).2 hx
  simp only [packGo]
  rw [if_neg (by omega), putI_low w a n x hw h h' hx]
theorem pack_header (l c s : Int) (h : mayB l c s = true) : packI fieldsL [s, c, l, 0, 165] = (encI l c s, 0) := by
  obtain ⟨h1, h2, h3, h4, h5, h6⟩ := mayB_iff.1 h
  obtain ⟨l, rfl⟩ := Int.eq_ofNat_of_zero_le (show 0 ≤ l by omega)
  obtain ⟨c, rfl⟩ := Int.eq_ofNat_of_zero_le h3
  obtain ⟨s, rfl⟩ := Int.eq_ofNat_of_zero_le h5
  unfold packI
  rw [if_pos (by rfl), if_pos (by decide +kernel)]
  unfold fieldsL
  have e1 := pack_step 0 s 0 16 [(16, 16), (32, 8), (40, 16), (56, 8)] [(c : Int), l, 0, 165] (by decide) (by decide) (by decide) (by omega)
  have e2 := pack_step (0 + s * 2 ^ 0) c 16 16 [(32, 8), (40, 16), (56, 8)] [(l : Int), 0, 165] (by omega) (by decide) (by decide) (by omega)
  have e3 := pack_step (0 + s * 2 ^ 0 + c * 2 ^ 16) l 32 8 [(40, 16), (56, 8)] [0, 165] (by omega) (by decide) (by decide) (by omega)
  have e4 := pack_step (0 + s * 2 ^ 0 + c * 2 ^ 16 + l * 2 ^ 32) 0 40 16 [(56, 8)] [165] (by omega) (by decide) (by decide) (by omega)
  have e5 := pack_step (0 + s * 2 ^ 0 + c * 2 ^ 16 + l * 2 ^ 32 + 0 * 2 ^ 40) 165 56 8 [] [] (by omega) (by decide) (by decide) (by omega)
  refine (e1.trans (e2.trans (e3.trans (e4.trans e5)))).trans ?_
  simp only [packGo, encI]
  congr 1
  omega
theorem pack_link (i g : Int) (h : aliveB i g = true) : packI linksL [i + 2, g] = (g * 4294967296 + i + 2, 0) := by
  obtain ⟨h1, h2, h3, h4⟩ := aliveB_iff.1 h
  obtain ⟨i, rfl⟩ := Int.eq_ofNat_of_zero_le h1
  obtain ⟨g, rfl⟩ := Int.eq_ofNat_of_zero_le (show 0 ≤ g by omega)
  unfold packI
  rw [if_pos (by rfl), if_pos (by decide +kernel)]
  unfold linksL
  have e1 := pack_step 0 (i + 2) 0 32 [(32, 32)] [(g : Int)] (by decide) (by decide) (by decide) (by omega)
  have e2 := pack_step (0 + (i + 2) * 2 ^ 0) g 32 32 [] [] (by omega) (by decide) (by decide) (by omega)
  refine (e1.trans e2).trans ?_
  simp only [packGo]
  congr 1
  omega
/-- What a header's word tells. -/
def decOK (w : Int) : Bool := decide (w / 1099511627776 % 65536 = 0) && (decide (w / 72057594037927936 % 256 = 165) && mayB (w / 4294967296 % 256) (w / 65536 % 65536) (w % 65536))
theorem decOK_iff {w : Int} : decOK w = true ↔ w / 1099511627776 % 65536 = 0 ∧ w / 72057594037927936 % 256 = 165 ∧ mayB (w / 4294967296 % 256) (w / 65536 % 65536) (w % 65536) = true := by
  unfold decOK
  rw [Bool.and_eq_true, Bool.and_eq_true, decide_eq_true_iff, decide_eq_true_iff]
def decI (w : Int) : Int × Int × Int × Int := if decOK w = true then (w / 4294967296 % 256, w / 65536 % 65536, w % 65536, 0) else (0, 0, 0, 4)
theorem unpack_header (w : Nat) (hw : w < 18446744073709551616) : unpackI w fieldsL = ([((w % 65536 : Nat) : Int), ((w / 65536 % 65536 : Nat) : Int), ((w / 4294967296 % 256 : Nat) : Int), ((w / 1099511627776 % 65536 : Nat) : Int), ((w / 72057594037927936 % 256 : Nat) : Int)], 0) := by
  unfold unpackI
  rw [if_pos (by decide +kernel)]
  have e1 : getI w 0 16 = ((w / 2 ^ 0 % 2 ^ 16 : Nat) : Int) := getI_div w 0 16 hw (by decide) (by decide)
  have e2 : getI w 16 16 = ((w / 2 ^ 16 % 2 ^ 16 : Nat) : Int) := getI_div w 16 16 hw (by decide) (by decide)
  have e3 : getI w 32 8 = ((w / 2 ^ 32 % 2 ^ 8 : Nat) : Int) := getI_div w 32 8 hw (by decide) (by decide)
  have e4 : getI w 40 16 = ((w / 2 ^ 40 % 2 ^ 16 : Nat) : Int) := getI_div w 40 16 hw (by decide) (by decide)
  have e5 : getI w 56 8 = ((w / 2 ^ 56 % 2 ^ 8 : Nat) : Int) := getI_div w 56 8 hw (by decide) (by decide)
  have hl : fieldsL.map (fun f => getI w f.1 f.2) = [getI w 0 16, getI w 16 16, getI w 32 8, getI w 40 16, getI w 56 8] := rfl
  rw [hl, e1, e2, e3, e4, e5, Nat.pow_zero, Nat.div_one]
theorem unpack_link (w : Nat) (hw : w < 18446744073709551616) : unpackI w linksL = ([((w % 4294967296 : Nat) : Int), ((w / 4294967296 : Nat) : Int)], 0) := by
  unfold unpackI
  rw [if_pos (by decide +kernel)]
  have e1 : getI w 0 32 = ((w / 2 ^ 0 % 2 ^ 32 : Nat) : Int) := getI_div w 0 32 hw (by decide) (by decide)
  have e2 : getI w 32 32 = ((w / 2 ^ 32 % 2 ^ 32 : Nat) : Int) := getI_div w 32 32 hw (by decide) (by decide)
  have hl : linksL.map (fun f => getI w f.1 f.2) = [getI w 0 32, getI w 32 32] := rfl
  have h2 : w / 2 ^ 32 % 2 ^ 32 = w / 4294967296 := by omega
  rw [hl, e1, e2, h2, Nat.pow_zero, Nat.div_one]
/-- What a reference's word tells. -/
def linkG (w z1 z2 : Int) : Int × Int × Int × Int :=
  if w = 0 then (0, 0, 0, 0) else if w = 1 then (1, 0, 0, 0) else if aliveB z1 z2 = true then (2, z1, z2, 0) else (0, 0, 0, 4)
def linkI (w : Int) : Int × Int × Int × Int := linkG w (w % 4294967296 - 2) (w / 4294967296)
theorem may_f (l c s : Int) : PDecode.header_may.f l c s = some (mayB l c s) := by
  unfold PDecode.header_may.f mayB
  repeat' split
  all_goals first | (congr 1; rw [Bool.eq_iff_iff]; simp; omega) | (simp; omega)
theorem alive_f (i g : Int) : PLink.header_alive.f i g = some (aliveB i g) := by
  unfold PLink.header_alive.f aliveB
  repeat' split
  all_goals first | (congr 1; rw [Bool.eq_iff_iff]; simp; omega) | (simp; omega)
theorem decode_any (w : Int) (W : World) (h0 : 0 ≤ w) (h1 : w < 18446744073709551616) :
    Calls Try.prog 34 #[.int .u64 w] W fun e w' => e = .returned (.tuple #[.agg #[.int .i64 (decI w).1, .int .i64 (decI w).2.1, .int .i64 (decI w).2.2.1], .int .i64 (decI w).2.2.2]) ∧ Below W.heap.size W w' := by
  refine PDecode.header_Decode.calls 71 w (decI w).1 (decI w).2.1 (decI w).2.2.1 (decI w).2.2.2 W ?_
  obtain ⟨w, rfl⟩ := Int.eq_ofNat_of_zero_le h0
  have hf : PDecode.header_fields.f = some (fieldsL.map fun f => (⟨f.1, f.2⟩ : PDecode.S24)) := rfl
  unfold PDecode.header_Decode.f
  rw [hf]
  simp only [Option.bind_some]
  rw [XPDecode.unpack_f w fieldsL (by decide), unpack_header w (by omega)]
  simp only [Option.bind_some]
  have r0 : ∀ a b c d e : Int, rd [a, b, c, d, e] 0 = a := fun _ _ _ _ _ => rfl
  have r1 : ∀ a b c d e : Int, rd [a, b, c, d, e] 1 = b := fun _ _ _ _ _ => rfl
  have r2 : ∀ a b c d e : Int, rd [a, b, c, d, e] 2 = c := fun _ _ _ _ _ => rfl
  have r3 : ∀ a b c d e : Int, rd [a, b, c, d, e] 3 = d := fun _ _ _ _ _ => rfl
  have r4 : ∀ a b c d e : Int, rd [a, b, c, d, e] 4 = e := fun _ _ _ _ _ => rfl
  rw [if_pos (by simp), if_pos (by simp), if_pos (by simp), if_pos (by simp), r0, r1, r2, r3, r4]
  have w0 : wrap64 ((w % 65536 : Nat) : Int) = (w : Int) % 65536 := by unfold wrap64; omega
  have w1 : wrap64 ((w / 65536 % 65536 : Nat) : Int) = (w : Int) / 65536 % 65536 := by unfold wrap64; omega
  have w2 : wrap64 ((w / 4294967296 % 256 : Nat) : Int) = (w : Int) / 4294967296 % 256 := by unfold wrap64; omega
  rw [w0, w1, w2, may_f]
  have q1 : ((w / 1099511627776 % 65536 : Nat) : Int) = (w : Int) / 1099511627776 % 65536 := by omega
  have q2 : ((w / 72057594037927936 % 256 : Nat) : Int) = (w : Int) / 72057594037927936 % 256 := by omega
  rw [q1, q2]
  have hiff := decOK_iff (w := (w : Int))
  unfold decI
  generalize (w : Int) / 1099511627776 % 65536 = z1 at *
  generalize (w : Int) / 72057594037927936 % 256 = z2 at *
  generalize (w : Int) / 4294967296 % 256 = z3 at *
  generalize (w : Int) / 65536 % 65536 = z4 at *
  generalize (w : Int) % 65536 = z5 at *
  by_cases c1 : z1 = 0
  · rw [if_pos c1, if_pos (by simp)]
    by_cases c2 : z2 = 165
    · rw [if_pos c2]
      simp only [Option.bind_some]
      by_cases c3 : mayB z3 z4 z5 = true
      · rw [if_pos c3, if_pos (hiff.2 ⟨c1, c2, c3⟩)]
      · rw [if_neg c3, if_neg (fun h => c3 (hiff.1 h).2.2)]
    · rw [if_neg c2, if_neg (fun h => c2 (hiff.1 h).2.1)]
  · rw [if_neg c1, if_neg (fun h => c1 (hiff.1 h).1)]
theorem link_any (w : Int) (W : World) (h0 : 0 ≤ w) (h1 : w < 18446744073709551616) :
    Calls Try.prog 38 #[.int .u64 w] W fun e w' => e = .returned (.tuple #[.agg #[.int .i64 (linkI w).1, .int .i64 (linkI w).2.1, .int .i64 (linkI w).2.2.1], .int .i64 (linkI w).2.2.2]) ∧ Below W.heap.size W w' := by
  refine PLink.header_Link.calls 71 w (linkI w).1 (linkI w).2.1 (linkI w).2.2.1 (linkI w).2.2.2 W ?_
  obtain ⟨w, rfl⟩ := Int.eq_ofNat_of_zero_le h0
  have hf : PLink.header_links.f = some (linksL.map fun f => (⟨f.1, f.2⟩ : PLink.S24)) := rfl
  have hu := XPLink.unpack_f w linksL (by decide)
  rw [unpack_link w (by omega)] at hu
  have w0 : wrap64 (wrap64 ((w % 4294967296 : Nat) : Int) - 2) = (w : Int) % 4294967296 - 2 := by unfold wrap64; omega
  have w1 : wrap64 ((w / 4294967296 : Nat) : Int) = (w : Int) / 4294967296 := by unfold wrap64; omega
  unfold PLink.header_Link.f
  rw [hf, Option.bind_some, hu, Option.bind_some]
  have r0 : ∀ a b : Int, rd [a, b] 0 = a := fun _ _ => rfl
  have r1 : ∀ a b : Int, rd [a, b] 1 = b := fun _ _ => rfl
  have l0 : ∀ a b : Int, (0 : Int) < (([a, b] : List Int).length : Int) := fun _ _ => by simp
  have l1 : ∀ a b : Int, (1 : Int) < (([a, b] : List Int).length : Int) := fun _ _ => by simp
  rw [if_pos (l0 _ _), if_pos (l1 _ _), r0, r1, w0, w1, alive_f, Option.bind_some]
  clear hu w0 w1
  unfold linkI
  generalize (w : Int) % 4294967296 - 2 = z1
  generalize (w : Int) / 4294967296 = z2
  generalize (w : Int) = z
  unfold linkG
  by_cases c0 : z = 0
  · rw [if_pos c0, if_pos c0]
  · rw [if_neg c0, if_neg c0]
    by_cases c1 : z = 1
    · rw [if_pos c1, if_pos c1]
    · rw [if_neg c1, if_neg c1]
      by_cases c2 : aliveB z1 z2 = true
      · rw [if_pos c2, if_pos c2]
      · rw [if_neg c2, if_neg c2]
end Go.Proofs.Ytagccnjkgnaimaa
