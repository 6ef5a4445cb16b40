/- The places that are on, in plain words. No program is imported. -/
import Derived.Test.YtkaflgbipjppmaaDoorSeek
namespace Go.Proofs.YtkaflgbipjppmaaDoor
set_option linter.unusedVariables false
set_option linter.unusedSimpArgs false
variable {bits : List Bool}
def onesTo (bits : List Bool) (k : Nat) : List Nat := (List.range k).filter fun i => bits.getD i false
def ones (bits : List Bool) : List Nat := onesTo bits bits.length
theorem onesTo_succ (k : Nat) : onesTo bits (k + 1) = if bits.getD k false = true then onesTo bits k ++ [k] else onesTo bits k := by
  unfold onesTo
  rw [List.range_succ, List.filter_append]
  cases h : bits.getD k false <;> simp [h, - List.getD_eq_getElem?_getD]
theorem onesTo_on {k : Nat} (h : bits.getD k false = true) : onesTo bits (k + 1) = onesTo bits k ++ [k] := by rw [onesTo_succ, if_pos h]
theorem onesTo_skip : ∀ (d i : Nat), (∀ j, i ≤ j → j < i + d → bits.getD j false ≠ true) → onesTo bits (i + d) = onesTo bits i
  | 0, _, _ => rfl
  | d + 1, i, h => by
    rw [show i + (d + 1) = (i + d) + 1 by omega, onesTo_succ, if_neg (h _ (by omega) (by omega)), onesTo_skip d i (fun j h1 h2 => h j h1 (by omega))]
theorem onesTo_seek {i e : Nat} (hi : i ≤ bits.length) (he : seek true bits i = e) : onesTo bits e = onesTo bits i := by
  have h : i ≤ seek true bits i := seek_ge hi
  have := onesTo_skip (bits := bits) (e - i) i (fun j h1 h2 => seek_between (b := true) h1 (by omega))
  rwa [show i + (e - i) = e by omega] at this
theorem onesTo_le (k : Nat) : (onesTo bits k).length ≤ k := by
  have := List.length_filter_le (fun i => bits.getD i false) (List.range k)
  simpa [onesTo] using this
theorem onesTo_prefix {k : Nat} (h : k ≤ bits.length) : onesTo bits k <+: ones bits := by
  have : ∀ d, onesTo bits k <+: onesTo bits (k + d) := by
    intro d
    induction d with
    | zero => exact List.prefix_refl _
    | succ d ih =>
      rw [show k + (d + 1) = (k + d) + 1 by omega, onesTo_succ]
      split
      · exact ih.trans (List.prefix_append _ _)
      · exact ih
  have h2 := this (bits.length - k)
  rwa [show k + (bits.length - k) = bits.length by omega] at h2
theorem onesTo_lt {k : Nat} (h : k < bits.length) (hk : bits.getD k false = true) : (onesTo bits k).length < (ones bits).length := by
  have h1 := (onesTo_prefix (bits := bits) (k := k + 1) (by omega)).length_le
  rw [onesTo_on hk] at h1
  simp at h1; omega
end Go.Proofs.YtkaflgbipjppmaaDoor
