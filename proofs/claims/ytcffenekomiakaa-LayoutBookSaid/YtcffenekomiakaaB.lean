/- Contracts of field.Pack and of the law's alive: walks. -/
import Derived.Test.YtcffenekomiakaaA
import Derived.Test.YtcffenekomiakaaShelf
import Derived.Test.YtcffenekomiakaaK
import Derived.Below
import Derived.WalkKit
import Derived.KernelRfl
import Derived.RowKit3
import Derived.OwnWalk
import Derived.Tactics
import Derived.Outline
import Derived.Laws.Slices
import Derived.Deep.QuietTactic
import Derived.BigQuiet
import Derived.WalkSmall
import Derived.Lib.Hide
import Derived.Deep.RegionHeld3
import Derived.Deep.DeepCutAuto
import Derived.WalkLawsBesides
namespace Go.Proofs.Ytcffenekomiakaa
open Go.RowKit


def IsU (w : World) (A : Option Addr) (l : List Int) : Prop := ∀ i, i < l.length → ∃ b o, A = some ⟨b, o, none⟩ ∧ w.cell? ⟨b, o + i, none⟩ = some (.int .u64 (l.getD i 0))
def U64 (l : List Int) : Prop := ∀ x ∈ l, 0 ≤ x ∧ x < 18446744073709551616
theorem ret_2 {k k' : IntKind} {a b c d : Int} (h : a = b) (h' : c = d) : Ending.returned (.tuple #[.int k a, .int k' c]) = .returned (.tuple #[.int k b, .int k' d]) := by rw [h, h']
theorem pack_ok (A X : Option Addr) (l : List (Int × Int)) (x : List Int) (c c' : Nat) (w : World) (hl : IsFl w A l) (hx : IsU w X x) (hu : U64 x) (hc : l.length ≤ maxLen) (he : l.length = x.length) (ha : apGo 0 l = true) :
    Calls Try.prog 30 #[.slice A l.length c, .slice X x.length c'] w fun e w' => e = .returned (.tuple #[.int .u64 (packI l x).1, .int .i64 (packI l x).2]) ∧ Below w.heap.size w w' := by
  have hlen := hc
  unfold maxLen at hlen
  have HP := Lib.hid (show packI l x = packGo 0 l x by simp [packI, he, ha])
  have HL := Lib.hid hl
  have HX := Lib.hid hx
  have HU := Lib.hid hu
  have HA := Lib.hid ha
  have HE := Lib.hid he
  have hr := apGo_right l 0 ha
  have HR := Lib.hid hr
  clear hx hu ha hr
  have hne : ((l.length : Int) != (x.length : Int)) = false := by simp [he]
  clear he
  go_enter Try.func30, Try.ntmps30
  go_wp2_with (first | (go_at_call 38; refine (apart_any A l c _ hl hc).mono ?_; rintro e w1 ⟨rfl, hb1⟩; simp only [HA.out]; clear hl))
  go_loopw [6, 22] (fun v6 v22 wr => ∃ (m : Int) (k : Nat), k ≤ l.length ∧ v6 = .int .u64 m ∧ v22 = .int .i64 k ∧ Hid (packGo m (l.drop k) (x.drop k) = packI l x) ∧ Below w.heap.size w wr) (fun _ v22 _ => l.length - (intOf v22).toNat)
  case atStart => exact ⟨0, 0, by omega, rfl, rfl, Lib.hid (by simp [HP.out]), hb1⟩
  case round =>
    clear hb1
    obtain ⟨m, k, hk, rfl, rfl, HG, hb⟩ := hrel
    by_cases hlt : k < l.length
    · have hltx : k < x.length := by rw [← HE.out]; exact hlt
      obtain ⟨b, o, rfl, c0, c1⟩ := HL.out k hlt
      obtain ⟨bx, ox, rfl, cx⟩ := HX.out k hltx
      have hr := HR.out k hlt
      have hu := HU.out (x.getD k 0) (by simp [List.getD, hltx])
      have h1 := drop_at l k (0, 0) hlt
      have h2 := drop_at x k 0 hltx
      replace c0 := cell_on hb c0
      replace c1 := cell_on hb c1
      replace cx := cell_on hb cx
      generalize l.getD k (0, 0) = f at h1 c0 c1 hr
      generalize x.getD k 0 = y at h2 cx hu
      obtain ⟨fa, fn⟩ := f
      obtain ⟨hu0, hu1⟩ := hu
      have HG := HG.out
      rw [h1, h2] at HG
      simp only [packGo] at HG
      clear h1 h2
      have HRR := Lib.hid hr
      clear hr
      by_cases hw : fn < len64 y
      · rw [if_pos hw] at HG
        replace HG := Lib.hid HG
        go_wp2_with fail
        have s0 : (wr.alloc (.cells #[.int .i64 fa, .int .i64 fn] 71)).cell? ⟨wr.heap.size, 0, none⟩ = some (.int .i64 fa) := by go_simp
        have s1 : (wr.alloc (.cells #[.int .i64 fa, .int .i64 fn] 71)).cell? ⟨wr.heap.size, 1, none⟩ = some (.int .i64 fn) := by go_simp
        have s2 := cell_on (below1 wr (.cells #[.int .i64 fa, .int .i64 fn] 71)) cx
        have B := hb.on (below1 wr (.cells #[.int .i64 fa, .int .i64 fn] 71))
        go_region_held3 (fun wk => (wk.cell? ⟨wr.heap.size, 0, none⟩ = some (.int .i64 fa) ∧ wk.cell? ⟨wr.heap.size, 1, none⟩ = some (.int .i64 fn) ∧ wk.cell? ⟨bx, ox + k, none⟩ = some (.int .u64 y)) ∧ Below w.heap.size w wk) (first | exact kp3_drew ⟨⟨s0, s1, s2⟩, B⟩ | exact kp3_call (by assumption) (by assumption)) (first | (go_at_call 39; refine (put_wide _ _ _ _ _ HRR.out hu0 hu1 hw).mono ?_; rintro e w1 ⟨rfl, hb1⟩))
        go_wp2
        go_ret2
        exact ⟨by rw [← HG.out]; rfl, (by assumption : _ ∧ Below w.heap.size w _).2⟩
      · rw [if_neg hw] at HG
        replace HG := Lib.hid HG
        go_wp2_with fail
        have s0 : (wr.alloc (.cells #[.int .i64 fa, .int .i64 fn] 71)).cell? ⟨wr.heap.size, 0, none⟩ = some (.int .i64 fa) := by go_simp
        have s1 : (wr.alloc (.cells #[.int .i64 fa, .int .i64 fn] 71)).cell? ⟨wr.heap.size, 1, none⟩ = some (.int .i64 fn) := by go_simp
        have s2 := cell_on (below1 wr (.cells #[.int .i64 fa, .int .i64 fn] 71)) cx
        have B := hb.on (below1 wr (.cells #[.int .i64 fa, .int .i64 fn] 71))
        go_region_held3 (fun wk => (wk.cell? ⟨wr.heap.size, 0, none⟩ = some (.int .i64 fa) ∧ wk.cell? ⟨wr.heap.size, 1, none⟩ = some (.int .i64 fn) ∧ wk.cell? ⟨bx, ox + k, none⟩ = some (.int .u64 y)) ∧ Below w.heap.size w wk) (first | exact kp3_drew ⟨⟨s0, s1, s2⟩, B⟩ | exact kp3_call (by assumption) (by assumption)) (first | (go_at_call 39; refine (put_any _ _ _ _ _ HRR.out hu0 hu1 (by omega)).mono ?_; rintro e w1 ⟨rfl, hb1⟩))
        go_wp2
        go_roundw
        case rel => exact ⟨_, k + 1, by omega, rfl, by go_num, HG, (by assumption : _ ∧ Below w.heap.size w _).2⟩
        case measure => simp [intOf]; omega
    · obtain rfl : k = l.length := by omega
      go_wp2
      go_ret2
      have := HG.out
      rw [List.drop_length] at this
      exact ⟨by rw [← this]; rfl, hb⟩
end Go.Proofs.Ytcffenekomiakaa
