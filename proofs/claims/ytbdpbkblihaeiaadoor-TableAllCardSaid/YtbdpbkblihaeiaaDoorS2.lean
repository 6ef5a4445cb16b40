/- TableRetires: a walk. -/
import Derived.Test.YtbdpbkblihaeiaaDoorS1
namespace Go.Proofs.YtbdpbkblihaeiaaDoor
open Go.RowKit
set_option linter.unusedVariables false
set_option linter.unusedSimpArgs false
variable {w w' base : World} {B S p q bd : Nat} {l : List Slot} {v : Value} {told : List (Int × Int)}
theorem TS.usedB (h : TS base w B S p q bd l v told) : Calls Tryd.prog 39 #[.pointer (some ⟨B, 0, none⟩)] w fun e w' => e = .returned (.int .i64 (usedN l : Nat)) ∧ Below w.heap.size w w' := used_any h.tab
theorem TS.leftB (h : TS base w B S p q bd l v told) : Calls Tryd.prog 38 #[.pointer (some ⟨B, 0, none⟩)] w fun e w' => e = .returned (.int .i64 ((l.length : Int) - (usedN l + goneN l : Nat))) ∧ Below w.heap.size w w' := left_any h.tab
theorem TS.retiredB (h : TS base w B S p q bd l v told) : Calls Tryd.prog 37 #[.pointer (some ⟨B, 0, none⟩)] w fun e w' => e = .returned (.int .i64 (goneN l : Nat)) ∧ Below w.heap.size w w' := retired_any h.tab
/-- The slots when i times one was taken and dropped. -/
def stR (k i : Nat) : List Slot := (List.range k).map fun j => ⟨min 255 (i - 255 * j), false, noEntry⟩
theorem stR_len (k i : Nat) : (stR k i).length = k := by simp [stR]
theorem stR_get {k i j : Nat} (h : j < k) : (stR k i).getD j slot0 = ⟨min 255 (i - 255 * j), false, noEntry⟩ := by simp [stR, List.getD, h]
theorem slots_ext {l1 l2 : List Slot} (h : l1.length = l2.length) (he : ∀ i, i < l1.length → l1.getD i slot0 = l2.getD i slot0) : l1 = l2 :=
  List.ext_getElem h fun i g1 g2 => by have := he i g1; simpa [List.getD, g1, g2] using this
theorem stR_zero (k : Nat) : stR k 0 = List.replicate k slot0 := slots_ext (by simp [stR]) (fun i hi => by
  rw [stR_len] at hi
  rw [stR_get hi]
  simp [List.getD, hi]; rfl)
theorem stR_taken {k i j : Nat} (h : j < k) : taken ((stR k i).getD j slot0) = decide (255 * (j + 1) ≤ i) := by
  rw [stR_get h]
  unfold taken
  rw [Bool.eq_iff_iff]
  simp; omega
theorem stR_first {k i : Nat} {e : Entry} (h : i < 255 * k) : addT (stR k i) e = addL (stR k i) (i / 255) e ∧ addTok (stR k i) = (((i / 255 : Nat) : Int), ((i % 255 + 1 : Nat) : Int)) ∧ addErr (stR k i) = 0 := by
  have hk : i / 255 < k := by omega
  have h1 := addT_at (l := stR k i) (k := i / 255) (e := e) (by rw [stR_len]; exact hk) (by rw [stR_taken hk]; exact decide_eq_false (by omega)) (fun j hj => by rw [stR_taken (by omega)]; exact decide_eq_true (by omega))
  refine ⟨h1.1, ?_, h1.2.2⟩
  rw [h1.2.1, stR_get hk]
  have : min 255 (i - 255 * (i / 255)) = i % 255 := by omega
  rw [this]
theorem stR_next {k i : Nat} (e : Entry) (h : i < 255 * k) : dropT (addL (stR k i) (i / 255) e) ((i / 255 : Nat) : Int) ((i % 255 + 1 : Nat) : Int) = stR k (i + 1) ∧ errI (addL (stR k i) (i / 255) e) ((i / 255 : Nat) : Int) ((i % 255 + 1 : Nat) : Int) = 0 := by
  have hk : i / 255 < k := by omega
  have hm : min 255 (i - 255 * (i / 255)) = i % 255 := by omega
  have hadd : addL (stR k i) (i / 255) e = (stR k i).set (i / 255) ⟨i % 255 + 1, true, e⟩ := by unfold addL; rw [stR_get hk, hm]
  have hlen : i / 255 < (stR k i).length := by rw [stR_len]; exact hk
  have hf : freshT (addL (stR k i) (i / 255) e) ((i / 255 : Nat) : Int) ((i % 255 + 1 : Nat) : Int) = true := by
    rw [hadd]
    exact fresh_in (by simpa using hlen) (by rw [set_getD _ _ hlen]) (by rw [set_getD _ _ hlen])
  refine ⟨?_, by unfold errI; rw [if_pos hf]⟩
  unfold dropT
  rw [if_pos hf, hadd]
  unfold dropL
  rw [Int.toNat_natCast, set_getD _ _ hlen, List.set_set]
  refine slots_ext (by simp [stR]) (fun j hj => ?_)
  have hj' : j < k := by simpa [stR] using hj
  rw [stR_get hj']
  by_cases hji : j = i / 255
  · subst hji
    rw [set_getD _ _ hlen]
    have : min 255 (i + 1 - 255 * (i / 255)) = i % 255 + 1 := by omega
    rw [this]
  · rw [set_ne _ hji, stR_get hj']
    have : min 255 (i + 1 - 255 * j) = min 255 (i - 255 * j) := by omega
    rw [this]
theorem stR_full {k i : Nat} (e : Entry) (h : 255 * k ≤ i) : addT (stR k i) e = stR k (i + 1) ∧ addErr (stR k i) = 12 := by
  have hst : stR k (i + 1) = stR k i := by
    refine slots_ext (by simp [stR]) (fun j hj => ?_)
    have hj' : j < k := by simpa [stR] using hj
    rw [stR_get hj', stR_get hj']
    have : min 255 (i + 1 - 255 * j) = min 255 (i - 255 * j) := by omega
    rw [this]
  have hF : FirstL ((stR k i).map taken) 0 = (0, false) := by
    rcases first_cases ((stR k i).map taken) 0 with ⟨s, h1, h2, h3, h4⟩ | ⟨h1, h2⟩
    · have hs : s < k := by simpa [stR] using h3
      have : ((stR k i).map taken).getD s false = taken ((stR k i).getD s slot0) := by
        have : s < (stR k i).length := by rw [stR_len]; exact hs
        simp [List.getD, this]
      rw [this, stR_taken hs, decide_eq_true (by omega)] at h4
      cases h4
    · exact h1
  unfold addT addErr
  rw [hF, hst]
  exact ⟨rfl, rfl⟩
theorem stR_used (k i : Nat) : usedN (stR k i) = 0 := by
  unfold usedN
  rw [List.length_eq_zero_iff, List.filter_eq_nil_iff]
  intro a ha
  unfold stR at ha
  obtain ⟨j, _, rfl⟩ := List.mem_map.1 ha
  simp
theorem count_lt (m : Nat) : ∀ k, ((List.range k).filter fun j => decide (j < m)).length = min m k
  | 0 => by simp
  | k + 1 => by
    rw [List.range_succ, List.filter_append, List.length_append, count_lt m k]
    by_cases h : k < m <;> simp [h] <;> omega
theorem stR_gone (k i : Nat) : goneN (stR k i) = min (i / 255) k := by
  unfold goneN stR
  rw [List.filter_map, List.length_map, ← count_lt (i / 255) k]
  congr 1
  refine List.filter_congr fun j hj => ?_
  unfold retired
  rw [Bool.eq_iff_iff]
  simp; omega
set_option maxRecDepth 100000 in
set_option maxHeartbeats 2000000 in
theorem retires_walk (n t : Int) (ee : Entry) (hT : Tab w) :
    Calls Tryd.prog 10 #[.int .i64 n, .int .i64 t, entV ee] w fun e w' => e = .returned (.bool true) ∧ Below w.heap.size w w' := by
  obtain ⟨K, hK⟩ := grown7_n n 3 (by decide)
  obtain ⟨C, hC⟩ : ∃ C : Nat, (C : Int) = max 0 t % 600 := ⟨(max 0 t % 600).toNat, by omega⟩
  have hK1 : 1 ≤ K := by omega
  have hK3 : K ≤ 3 := by omega
  have hC6 : C < 600 := by omega
  have hbx := below1 w (.cells #[.int .i64 ee.addr, .int .i64 ee.region, .bool ee.held, .bool ee.pinned] 51)
  have hblk := heap_alloc_new w (.cells #[.int .i64 ee.addr, .int .i64 ee.region, .bool ee.held, .bool ee.pinned] 51)
  have hszb : (w.alloc (.cells #[.int .i64 ee.addr, .int .i64 ee.region, .bool ee.held, .bool ee.pinned] 51)).heap.size = w.heap.size + 1 := World.size_alloc _ _
  have HT := Lib.hid (hT.on hbx)
  have h0 : 0 < (w.alloc (.cells #[.int .i64 ee.addr, .int .i64 ee.region, .bool ee.held, .bool ee.pinned] 51)).heap.size := lt_of_cell (HT.out 0 (by decide))
  have HBX := Lib.hid hbx
  have HBLK := Lib.hid hblk
  have HK := Lib.hid hK
  have HC := Lib.hid hC
  have hmax : (if (0 : Int) < n then n else 0) = max 0 n := by omega
  have hmax2 : (if (0 : Int) < t then t else 0) = max 0 t := by omega
  clear hT hK hC hbx hblk
  unfold entV
  go_enter Tryd.func10, Tryd.ntmps10
  generalize hwb : w.alloc (.cells #[.int .i64 ee.addr, .int .i64 ee.region, .bool ee.held, .bool ee.pinned] 51) = wb at *
  go_wp2_with fail
  rw [← HK.out, ← HC.out]
  refine (tnew_ts K wb hK1 (by omega)).mono ?_
  rintro e w1 ⟨B, S, p, q, rfl, hS⟩
  rw [← stR_zero] at hS
  have HS1 := Lib.hid hS
  generalize w1.heap.size = bd at *
  clear hS hmax hmax2
  go_wp2_with fail
  refine (HS1.out.alive HT.out h0).mono ?_
  rintro e w2 ⟨rfl, hb, hS⟩
  have HS2 := Lib.hid hS
  clear hb hS HS1
  go_wp2_with fail
  go_loopw [37] (fun v37 wr => ∃ i : Nat, i ≤ C ∧ v37 = .int .i64 i ∧ Hid (TS wb wr B S p q bd (stR K i) (.slice none 0 0) [])) (fun v37 _ => C - (intOf v37).toNat)
  case atStart => exact ⟨0, by omega, rfl, HS2⟩
  case round =>
    obtain ⟨i, hi, rfl, HSi⟩ := hrel
    by_cases hlt : i < C
    · have hen := (HSi.out.below.block w.heap.size (by omega)).trans HBLK.out
      have n0 := (blk_cells hen 0).trans rfl
      have n1 := (blk_cells hen 1).trans rfl
      have n2 := (blk_cells hen 2).trans rfl
      have n3 := (blk_cells hen 3).trans rfl
      clear hen
      by_cases hful : 255 * K ≤ i
      · have HF := Lib.hid (stR_full (k := K) (i := i) ee hful)
        have hge : decide (255 * (K : Int) ≤ (i : Int)) = true := decide_eq_true (by omega)
        go_wp2_with fail
        refine (HSi.out.add HT.out h0 ee).mono ?_
        rintro e w3 ⟨rfl, hS, hm⟩
        rw [HF.out.1] at hS
        rw [HF.out.2]
        generalize addTok (stR K i) = tk
        obtain ⟨ti, tg⟩ := tk
        have HS3 := Lib.hid (hS.put (.cells #[.int .i64 ti, .int .i64 tg] 57))
        clear hS hm n0 n1 n2 n3
        unfold tokV
        go_wp2
        go_roundw
        case rel => exact ⟨i + 1, by omega, by go_num, HS3⟩
        case measure => simp [intOf]; omega
      · have HF := Lib.hid (stR_first (k := K) (i := i) (e := ee) (by omega))
        have HN := Lib.hid (stR_next (k := K) (i := i) ee (by omega))
        have hge : decide (255 * (K : Int) ≤ (i : Int)) = false := decide_eq_false (by omega)
        obtain ⟨J, hJ⟩ : ∃ J : Nat, i / 255 = J := ⟨_, rfl⟩
        obtain ⟨G, hG⟩ : ∃ G : Nat, i % 255 + 1 = G := ⟨_, rfl⟩
        have hq : (i : Int) / 255 = (J : Int) := by omega
        have hr : 1 + (i : Int) % 255 = (G : Int) := by omega
        rw [hJ, hG] at HF HN
        clear hJ hG
        go_wp2_with fail
        refine (HSi.out.add HT.out h0 ee).mono ?_
        rintro e w3 ⟨rfl, hS, hm⟩
        rw [HF.out.1] at hS
        rw [HF.out.2.1, HF.out.2.2]
        have HS3 := Lib.hid (hS.put (.cells #[.int .i64 (J : Nat), .int .i64 (G : Nat)] 57))
        have p0 := (blk_cells (heap_alloc_new w3 (.cells #[.int .i64 (J : Nat), .int .i64 (G : Nat)] 57)) 0).trans rfl
        have p1 := (blk_cells (heap_alloc_new w3 (.cells #[.int .i64 (J : Nat), .int .i64 (G : Nat)] 57)) 1).trans rfl
        clear hS hm n0 n1 n2 n3
        unfold tokV
        go_wp2_with fail
        refine (HS3.out.drop J G).mono ?_
        rintro e w4 ⟨rfl, hS, hm⟩
        rw [HN.out.1] at hS
        rw [HN.out.2]
        have HS4 := Lib.hid hS
        clear hS hm p0 p1
        go_wp2
        go_roundw
        case rel => exact ⟨i + 1, by omega, by go_num, HS4⟩
        case measure => simp [intOf]; omega
    · obtain rfl : i = C := by omega
      have hG := stR_gone K i
      have HU := Lib.hid (stR_used K i)
      have HL := Lib.hid (stR_len K i)
      obtain ⟨Q, hQ⟩ : ∃ Q : Nat, i / 255 = Q := ⟨_, rfl⟩
      have hq : (i : Int) / 255 = (Q : Int) := by omega
      rw [hQ] at hG
      clear hQ
      rcases Nat.lt_or_ge K Q with hQK | hQK
      rotate_left
      · rw [Nat.min_eq_left hQK] at hG
        have HG := Lib.hid hG
        have k1 : (Q : Int) ≤ (K : Int) := by omega
        have k2 : wrap64 ((K : Int) - (Q : Int)) = (K : Int) - (Q : Int) := by simp [wrap64]; omega
        clear hG
        go_wp2_with fail
        refine HSi.out.retiredB.mono ?_
        rintro e w3 ⟨rfl, hb⟩
        have HS3 := Lib.hid (HSi.out.on hb)
        clear hb
        rw [HG.out]
        go_wp2_with fail
        refine HS3.out.leftB.mono ?_
        rintro e w4 ⟨rfl, hb⟩
        have HS4 := Lib.hid (HS3.out.on hb)
        clear hb
        rw [HL.out, HU.out, HG.out, show (K : Int) - ((0 + Q : Nat) : Int) = (K : Int) - (Q : Int) by omega]
        go_wp2_with fail
        refine HS4.out.usedB.mono ?_
        rintro e w5 ⟨rfl, hb⟩
        have HS5 := Lib.hid (HS4.out.on hb)
        clear hb
        rw [HU.out]
        go_wp2
        go_ret
        exact ⟨rfl, HBX.out.on HS5.out.below⟩
      · rw [Nat.min_eq_right (Nat.le_of_lt hQK)] at hG
        have HG := Lib.hid hG
        have k1 : ¬ (Q : Int) ≤ (K : Int) := by omega
        have k3 : min (Q : Int) (K : Int) = (K : Int) := by omega
        clear hG
        go_wp2_with fail
        refine HSi.out.retiredB.mono ?_
        rintro e w3 ⟨rfl, hb⟩
        have HS3 := Lib.hid (HSi.out.on hb)
        clear hb
        rw [HG.out]
        go_wp2_with fail
        refine HS3.out.leftB.mono ?_
        rintro e w4 ⟨rfl, hb⟩
        have HS4 := Lib.hid (HS3.out.on hb)
        clear hb
        rw [HL.out, HU.out, HG.out, show (K : Int) - ((0 + K : Nat) : Int) = 0 by omega]
        go_wp2_with fail
        refine HS4.out.usedB.mono ?_
        rintro e w5 ⟨rfl, hb⟩
        have HS5 := Lib.hid (HS4.out.on hb)
        clear hb
        rw [HU.out]
        go_wp2
        go_ret
        exact ⟨rfl, HBX.out.on HS5.out.below⟩
end Go.Proofs.YtbdpbkblihaeiaaDoor
