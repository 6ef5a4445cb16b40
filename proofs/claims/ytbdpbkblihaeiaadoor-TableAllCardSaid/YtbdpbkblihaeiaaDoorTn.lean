/- grown, with a bound on the tokens that were told: a walk. -/
import Derived.Test.YtbdpbkblihaeiaaDoorTi
namespace Go.Proofs.YtbdpbkblihaeiaaDoor
open Go.RowKit
set_option linter.unusedVariables false
set_option linter.unusedSimpArgs false
variable {w w' base : World} {B S p q bd : Nat} {l : List Slot} {v : Value} {told : List (Int × Int)}
def TokIn (x : Int × Int) : Prop := 0 ≤ x.1 ∧ x.1 < 4096 ∧ 0 ≤ x.2 ∧ x.2 < 4096
def ToldIn (told : List (Int × Int)) : Prop := ∀ x ∈ told, TokIn x
theorem ToldIn.snoc {x : Int × Int} (h : ToldIn told) (hx : TokIn x) : ToldIn (told ++ [x]) := fun y hy => by
  rcases List.mem_append.1 hy with g | g
  · exact h y g
  · rw [List.mem_singleton.1 g]; exact hx
theorem addTok_in (h : l.length ≤ 8) (hg : ∀ s ∈ l, s.gen ≤ 255) : TokIn (addTok l) := by
  unfold addTok
  rcases first_cases (l.map taken) 0 with ⟨s, h1, h2, h3, h4⟩ | ⟨h1, h2⟩
  · rw [h1]
    have hs : s < l.length := by simpa using h3
    have hm : l.getD s slot0 ∈ l := by
      have : l.getD s slot0 = l[s] := by simp [List.getD, hs]
      rw [this]; exact List.getElem_mem hs
    have := hg _ hm
    rw [if_pos rfl]
    refine ⟨?_, ?_, ?_, ?_⟩ <;> simp only [] <;> omega
  · rw [h1, if_neg (by decide)]
    exact ⟨by decide, by decide, by decide, by decide⟩
def GrownB (N m : Nat) (w : World) (e : Ending) (w' : World) : Prop :=
  (m ≤ 100 ∧ ∃ B S p q bd sl v told, e = .returned (.tuple #[.pointer (some ⟨B, 0, none⟩), v]) ∧ TS w w' B S p q bd sl v told ∧ sl.length = N ∧ told.length ≤ m ∧ ToldIn told) ∨
  (100 < m ∧ e = .returned (.tuple #[.pointer none, .slice none 0 0]) ∧ Below w.heap.size w w')
set_option maxRecDepth 100000 in
set_option maxHeartbeats 2000000 in
theorem grown7_in (n : Int) (A : Option Addr) (al : List Act7) (c : Nat) (hc : al.length ≤ c) (hm : al.length ≤ maxLen) (hS : SliceOf w A 9 act7Enc act70 al) (hT : Tab w) (N : Nat) (hN : (N : Int) = 1 + (max 0 n) % 8) :
    Calls Tryd.prog 30 #[.int .i64 n, .slice A al.length c] w (GrownB N al.length w) := by
  unfold maxLen at hm
  obtain ⟨i0, hi, hz0, hz1, hz2⟩ := info_parts infoTok
  have HI := Lib.hid hi
  have HZ0 := Lib.hid hz0
  have HZ1 := Lib.hid hz1
  have HZ2 := Lib.hid hz2
  have hN1 : 1 ≤ N := by omega
  have hN2 : N ≤ 8 := by omega
  have HNe := Lib.hid hN
  have HS := Lib.hid hS
  have HT := Lib.hid hT
  have h0 : 0 < w.heap.size := lt_of_cell (hT 0 (by decide))
  clear hS hN hT hi hz0 hz1 hz2
  have hmax : (if (0 : Int) < n then n else 0) = max 0 n := by omega
  go_enter Tryd.func30, Tryd.ntmps30
  go_wp2_with fail
  rw [← HNe.out]
  refine (tnew_ts N w hN1 (by omega)).mono ?_
  rintro e w1 ⟨B, S, p, q, rfl, hS⟩
  have HS1 := Lib.hid hS
  generalize w1.heap.size = bd at *
  clear hS hmax
  by_cases hlong : 100 < al.length
  · go_wp2
    go_ret2
    exact .inr ⟨hlong, rfl, HS1.out.below⟩
  · go_wp2
    go_loopw [8, 35] (fun v8 v35 wr => ∃ (k : Nat) (l : List Slot) (told : List (Int × Int)), k ≤ al.length ∧ v35 = .int .i64 k ∧ Hid (TS w wr B S p q bd l v8 told) ∧ Hid (l.length = N) ∧ told.length ≤ k ∧ Hid (ToldIn told)) (fun _ v35 _ => al.length - (intOf v35).toNat)
    case atStart => exact ⟨0, _, [], by omega, rfl, HS1, Lib.hid List.length_replicate, by simp, Lib.hid (fun x hx => by cases hx)⟩
    case round =>
      obtain ⟨k, l, told, hk, rfl, HSk, HLk, htold, HTk⟩ := hrel
      by_cases hlt : k < al.length
      · obtain ⟨b, o, rfl, e1⟩ := act7_cells (HS.out.on HSk.out.below) k hlt
        obtain ⟨A2, c2, rfl, hc2, hS2⟩ := own_any HSk.out.row
        generalize al.getD k act70 = x at e1
        obtain ⟨xk, xw, xr, xi, xg, ⟨xa, xre, xh, xp⟩⟩ := x
        have d0 := e1 0 _ rfl
        have d1 := e1 1 _ rfl
        have d2 := e1 2 _ rfl
        have d3 := e1 3 _ rfl
        have d4 := e1 4 _ rfl
        have d5 := e1 5 _ rfl
        have d6 := e1 6 _ rfl
        have d7 := e1 7 _ rfl
        have d8 := e1 8 _ rfl
        rw [Nat.add_zero] at d0
        have HC : Hid (Calls Tryd.prog 40 #[act7V ⟨xk, xw, xr, xi, xg, ⟨xa, xre, xh, xp⟩⟩, .slice A2 told.length c2] (wr.alloc (.cells #[.int .i64 xk, .int .i64 xw, .bool xr, .int .i64 xi, .int .i64 xg, .int .i64 xa, .int .i64 xre, .bool xh, .bool xp] 70)) (TokPost (wr.alloc (.cells #[.int .i64 xk, .int .i64 xw, .bool xr, .int .i64 xi, .int .i64 xg, .int .i64 xa, .int .i64 xre, .bool xh, .bool xp] 70)))) :=
          Lib.hid (token_any _ A2 c2 (by unfold maxLen; omega) (hS2.on (below1 wr _)))
        clear e1 hS2
        go_wp2_with fail
        refine HC.out.mono ?_
        rintro e w2 ⟨i, g, rfl, hb⟩
        have HS2 := Lib.hid (((HSk.out.on (below1 wr _)).on hb).put (.cells #[.int .i64 i, .int .i64 g] 57))
        have hblk := ((one_block hb).symm ▸ (Below.heap_alloc w2 (.cells #[.int .i64 i, .int .i64 g] 57) wr.heap.size (Nat.lt_of_lt_of_le (by simp) hb.size)) : (w2.alloc (.cells #[.int .i64 i, .int .i64 g] 57)).heap[wr.heap.size]? = _)
        have f0 := (blk_cells hblk 0).trans rfl
        have f5 := (blk_cells hblk 5).trans rfl
        have f6 := (blk_cells hblk 6).trans rfl
        have f7 := (blk_cells hblk 7).trans rfl
        have f8 := (blk_cells hblk 8).trans rfl
        have p0 := (blk_cells (heap_alloc_new w2 (.cells #[.int .i64 i, .int .i64 g] 57)) 0).trans rfl
        have p1 := (blk_cells (heap_alloc_new w2 (.cells #[.int .i64 i, .int .i64 g] 57)) 1).trans rfl
        clear hb hblk d0 d1 d2 d3 d4 d5 d6 d7 d8 HC
        unfold tokV
        by_cases hk0 : xk = 0
        · subst hk0
          go_wp2_with fail
          refine (HS2.out.add HT.out h0 ⟨xa, xre, xh, xp⟩).mono ?_
          rintro e w3 ⟨rfl, hS3, hm3⟩
          have HS3 := Lib.hid (hS3.put (.cells #[.int .i64 (addTok l).1, .int .i64 (addTok l).2] 57))
          have HTN := Lib.hid (addTok_in (by have := HLk.out; omega) HSk.out.tab.gen)
          have HL3 := Lib.hid ((addT_length l ⟨xa, xre, xh, xp⟩).trans HLk.out)
          have q0 := (blk_cells (heap_alloc_new w3 (.cells #[.int .i64 (addTok l).1, .int .i64 (addTok l).2] 57)) 0).trans rfl
          have q1 := (blk_cells (heap_alloc_new w3 (.cells #[.int .i64 (addTok l).1, .int .i64 (addTok l).2] 57)) 1).trans rfl
          have hle3 := hS3.le
          clear hS3 hm3 HS2 f0 f5 f6 f7 f8 p0 p1
          unfold tokV
          have he : addErr l = 0 ∨ addErr l = 12 := by unfold addErr; split <;> simp
          generalize addT l ⟨xa, xre, xh, xp⟩ = l2 at *
          generalize addTok l = tk at *
          obtain ⟨ti, tg⟩ := tk
          rcases he with he | he
          · rw [he]
            go_wp2_with (at_builtin; refine wpList_append_own _ rfl _ _ 53 rfl bd 57 i0 (.agg #[.int .i64 0, .int .i64 0]) 2 16 Tryd.underlying53 HI.out HZ0.out HZ1.out HZ2.out rfl (by decide) _ _ _ rfl (HS3.out.row.alloc _) ⟨w3.heap.size + 1, 0, none⟩ 1 1 [.int .i64 ti, .int .i64 tg] rfl rfl (World.news_of_block (cs := #[.int .i64 ti, .int .i64 tg]) (t := 57) (fr := (0, 0)) (by simpa using heap_alloc_new (w3.alloc (.cells #[.int .i64 ti, .int .i64 tg] 57)) (.cells #[.int .i64 ti, .int .i64 tg] 57))) (by simp [Value.oneCell']) (by unfold maxLen; omega) (by omega) (by simp; omega) ?_; intro v' w5 hown' hgrow _)
            have HS5 := Lib.hid ((HS3.out.put _).app hgrow (told' := told ++ [(ti, tg)]) (by simpa [tokEnc] using hown'))
            have HT5 := Lib.hid (HTk.out.snoc HTN.out)
            clear hown' hgrow HTN
            go_roundw
            case rel => exact ⟨k + 1, l2, told ++ [(ti, tg)], by omega, by go_num, HS5, HL3, by simp; omega, HT5⟩
            case measure => simp [intOf]; omega
          · rw [he]
            go_wp2
            go_roundw
            case rel => exact ⟨k + 1, l2, told, by omega, by go_num, HS3, HL3, by omega, HTk⟩
            case measure => simp [intOf]; omega
        · by_cases hk2 : xk = 2
          · subst hk2
            go_wp2_with fail
            refine (HS2.out.set i g ⟨xa, xre, xh, xp⟩).mono ?_
            rintro e w3 ⟨rfl, hS3, hm3⟩
            have HS3 := Lib.hid hS3
            have HL3 := Lib.hid ((setT_length l i g ⟨xa, xre, xh, xp⟩).trans HLk.out)
            clear hS3 hm3 HS2 f0 f5 f6 f7 f8 p0 p1
            go_wp2
            go_roundw
            case rel => exact ⟨k + 1, _, told, by omega, by go_num, HS3, HL3, by omega, HTk⟩
            case measure => simp [intOf]; omega
          · by_cases hk3 : xk = 3
            · subst hk3
              go_wp2_with fail
              refine (HS2.out.drop i g).mono ?_
              rintro e w3 ⟨rfl, hS3, hm3⟩
              have HS3 := Lib.hid hS3
              have HL3 := Lib.hid ((dropT_length l i g).trans HLk.out)
              clear hS3 hm3 HS2 f0 f5 f6 f7 f8 p0 p1
              go_wp2
              go_roundw
              case rel => exact ⟨k + 1, _, told, by omega, by go_num, HS3, HL3, by omega, HTk⟩
              case measure => simp [intOf]; omega
            · have z0 : (xk == 0) = false := by simpa using hk0
              have z2 : (xk == 2) = false := by simpa using hk2
              have z3 : (xk == 3) = false := by simpa using hk3
              clear hk0 hk2 hk3
              go_wp2
              go_roundw
              case rel => exact ⟨k + 1, l, told, by omega, by go_num, HS2, HLk, by omega, HTk⟩
              case measure => simp [intOf]; omega
      · obtain rfl : k = al.length := by omega
        go_wp2
        go_ret2
        exact .inl ⟨by omega, B, S, p, q, bd, l, _, told, rfl, HSk.out, HLk.out, htold, HTk.out⟩
end Go.Proofs.YtbdpbkblihaeiaaDoor
