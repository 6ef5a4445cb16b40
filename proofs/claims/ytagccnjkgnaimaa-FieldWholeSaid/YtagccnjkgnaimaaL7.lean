/- FieldWhole: the walk. -/
import Derived.Test.YtagccnjkgnaimaaL6
import Derived.Maps.AppendAt
import Derived.Deep.AppendLies
import Derived.Laws.AppendOwn
namespace Go.Proofs.Ytagccnjkgnaimaa
open Go.RowKit Go.Proofs.YtagccnjkgnaimaaW.PrintWords
set_option linter.unusedVariables false
/-- Fields that lie one behind the other from 0 to s. -/
structure Tiles (l : List (Int × Int)) (s : Int) : Prop where
  nonneg : 0 ≤ s
  le : s ≤ 64
  len : (l.length : Int) ≤ s
  right : ∀ f ∈ l, rightB f.1 f.2 = true
  cover : ∀ b : Int, cnt b l = if 0 ≤ b ∧ b < s then 1 else 0
theorem cnt_append (b : Int) : ∀ (l m : List (Int × Int)), cnt b (l ++ m) = cnt b l + cnt b m
  | [], m => by simp [cnt]
  | (a, n) :: t, m => by simp only [List.cons_append, cnt, cnt_append b t m]; omega
theorem Tiles.nil : Tiles [] 0 := ⟨by omega, by omega, by simp, by simp, fun b => by rw [if_neg (by omega)]; rfl⟩
theorem Tiles.snoc {l : List (Int × Int)} {s n : Int} (h : Tiles l s) (h0 : 0 < n) (h1 : s + n ≤ 64) : Tiles (l ++ [(s, n)]) (s + n) := by
  refine ⟨by have := h.nonneg; omega, h1, by have := h.len; simp; omega, ?_, fun b => ?_⟩
  · intro f hf
    rcases List.mem_append.1 hf with g | g
    · exact h.right f g
    · simp at g; subst g; exact rightB_iff.2 ⟨h.nonneg, by omega, h0, by omega⟩
  · rw [cnt_append, h.cover]
    simp only [cnt]
    have := h.nonneg
    by_cases c1 : 0 ≤ b ∧ b < s
    · rw [if_pos c1, if_neg (by omega), if_pos (by omega)]
    · rw [if_neg c1]
      by_cases c2 : s ≤ b ∧ b < s + n
      · rw [if_pos c2, if_pos (by omega)]
      · rw [if_neg c2, if_neg (by omega)]
theorem Tiles.apart {l : List (Int × Int)} {s : Int} (h : Tiles l s) : apGo 0 l = true := by
  rw [show (0 : Int) = ((0 : Nat) : Int) from rfl, apGo_iff l 0 (by decide)]
  refine ⟨h.right, fun b _ => ?_⟩
  rw [h.cover]
  simp only [Nat.zero_testBit, Bool.toNat_false, Nat.zero_add]
  split <;> omega
theorem width_in (x : Int) : 1 ≤ wrap64 (1 + wrap64 ((IntKind.u64.wrap x).tmod 20)) ∧ wrap64 (1 + wrap64 ((IntKind.u64.wrap x).tmod 20)) ≤ 20 := by
  rw [IntKind.wrap_u64, Int.tmod_eq_emod_of_nonneg (by omega)]
  unfold wrap64
  omega
theorem Try_info24 : (Try.prog.info? 24).map (fun i => (i.zero, i.size, i.bytes)) = some (some (.agg #[.int .i64 0, .int .i64 0]), 2, 16) := by kernel_rfl
set_option maxHeartbeats 1000000 in
theorem whole_walk (x : Int) (A : Option Addr) (c : Nat) (l : List Int) (w : World) (hx0 : 0 ≤ x) (hx1 : x < 18446744073709551616) (hl : SliceOf w A 1 (enc1 .i64) 0 l) (hc : l.length ≤ c) (hm : l.length ≤ maxLen) :
    Calls Try.prog 9 #[.int .u64 x, .slice A l.length c] w fun e w' => e = .returned (.bool true) ∧ Below w.heap.size w w' := by
  unfold maxLen at hm
  obtain ⟨i0, hi, hz0, hz1, hz2⟩ := info_parts Try_info24
  have HI := Lib.hid hi
  have HZ0 := Lib.hid hz0
  have HZ1 := Lib.hid hz1
  have HZ2 := Lib.hid hz2
  have HL := Lib.hid (hl.take 64)
  clear hl hi hz0 hz1 hz2
  go_enter Try.func9, Try.ntmps9
  go_wp2_with fail
  have hlen : (min (l.length : Int) 64).toNat = (l.take 64).length := by rw [List.length_take]; omega
  have hlen' : min (l.length : Int) 64 = ((l.take 64).length : Int) := by rw [List.length_take]; omega
  have h70 : (l.take 64).length ≤ 64 := by rw [List.length_take]; omega
  have hlc : (l.take 64).length ≤ c := by rw [List.length_take]; omega
  rw [hlen]
  (try rw [hlen'])
  clear hlen hlen'
  generalize l.take 64 = l' at HL h70 hlc ⊢
  rw [show max (l'.length : Int) 0 = (l'.length : Int) by omega]
  go_loopw [5, 6, 20] (fun v5 v6 v20 wr => ∃ (ls : List (Int × Int)) (s : Int) (k : Nat), k ≤ l'.length ∧ v6 = .int .i64 s ∧ v20 = .int .i64 k ∧ Hid (wr.ownsRow w.heap.size 24 2 v5 ls.length (ls.flatMap enc2)) ∧ Hid (Tiles ls s) ∧ 0 ≤ s ∧ s ≤ 64 ∧ (ls.length : Int) ≤ s ∧ Below w.heap.size w wr) (fun _ _ v20 _ => l'.length - (intOf v20).toNat)
  case atStart => exact ⟨[], 0, 0, by omega, rfl, rfl, Lib.hid (World.ownsRow_nil _ _ _ _), Lib.hid Tiles.nil, by omega, by omega, by simp, Below.refl _ _⟩
  case round =>
    obtain ⟨ls, s, k, hk, rfl, rfl, HO, HT, hs0, hs1, hs2, hb⟩ := hrel
    have hbs := hb.size
    by_cases hlt : k < l'.length
    · obtain ⟨b1, o1, rfl, e1⟩ := at_one HL.out k hlt
      replace e1 := cell_on hb e1
      generalize l'.getD k 0 = y at e1
      have hn := width_in y
      by_cases hbr : 64 < s + wrap64 (1 + wrap64 ((IntKind.u64.wrap y).tmod 20))
      · by_cases hlast : s < 64
        · have hs64 : s < 64 := by omega
          have HT2 := Lib.hid (HT.out.snoc (n := 64 - s) (by omega) (by omega))
          go_wp2_with (at_builtin; refine wpList_append_own _ rfl _ _ 33 rfl w.heap.size 24 i0 (.agg #[.int .i64 0, .int .i64 0]) 2 16 Try.underlying33 HI.out HZ0.out HZ1.out HZ2.out rfl (by decide) _ _ _ rfl (HO.out.alloc _) ⟨wr.heap.size, 0, none⟩ 1 1 [.int .i64 s, .int .i64 (64 - s)] rfl rfl (World.news_of_block (cs := #[.int .i64 s, .int .i64 (64 - s)]) (t := 24) (fr := (0, 0)) (heap_alloc_new wr _)) (by simp [Value.oneCell']) (by unfold maxLen; omega) (by omega) (by simp; omega) ?_; intro v' w5 hown' hgrow _)
          have B5 : Below w.heap.size w w5 := (hb.alloc hb.size _).grown hgrow (by simp; omega) (fun k e => (HO.out.lt k e).1)
          have HO2 := Lib.hid (show w5.ownsRow w.heap.size 24 2 v' (ls ++ [(s, 64 - s)]).length ((ls ++ [(s, 64 - s)]).flatMap enc2) by simpa [enc2] using hown')
          clear hown' hgrow
          obtain ⟨A2, c2, rfl, hc2, hS2⟩ := own_slice enc2 (0, 0) (fun _ => rfl) HO2.out
          have HS := Lib.hid hS2
          have ha2 := (show s + (64 - s) = 64 by omega) ▸ HT2.out
          have HAP := Lib.hid ha2.apart
          have hln := ha2.len
          obtain ⟨v, hv0, hv1, hp, hu2, hand, hvx⟩ := back_law x (ls ++ [(s, 64 - s)]) hx0 hx1 HAP.out
          have hvx := hvx (fun b hb => by rw [ha2.cover, if_pos (by omega)]; omega)
          subst hvx
          have HU := Lib.hid (unpack_in v (ls ++ [(s, 64 - s)]) hx0 hx1 HAP.out)
          have HP := Lib.hid hp
          have H2U := Lib.hid (show (unpackI v (ls ++ [(s, 64 - s)])).2 = 0 by unfold unpackI; rw [if_pos HAP.out])
          clear hp hu2 hand hS2 ha2 HO2 HT2
          generalize (ls ++ [(s, 64 - s)]) = lz at *
          go_wp2_with fail
          refine (unpack_any v A2 c2 lz _ HS.out (by omega) hc2).mono ?_
          rintro e w6 ⟨A1, c1, rfl, hc1, hC1, hbx⟩
          replace B5 := B5.on hbx
          replace HS := Lib.hid (HS.out.on hbx)
          have HC1 := Lib.hid hC1
          clear hC1 hbx
          rw [H2U.out]
          go_wp2_with fail
          refine (pack_any A2 A1 lz (unpackI v lz).1 c2 c1 _ HS.out.fl (slice_of_C HC1.out).u HU.out (by unfold maxLen; omega)).mono ?_
          rintro e w7 ⟨rfl, hbx⟩
          replace B5 := B5.on hbx
          clear hbx
          rw [HP.out]
          go_wp2_with (first | (go_at_call 18; refine (alive_any _).mono ?_; rintro e w1 ⟨rfl, hbx⟩; replace B5 := B5.on hbx; clear hbx))
          go_ret
          exact ⟨rfl, B5⟩
        · have hs64 : s = 64 := by omega
          subst hs64
          have HT2 := HT
          have HO2 := HO
          have B5 := hb
          obtain ⟨A2, c2, rfl, hc2, hS2⟩ := own_slice enc2 (0, 0) (fun _ => rfl) HO2.out
          have HS := Lib.hid hS2
          have ha2 := HT2.out
          have HAP := Lib.hid ha2.apart
          have hln := ha2.len
          obtain ⟨v, hv0, hv1, hp, hu2, hand, hvx⟩ := back_law x ls hx0 hx1 HAP.out
          have hvx := hvx (fun b hb => by rw [ha2.cover, if_pos (by omega)]; omega)
          subst hvx
          have HU := Lib.hid (unpack_in v ls hx0 hx1 HAP.out)
          have HP := Lib.hid hp
          have H2U := Lib.hid (show (unpackI v ls).2 = 0 by unfold unpackI; rw [if_pos HAP.out])
          clear hp hu2 hand hS2 ha2 HO2 HT2
          generalize ls = lz at *
          go_wp2_with fail
          refine (unpack_any v A2 c2 lz _ HS.out (by omega) hc2).mono ?_
          rintro e w6 ⟨A1, c1, rfl, hc1, hC1, hbx⟩
          replace B5 := B5.on hbx
          replace HS := Lib.hid (HS.out.on hbx)
          have HC1 := Lib.hid hC1
          clear hC1 hbx
          rw [H2U.out]
          go_wp2_with fail
          refine (pack_any A2 A1 lz (unpackI v lz).1 c2 c1 _ HS.out.fl (slice_of_C HC1.out).u HU.out (by unfold maxLen; omega)).mono ?_
          rintro e w7 ⟨rfl, hbx⟩
          replace B5 := B5.on hbx
          clear hbx
          rw [HP.out]
          go_wp2_with (first | (go_at_call 18; refine (alive_any _).mono ?_; rintro e w1 ⟨rfl, hbx⟩; replace B5 := B5.on hbx; clear hbx))
          go_ret
          exact ⟨rfl, B5⟩
      · generalize hnn : wrap64 (1 + wrap64 ((IntKind.u64.wrap y).tmod 20)) = n at *
        have HN := Lib.hid hnn
        clear hnn
        obtain ⟨hn1, hn2⟩ := hn
        have hsn : s + n ≤ 64 := by omega
        have HT2 := Lib.hid (HT.out.snoc (n := n) (by omega) (by omega))
        have h1 := HN.out
        go_wp2_with (first | (at_builtin; refine wpList_append_own _ rfl _ _ 33 rfl w.heap.size 24 i0 (.agg #[.int .i64 0, .int .i64 0]) 2 16 Try.underlying33 HI.out HZ0.out HZ1.out HZ2.out rfl (by decide) _ _ _ rfl (HO.out.alloc _) ⟨wr.heap.size, 0, none⟩ 1 1 [.int .i64 s, .int .i64 n] rfl rfl (World.news_of_block (cs := #[.int .i64 s, .int .i64 n]) (t := 24) (fr := (0, 0)) (heap_alloc_new wr _)) (by simp [Value.oneCell']) (by unfold maxLen; omega) (by omega) (by simp; omega) ?_; intro v' w5 hown' hgrow _) | (rw [h1]))
        have B5 : Below w.heap.size w w5 := (hb.alloc hb.size _).grown hgrow (by simp; omega) (fun k e => (HO.out.lt k e).1)
        have HO2 := Lib.hid (show w5.ownsRow w.heap.size 24 2 v' (ls ++ [(s, n)]).length ((ls ++ [(s, n)]).flatMap enc2) by simpa [enc2] using hown')
        clear hown' hgrow
        go_roundw
        case rel => exact ⟨ls ++ [(s, n)], s + n, k + 1, by omega, rfl, by go_num, HO2, HT2, by omega, by omega, by simp; omega, B5⟩
        case measure => simp [intOf]; omega
    · obtain rfl : k = l'.length := by omega
      by_cases hlast : s < 64
      · have hs64 : s < 64 := by omega
        have HT2 := Lib.hid (HT.out.snoc (n := 64 - s) (by omega) (by omega))
        go_wp2_with (at_builtin; refine wpList_append_own _ rfl _ _ 33 rfl w.heap.size 24 i0 (.agg #[.int .i64 0, .int .i64 0]) 2 16 Try.underlying33 HI.out HZ0.out HZ1.out HZ2.out rfl (by decide) _ _ _ rfl (HO.out.alloc _) ⟨wr.heap.size, 0, none⟩ 1 1 [.int .i64 s, .int .i64 (64 - s)] rfl rfl (World.news_of_block (cs := #[.int .i64 s, .int .i64 (64 - s)]) (t := 24) (fr := (0, 0)) (heap_alloc_new wr _)) (by simp [Value.oneCell']) (by unfold maxLen; omega) (by omega) (by simp; omega) ?_; intro v' w5 hown' hgrow _)
        have B5 : Below w.heap.size w w5 := (hb.alloc hb.size _).grown hgrow (by simp; omega) (fun k e => (HO.out.lt k e).1)
        have HO2 := Lib.hid (show w5.ownsRow w.heap.size 24 2 v' (ls ++ [(s, 64 - s)]).length ((ls ++ [(s, 64 - s)]).flatMap enc2) by simpa [enc2] using hown')
        clear hown' hgrow
        obtain ⟨A2, c2, rfl, hc2, hS2⟩ := own_slice enc2 (0, 0) (fun _ => rfl) HO2.out
        have HS := Lib.hid hS2
        have ha2 := (show s + (64 - s) = 64 by omega) ▸ HT2.out
        have HAP := Lib.hid ha2.apart
        have hln := ha2.len
        obtain ⟨v, hv0, hv1, hp, hu2, hand, hvx⟩ := back_law x (ls ++ [(s, 64 - s)]) hx0 hx1 HAP.out
        have hvx := hvx (fun b hb => by rw [ha2.cover, if_pos (by omega)]; omega)
        subst hvx
        have HU := Lib.hid (unpack_in v (ls ++ [(s, 64 - s)]) hx0 hx1 HAP.out)
        have HP := Lib.hid hp
        have H2U := Lib.hid (show (unpackI v (ls ++ [(s, 64 - s)])).2 = 0 by unfold unpackI; rw [if_pos HAP.out])
        clear hp hu2 hand hS2 ha2 HO2 HT2
        generalize (ls ++ [(s, 64 - s)]) = lz at *
        go_wp2_with fail
        refine (unpack_any v A2 c2 lz _ HS.out (by omega) hc2).mono ?_
        rintro e w6 ⟨A1, c1, rfl, hc1, hC1, hbx⟩
        replace B5 := B5.on hbx
        replace HS := Lib.hid (HS.out.on hbx)
        have HC1 := Lib.hid hC1
        clear hC1 hbx
        rw [H2U.out]
        go_wp2_with fail
        refine (pack_any A2 A1 lz (unpackI v lz).1 c2 c1 _ HS.out.fl (slice_of_C HC1.out).u HU.out (by unfold maxLen; omega)).mono ?_
        rintro e w7 ⟨rfl, hbx⟩
        replace B5 := B5.on hbx
        clear hbx
        rw [HP.out]
        go_wp2_with (first | (go_at_call 18; refine (alive_any _).mono ?_; rintro e w1 ⟨rfl, hbx⟩; replace B5 := B5.on hbx; clear hbx))
        go_ret
        exact ⟨rfl, B5⟩
      · have hs64 : s = 64 := by omega
        subst hs64
        have HT2 := HT
        have HO2 := HO
        have B5 := hb
        obtain ⟨A2, c2, rfl, hc2, hS2⟩ := own_slice enc2 (0, 0) (fun _ => rfl) HO2.out
        have HS := Lib.hid hS2
        have ha2 := HT2.out
        have HAP := Lib.hid ha2.apart
        have hln := ha2.len
        obtain ⟨v, hv0, hv1, hp, hu2, hand, hvx⟩ := back_law x ls hx0 hx1 HAP.out
        have hvx := hvx (fun b hb => by rw [ha2.cover, if_pos (by omega)]; omega)
        subst hvx
        have HU := Lib.hid (unpack_in v ls hx0 hx1 HAP.out)
        have HP := Lib.hid hp
        have H2U := Lib.hid (show (unpackI v ls).2 = 0 by unfold unpackI; rw [if_pos HAP.out])
        clear hp hu2 hand hS2 ha2 HO2 HT2
        generalize ls = lz at *
        go_wp2_with fail
        refine (unpack_any v A2 c2 lz _ HS.out (by omega) hc2).mono ?_
        rintro e w6 ⟨A1, c1, rfl, hc1, hC1, hbx⟩
        replace B5 := B5.on hbx
        replace HS := Lib.hid (HS.out.on hbx)
        have HC1 := Lib.hid hC1
        clear hC1 hbx
        rw [H2U.out]
        go_wp2_with fail
        refine (pack_any A2 A1 lz (unpackI v lz).1 c2 c1 _ HS.out.fl (slice_of_C HC1.out).u HU.out (by unfold maxLen; omega)).mono ?_
        rintro e w7 ⟨rfl, hbx⟩
        replace B5 := B5.on hbx
        clear hbx
        rw [HP.out]
        go_wp2_with (first | (go_at_call 18; refine (alive_any _).mono ?_; rintro e w1 ⟨rfl, hbx⟩; replace B5 := B5.on hbx; clear hbx))
        go_ret
        exact ⟨rfl, B5⟩
end Go.Proofs.Ytagccnjkgnaimaa
