/- Nc Qc -/
import Derived.Test.YtaifaefhghjiaaaDoorGN
import Derived.Test.YtaifaefhghjiaaaDoorGK
import Derived.OpenShut
import Derived.ChangeSame
import Derived.ChangeArms
import Derived.ProofKit
import Derived.Lib.SmallJoins
section
namespace Go.Proofs.YtaifaefhghjiaaaDoor
open Go.RowKit
set_option linter.unusedVariables false
set_option linter.unusedSimpArgs false
variable {w w' base : World} {M B Wb Ob p q P bd D G Wg Og size : Nat} {W W' own own' : List Int} {ls : List Lay} {T : Nat → Prop} {v u : Value} {l dl : List LayR}
/-- One layout in a row of its own. -/
theorem one_row {k : Nat} {y : Lay} {A1 A2 : Option Addr} {c1 c2 : Nat} (h : w.heap[k]? = some (.cells #[.int .i64 y.fixed, .slice A1 y.refs.length c1, .int .i64 y.record, .slice A2 y.recs.length c2] 24 (0, 0))) : SliceOf w (some ⟨k, 0, none⟩) 4 layREnc layR0 [⟨y, A1, c1, A2, c2⟩] := fun i hi => by
  obtain rfl : i = 0 := by simp at hi; omega
  refine ⟨_, _, rfl, fun j x hx => ?_⟩
  have h0 := blk_cells h j
  rw [Nat.zero_mul, Nat.add_zero, Nat.zero_add]
  rw [h0]
  simpa [layREnc] using hx
theorem a12_cells {A : Option Addr} {al : List A12} (h : SliceOf w A 10 a12Enc a120 al) (k : Nat) (hk : k < al.length) : ∃ b o, A = some ⟨b, o, none⟩ ∧ ∀ j u, (a12Enc (al.getD k a120))[j]? = some u → w.cell? ⟨b, o + k * 10 + j, none⟩ = some u := h k hk
theorem kept_one {y : Lay} {A1 A2 : Option Addr} {c1 c2 : Nat} (h : y.right = true) : keptR [⟨y, A1, c1, A2, c2⟩] = [⟨y, A1, c1, A2, c2⟩] := by
  show List.filter rightR [⟨y, A1, c1, A2, c2⟩] = _
  rw [List.filter_cons_of_pos (show rightR ⟨y, A1, c1, A2, c2⟩ = true from h)]
  rfl
set_option maxRecDepth 100000 in
set_option maxHeartbeats 4000000 in
theorem ibounds_walk (y : Lay) (A1 : Option Addr) (c1 : Nat) (A2 : Option Addr) (c2 : Nat) (Aa : Option Addr) (al : List A12) (capa : Nat) (hL : LayIs w y A1 c1 A2 c2) (hcp : al.length ≤ capa) (hs : SliceOf w Aa 10 a12Enc a120 al) (hg : ∀ a ∈ al, good12 a) (hT : Tab w) :
    Calls Tryd.prog 3 #[layV y A1 c1 A2 c2, .slice Aa al.length capa] w fun e w' => e = .returned (.bool true) ∧ Below w.heap.size w w' := by
  have h0 : 0 < w.heap.size := lt_of_cell (hT 0 (by decide))
  have HAL : Hid (∀ w1, Below w.heap.size w w1 → Calls Tryd.prog 8 #[] w1 fun e w' => e = .returned (.bool true) ∧ Below w1.heap.size w1 w') := Lib.hid (fun w1 hb => alive12_any w1 (hT.below hb h0))
  have HTB : Hid (∀ w1, Below w.heap.size w w1 → Tab w1) := Lib.hid (fun w1 hb => hT.below hb h0)
  have HLY := Lib.hid hL
  have HSA := Lib.hid hs
  have HGA := Lib.hid hg
  unfold layV
  have hb1 := below1 w (.cells #[.int .i64 y.fixed, .slice A1 y.refs.length c1, .int .i64 y.record, .slice A2 y.recs.length c2] 24)
  have hl1 := heap_alloc_new w (.cells #[.int .i64 y.fixed, .slice A1 y.refs.length c1, .int .i64 y.record, .slice A2 y.recs.length c2] 24)
  have hz1 : (w.alloc (.cells #[.int .i64 y.fixed, .slice A1 y.refs.length c1, .int .i64 y.record, .slice A2 y.recs.length c2] 24)).heap.size = w.heap.size + 1 := World.size_alloc _ _
  clear hT hL hs hg h0
  go_enter Tryd.func3, Tryd.ntmps3
  go_wp2_with fail
  generalize hW1 : w.alloc (.cells #[.int .i64 y.fixed, .slice A1 y.refs.length c1, .int .i64 y.record, .slice A2 y.recs.length c2] 24) = W1 at *
  have hb2 := hb1.on (below1 W1 (.cells #[.int .i64 y.fixed, .slice A1 y.refs.length c1, .int .i64 y.record, .slice A2 y.recs.length c2] 24))
  have hl2 := (Below.heap_alloc W1 (.cells #[.int .i64 y.fixed, .slice A1 y.refs.length c1, .int .i64 y.record, .slice A2 y.recs.length c2] 24) _ (block_lt hl1)).trans hl1
  have hr2 := heap_alloc_new W1 (.cells #[.int .i64 y.fixed, .slice A1 y.refs.length c1, .int .i64 y.record, .slice A2 y.recs.length c2] 24)
  rw [hz1] at hr2
  have HGR := Lib.hid (great12_any (some ⟨w.heap.size + 1, 0, none⟩) [⟨y, A1, c1, A2, c2⟩] 1 _ (one_row hr2) (by unfold maxLen; simp))
  have HB2 := Lib.hid hb2
  have HL2 := Lib.hid hl2
  clear hW1 hb1 hl1 hb2 hl2 hr2 hz1
  generalize W1.alloc (.cells #[.int .i64 y.fixed, .slice A1 y.refs.length c1, .int .i64 y.record, .slice A2 y.recs.length c2] 24) = W2 at *
  generalize ([⟨y, A1, c1, A2, c2⟩] : List LayR).any bigR = gg at *
  refine HGR.out.mono ?_
  rintro e w3 ⟨rfl, hb3⟩
  have hl3 := (hb3.block _ (block_lt HL2.out)).trans HL2.out
  have HB3 := Lib.hid (HB2.out.on hb3)
  clear hb3 HGR HB2 HL2
  have k0 := (blk_cells hl3 0).trans rfl
  have k1 := (blk_cells hl3 1).trans rfl
  have k2 := (blk_cells hl3 2).trans rfl
  have k3 := (blk_cells hl3 3).trans rfl
  by_cases gl : gg = true ∨ 60 < al.length
  · have HA3 := Lib.hid (HAL.out _ HB3.out)
    cases gg with
    | true =>
      go_wp2_with fail
      refine HA3.out.mono ?_
      rintro e w4 ⟨rfl, hb4⟩
      have HB4 := Lib.hid (HB3.out.on hb4)
      clear hb4
      go_wp2
      go_ret
      exact ⟨rfl, HB4.out⟩
    | false =>
      have g2 : 60 < al.length := gl.resolve_left (by decide)
      have d1 : decide ((60 : Int) < (al.length : Int)) = true := decide_eq_true (by omega)
      clear gl
      go_wp2_with fail
      refine HA3.out.mono ?_
      rintro e w4 ⟨rfl, hb4⟩
      have HB4 := Lib.hid (HB3.out.on hb4)
      clear hb4
      go_wp2
      go_ret
      exact ⟨rfl, HB4.out⟩
  · have hgf : gg = false := by cases gg <;> simp_all
    subst hgf
    have g2 : al.length ≤ 60 := by omega
    have d1 : decide ((60 : Int) < (al.length : Int)) = false := decide_eq_false (by omega)
    clear gl
    have hb4 := below1 w3 (.cells #[.int .i64 y.fixed, .slice A1 y.refs.length c1, .int .i64 y.record, .slice A2 y.recs.length c2] 24)
    have hn4 := heap_alloc_new w3 (.cells #[.int .i64 y.fixed, .slice A1 y.refs.length c1, .int .i64 y.record, .slice A2 y.recs.length c2] 24)
    have hl4 := (hb4.block _ (block_lt hl3)).trans hl3
    have HB4 := Lib.hid (HB3.out.on hb4)
    have HLY4 := Lib.hid (HLY.out.on HB4.out)
    have HMD := Lib.hid (imade_any (some ⟨w3.heap.size, 0, none⟩) [⟨y, A1, c1, A2, c2⟩] 1 _ (one_row hn4) (fun r hr => by rw [List.mem_singleton] at hr; subst hr; exact HLY4.out) (show 1 ≤ 1 by decide) (by unfold maxLen; simp) (HTB.out _ HB4.out))
    have HL4 := Lib.hid hl4
    clear hb4 hn4 hl4 hl3
    go_wp2_with fail
    generalize w3.alloc (.cells #[.int .i64 y.fixed, .slice A1 y.refs.length c1, .int .i64 y.record, .slice A2 y.recs.length c2] 24) = W4 at *
    clear k0 k1 k2 k3
    refine HMD.out.mono ?_
    rintro e w5 ⟨B, Wb, Ob, p, q, P, M, D, G, Wg, Og, u, rfl, hj⟩
    have HBW : Hid (∀ Y, Below W4.heap.size W4 Y → Below w.heap.size w Y) := Lib.hid (fun Y hY => HB4.out.trans (hY.mono HB4.out.size))
    have HCL : Hid (∀ Y, Below W4.heap.size W4 Y → Y.heap[w.heap.size]? = some (.cells #[.int .i64 y.fixed, .slice A1 y.refs.length c1, .int .i64 y.record, .slice A2 y.recs.length c2] 24 (0, 0))) := Lib.hid (fun Y hY => (hY.block _ (block_lt HL4.out)).trans HL4.out)
    have HJ := Lib.hid hj
    have HA5 := Lib.hid (HAL.out _ (HBW.out _ hj.im.below))
    clear hj HMD HAL HTB HL4
    go_wp2_with fail
    refine HA5.out.mono ?_
    rintro e w6 ⟨rfl, hb6⟩
    have hbw6 := HJ.out.im.below.on hb6
    have hl6 := HCL.out _ hbw6
    have HIM := Lib.hid (HJ.out.im.on hb6)
    have k0 := (blk_cells hl6 0).trans rfl
    have k1 := (blk_cells hl6 1).trans rfl
    have k2 := (blk_cells hl6 2).trans rfl
    have k3 := (blk_cells hl6 3).trans rfl
    have HSZ := Lib.hid (refsize_any y (min 1 y.record) A1 c1 A2 c2 w6 (HLY4.out.on hbw6))
    unfold layV at HSZ
    have HI6 : Hid (y.right = true → IS W4 w6 M B Wb Ob p q P (Six Wb Ob p q Wg Og) zerosW [y]) := Lib.hid (fun hr => by
      have := (HJ.out.is zerosW_words zerosW_len).on hb6
      rwa [kept_one hr] at this)
    have HKP : Hid (y.right = true → (keptR [⟨y, A1, c1, A2, c2⟩]).length = 1) := Lib.hid (fun hr => by rw [kept_one hr]; rfl)
    have HB6 := Lib.hid (HBW.out _ hbw6)
    clear hl6 hb6 HA5 HJ hbw6
    generalize hc : min 1 y.record = c at *
    have hcs := Lib.hid (Lay.size_ok (x := y) (c := c))
    generalize hsz : y.size c = sz at *
    obtain ⟨n', code⟩ := sz
    go_wp2_with fail
    refine HSZ.out.mono ?_
    rintro e w7 ⟨rfl, hb7⟩
    have HB7 := Lib.hid (HB6.out.on hb7)
    by_cases gc : code = 0 ∧ n' ≤ 20
    · obtain ⟨rfl, gn⟩ := gc
      obtain ⟨q4, q5, q6, q7, q8, q9⟩ := hcs.out rfl
      obtain ⟨r1, r2, r3, r4, r5, r6, r7⟩ := Lay.right_out q4
      have hn0 : 0 ≤ n' := by
        have : 0 ≤ c * y.record := Int.mul_nonneg q5 r3
        show (0 : Int) ≤ (n', (0 : Int)).1
        rw [q8]
        omega
      obtain ⟨n, rfl⟩ : ∃ n : Nat, n' = n := ⟨n'.toNat, by omega⟩
      have hn20 : n ≤ 20 := by omega
      have d2 : decide ((20 : Int) < (n : Int)) = false := decide_eq_false (by omega)
      have HI7 := Lib.hid ((HI6.out q4).on hb7)
      have him := HIM.out.on hb7
      have hu1 := him.row
      rw [HKP.out q4] at hu1
      obtain ⟨Au, cu, hu, -, -⟩ := own_slice (l := keptR [⟨y, A1, c1, A2, c2⟩]) layREnc layR0 (fun _ => rfl) (by rw [HKP.out q4]; exact hu1)
      rw [HKP.out q4] at hu
      have e1 := him.c1
      subst hu
      have HSZ2 : Hid (y.size c = ((n : Int), 0)) := Lib.hid hsz
      have wn : IntKind.i64.wrap ((n : Int) + 1) = n + 1 := by rw [IntKind.wrap_i64]; omega
      clear hsz hcs q4 q5 q6 q7 q8 q9 r1 r2 r3 r4 r5 r6 r7 hn0 hb7 him hu1 HSZ HI6 HKP HIM k0 k1 k2 k3 HB6 gn HB3
      go_wp2_with fail
      go_loopw [69] (fun v69 wr => ∃ k : Nat, k ≤ 40 ∧ v69 = .int .i64 k ∧ Hid (IS W4 wr M B Wb Ob p q P (Six Wb Ob p q Wg Og) (seqW k) [y])) (fun v69 _ => 40 - (intOf v69).toNat)
      case atStart => exact ⟨0, by omega, rfl, HI7⟩
      case round =>
        obtain ⟨k, hk, rfl, HK⟩ := hrel
        clear HI7
        by_cases hlt : k < 40
        · have w1 : IntKind.u64.wrap (k : Int) = k := by rw [IntKind.wrap_u64]; omega
          have w2 : IntKind.u64.wrap ((k : Int) * 3) = (k : Int) * 3 := by rw [IntKind.wrap_u64]; omega
          have w3' : IntKind.u64.wrap ((k : Int) * 3 + 1) = (k : Int) * 3 + 1 := by rw [IntKind.wrap_u64]; omega
          have HWR : Hid (Calls Tryd.prog 11 #[.pointer (some ⟨B, 0, none⟩), .int .i64 k, .int .u64 ((k : Int) * 3 + 1)] wr fun e w' => (∃ x, e = .returned (.int .i64 x)) ∧ IS W4 w' M B Wb Ob p q P (Six Wb Ob p q Wg Og) (seqW (k + 1)) [y]) := Lib.hid ((HK.out.write k ((k : Int) * 3 + 1) (by omega) (by omega)).mono fun e w' ⟨h1, h2, h3⟩ => ⟨⟨_, h1⟩, by
            have e1 : wrW (seqW k) (onesO 5) 8 (k : Int) ((k : Int) * 3 + 1) = seqW (k + 1) := by
              unfold wrW
              rw [if_pos (by rw [ones_at (seqW_len k), if_neg (by omega), if_pos (by omega)]), Int.toNat_natCast]
              show _ = (seqW k).set k (3 * k + 1)
              rw [Int.mul_comm]
            rw [e1] at h2
            exact h2⟩)
          go_wp2_with fail
          refine HWR.out.mono ?_
          rintro e w8 ⟨⟨x, rfl⟩, h8⟩
          have HK8 := Lib.hid h8
          clear h8 HWR HK
          go_wp2
          go_roundw
          case rel => exact ⟨k + 1, by omega, by go_num, HK8⟩
          case measure => simp [intOf]; omega
        · have hk40 : k = 40 := by omega
          have HK40 : Hid (IS W4 wr M B Wb Ob p q P (Six Wb Ob p q Wg Og) (seqW 40) [y]) := Lib.hid (hk40 ▸ HK.out)
          have hl7 := HCL.out _ HK40.out.below
          have k2 := (blk_cells hl7 2).trans rfl
          have hb8 := below1 wr (.cells #[.int .i64 1, .int .i64 c, .int .i64 9] 43)
          have HI8 := Lib.hid (HK40.out.on hb8)
          have hn8 := heap_alloc_new wr (.cells #[.int .i64 1, .int .i64 c, .int .i64 9] 43)
          have h48 : ∀ k, Four3 Wb Ob p q k → k ≠ wr.heap.size := fun k hk e => by have := HK40.out.lt k hk; omega
          have hcm : min 1 y.record = c := hc
          have HMK : Hid (Calls Tryd.prog 12 #[.pointer (some ⟨M, 0, none⟩), .int .i64 8, .agg #[.int .i64 1, .int .i64 c, .int .i64 9]] (wr.alloc (.cells #[.int .i64 1, .int .i64 c, .int .i64 9] 43)) fun e w' => e = .returned (.tuple #[.int .i64 ((n : Int) + 1), .int .i64 0]) ∧ IS W4 w' M B Wb Ob p q P (Six Wb Ob p q Wg Og) ((zeroW (seqW 40) 8 (n + 1)).set 8 (encH 1 c 9)) [y] ∧ w'.heap[wr.heap.size]? = some (.cells #[.int .i64 1, .int .i64 c, .int .i64 9] 43 (0, 0))) := Lib.hid ((HI8.out.make 8 1 c 9).mono fun e w' ⟨h1, h2, h3⟩ => by
            obtain ⟨m1, m2, m3⟩ := bnd_make (seqW_len 40) HSZ2.out hn20
            rw [m1] at h1
            rw [m2] at h2
            exact ⟨h1, h2, h3.keeps hn8 (fun e => h48 _ e rfl)⟩)
          have HBD : Hid (Bnd ((zeroW (seqW 40) 8 (n + 1)).set 8 (encH 1 c 9)) y c n) := Lib.hid (bnd_made (seqW_len 40) HSZ2.out hn20 (fun k hk _ => seqW_get 40 (Nat.le_refl _) k hk))
          have HLT8 : Hid (∀ k, Four3 Wb Ob p q k → k < wr.heap.size) := Lib.hid HK40.out.lt
          clear HK hk40 hl7 hb8 hn8 h48 HI8 HK40
          go_wp2_with fail
          generalize wr.alloc (.cells #[.int .i64 1, .int .i64 c, .int .i64 9] 43) = W8 at *
          generalize wr.heap.size = nb at *
          refine HMK.out.mono ?_
          rintro e w9 ⟨rfl, h9, hn9⟩
          have HI9 := Lib.hid h9
          have HN9 := Lib.hid hn9
          clear h9 hn9 HMK k2
          generalize ((zeroW (seqW 40) 8 (n + 1)).set 8 (encH 1 c 9)) = WA at *
          go_wp2_with fail
          go_loopw [100] (fun v100 wr => ∃ (j : Nat) (W' : List Int), j ≤ al.length ∧ v100 = .int .i64 j ∧ Hid (IS W4 wr M B Wb Ob p q P (Six Wb Ob p q Wg Og) W' [y]) ∧ Hid (Bnd W' y c n) ∧ Hid (wr.heap[nb]? = some (.cells #[.int .i64 1, .int .i64 c, .int .i64 9] 43 (0, 0)))) (fun v100 _ => al.length - (intOf v100).toNat)
          case atStart => exact ⟨0, WA, by omega, rfl, HI9, HBD, HN9⟩
          case round =>
          obtain ⟨j, WJ, hj, rfl, HJ, HBJ, HNJ⟩ := hrel
          clear HI9 HBD HN9
          by_cases hlt2 : j < al.length
          · obtain ⟨b, o, hA, hcx⟩ := a12_cells HSA.out j hlt2
            subst hA
            have hga := HGA.out (al.getD j a120) (by
              have : al.getD j a120 = al[j] := by simp [List.getD, hlt2]
              rw [this]; exact List.getElem_mem hlt2)
            generalize al.getD j a120 = a at *
            obtain ⟨ak, aa, ap, ahl, ahc, ahs, ax, alk, ali, alg⟩ := a
            have hbw := HBW.out _ HJ.out.below
            have d0 : wr.cell? ⟨b, o + j * 10 + 0, none⟩ = some (.int .i64 ak) := (hbw.cell (p := ⟨b, o + j * 10 + 0, none⟩) (lt_of_cell (hcx 0 _ rfl))).trans (hcx 0 _ rfl)
            have d1 : wr.cell? ⟨b, o + j * 10 + 1, none⟩ = some (.int .i64 aa) := (hbw.cell (p := ⟨b, o + j * 10 + 1, none⟩) (lt_of_cell (hcx 1 _ rfl))).trans (hcx 1 _ rfl)
            have d2 : wr.cell? ⟨b, o + j * 10 + 2, none⟩ = some (.int .i64 ap) := (hbw.cell (p := ⟨b, o + j * 10 + 2, none⟩) (lt_of_cell (hcx 2 _ rfl))).trans (hcx 2 _ rfl)
            have d3 : wr.cell? ⟨b, o + j * 10 + 3, none⟩ = some (.int .i64 ahl) := (hbw.cell (p := ⟨b, o + j * 10 + 3, none⟩) (lt_of_cell (hcx 3 _ rfl))).trans (hcx 3 _ rfl)
            have d4 : wr.cell? ⟨b, o + j * 10 + 4, none⟩ = some (.int .i64 ahc) := (hbw.cell (p := ⟨b, o + j * 10 + 4, none⟩) (lt_of_cell (hcx 4 _ rfl))).trans (hcx 4 _ rfl)
            have d5 : wr.cell? ⟨b, o + j * 10 + 5, none⟩ = some (.int .i64 ahs) := (hbw.cell (p := ⟨b, o + j * 10 + 5, none⟩) (lt_of_cell (hcx 5 _ rfl))).trans (hcx 5 _ rfl)
            have d6 : wr.cell? ⟨b, o + j * 10 + 6, none⟩ = some (.int .u64 ax) := (hbw.cell (p := ⟨b, o + j * 10 + 6, none⟩) (lt_of_cell (hcx 6 _ rfl))).trans (hcx 6 _ rfl)
            have d7 : wr.cell? ⟨b, o + j * 10 + 7, none⟩ = some (.int .i64 alk) := (hbw.cell (p := ⟨b, o + j * 10 + 7, none⟩) (lt_of_cell (hcx 7 _ rfl))).trans (hcx 7 _ rfl)
            have d8 : wr.cell? ⟨b, o + j * 10 + 8, none⟩ = some (.int .i64 ali) := (hbw.cell (p := ⟨b, o + j * 10 + 8, none⟩) (lt_of_cell (hcx 8 _ rfl))).trans (hcx 8 _ rfl)
            have d9 : wr.cell? ⟨b, o + j * 10 + 9, none⟩ = some (.int .i64 alg) := (hbw.cell (p := ⟨b, o + j * 10 + 9, none⟩) (lt_of_cell (hcx 9 _ rfl))).trans (hcx 9 _ rfl)
            rw [Nat.add_zero] at d0
            have hbA := below1 wr (.cells #[.int .i64 ak, .int .i64 aa, .int .i64 ap, .int .i64 ahl, .int .i64 ahc, .int .i64 ahs, .int .u64 ax, .int .i64 alk, .int .i64 ali, .int .i64 alg] 51)
            have hnA := heap_alloc_new wr (.cells #[.int .i64 ak, .int .i64 aa, .int .i64 ap, .int .i64 ahl, .int .i64 ahc, .int .i64 ahs, .int .u64 ax, .int .i64 alk, .int .i64 ali, .int .i64 alg] 51)
            have HJA := Lib.hid (HJ.out.on hbA)
            have HNA := Lib.hid ((hbA.block _ (block_lt HNJ.out)).trans HNJ.out)
            have HNB : Hid (¬ Four3 Wb Ob p q nb) := Lib.hid (fun e => Nat.lt_irrefl _ (HLT8.out _ e))
            have x0 : 0 ≤ ax := hga.1
            have x1 : ax < 18446744073709551616 := hga.2
            have HSV : Hid (Calls Tryd.prog 13 #[.pointer (some ⟨M, 0, none⟩), .int .i64 8, .int .i64 ap, .int .u64 ax] (wr.alloc (.cells #[.int .i64 ak, .int .i64 aa, .int .i64 ap, .int .i64 ahl, .int .i64 ahc, .int .i64 ahs, .int .u64 ax, .int .i64 alk, .int .i64 ali, .int .i64 alg] 51)) fun e w' => (∃ x, e = .returned (.int .i64 x)) ∧ ∃ W', IS W4 w' M B Wb Ob p q P (Six Wb Ob p q Wg Og) W' [y] ∧ Bnd W' y c n ∧ w'.heap[nb]? = some (.cells #[.int .i64 1, .int .i64 c, .int .i64 9] 43 (0, 0))) := Lib.hid ((HJA.out.save 8 ap ax x0 x1).mono fun e w' ⟨h1, h2, h3⟩ => ⟨⟨_, h1⟩, _, h2, HBJ.out.save HJ.out.wd HJ.out.len ap ax, h3.keeps HNA.out HNB.out⟩)
            have HTI : Hid (Calls Tryd.prog 14 #[.pointer (some ⟨M, 0, none⟩), .int .i64 8, .int .i64 ap, .agg #[.int .i64 alk, .int .i64 ali, .int .i64 alg]] (wr.alloc (.cells #[.int .i64 ak, .int .i64 aa, .int .i64 ap, .int .i64 ahl, .int .i64 ahc, .int .i64 ahs, .int .u64 ax, .int .i64 alk, .int .i64 ali, .int .i64 alg] 51)) fun e w' => (∃ x, e = .returned (.int .i64 x)) ∧ ∃ W', IS W4 w' M B Wb Ob p q P (Six Wb Ob p q Wg Og) W' [y] ∧ Bnd W' y c n ∧ w'.heap[nb]? = some (.cells #[.int .i64 1, .int .i64 c, .int .i64 9] 43 (0, 0))) := Lib.hid ((HJA.out.tie 8 ap alk ali alg).mono fun e w' ⟨h1, h2, h3⟩ => ⟨⟨_, h1⟩, _, h2, HBJ.out.tie HJ.out.wd HJ.out.len ap alk ali alg, h3.keeps HNA.out HNB.out⟩)
            have HLD : Hid (∀ Y, IS W4 Y M B Wb Ob p q P (Six Wb Ob p q Wg Og) WJ [y] → Calls Tryd.prog 15 #[.pointer (some ⟨M, 0, none⟩), .int .i64 8, .int .i64 ap] Y fun e w' => (∃ x z, e = .returned (.tuple #[.int .u64 x, .int .i64 z])) ∧ Below Y.heap.size Y w') := Lib.hid (fun Y hY => (load_any hY.ip hY.wd 8 ap).mono fun e w' ⟨h1, h2⟩ => ⟨⟨_, _, h1⟩, h2⟩)
            have HFO : Hid (∀ Y, IS W4 Y M B Wb Ob p q P (Six Wb Ob p q Wg Og) WJ [y] → Calls Tryd.prog 16 #[.pointer (some ⟨M, 0, none⟩), .int .i64 8, .int .i64 ap] Y fun e w' => (∃ x1 x2 x3 z, e = .returned (.tuple #[.agg #[.int .i64 x1, .int .i64 x2, .int .i64 x3], .int .i64 z])) ∧ Below Y.heap.size Y w') := Lib.hid (fun Y hY => (follow_any hY.ip hY.wd 8 ap).mono fun e w' ⟨h1, h2⟩ => ⟨⟨_, _, _, _, h1⟩, h2⟩)
            clear hcx hbw hbA x0 x1 hga
            by_cases g2' : ak = 2
            · subst g2'
              clear hnA
              go_wp2_with fail
              generalize wr.alloc (.cells #[.int .i64 2, .int .i64 aa, .int .i64 ap, .int .i64 ahl, .int .i64 ahc, .int .i64 ahs, .int .u64 ax, .int .i64 alk, .int .i64 ali, .int .i64 alg] 51) = WC at *
              refine HSV.out.mono ?_
              rintro e w10 ⟨⟨x, rfl⟩, W', h1, h2, h3⟩
              have HA1 := Lib.hid h1
              have HA2 := Lib.hid h2
              have HA3 := Lib.hid h3
              clear h1 h2 h3 HSV HTI HLD HFO d0 d1 d2 d3 d4 d5 d6 d7 d8 d9 HJ HBJ HNJ HJA HNA
              go_wp2
              go_roundw
              case rel => exact ⟨j + 1, W', by omega, by go_num, HA1, HA2, HA3⟩
              case measure => simp [intOf]; omega
            · have e2 : (ak == 2) = false := by simpa using g2'
              by_cases g4' : ak = 4
              · subst g4'
                clear e2 g2'
                clear hnA
                go_wp2_with fail
                generalize wr.alloc (.cells #[.int .i64 4, .int .i64 aa, .int .i64 ap, .int .i64 ahl, .int .i64 ahc, .int .i64 ahs, .int .u64 ax, .int .i64 alk, .int .i64 ali, .int .i64 alg] 51) = WC at *
                refine HTI.out.mono ?_
                rintro e w10 ⟨⟨x, rfl⟩, W', h1, h2, h3⟩
                have HA1 := Lib.hid h1
                have HA2 := Lib.hid h2
                have HA3 := Lib.hid h3
                clear h1 h2 h3 HSV HTI HLD HFO d0 d1 d2 d3 d4 d5 d6 d7 d8 d9 HJ HBJ HNJ HJA HNA
                go_wp2
                go_roundw
                case rel => exact ⟨j + 1, W', by omega, by go_num, HA1, HA2, HA3⟩
                case measure => simp [intOf]; omega
              · have e4 : (ak == 4) = false := by simpa using g4'
                clear HSV HTI
                go_wp2_with fail
                generalize wr.alloc (.cells #[.int .i64 ak, .int .i64 aa, .int .i64 ap, .int .i64 ahl, .int .i64 ahc, .int .i64 ahs, .int .u64 ax, .int .i64 alk, .int .i64 ali, .int .i64 alg] 51) = WC at *
                refine (HLD.out _ HJA.out).mono ?_
                rintro e w10 ⟨⟨x, z, rfl⟩, hb10⟩
                have HJ10 := Lib.hid (HJA.out.on hb10)
                have HN10 := Lib.hid ((hb10.block _ (block_lt HNA.out)).trans HNA.out)
                have hn10 := (hb10.block _ (block_lt hnA)).trans hnA
                have d2' := (blk_cells hn10 2).trans rfl
                clear hb10 hn10 hnA d0 d1 d2 d3 d4 d5 d6 d7 d8 d9 HJ HNJ HJA HNA HLD
                go_wp2_with fail
                refine (HFO.out _ HJ10.out).mono ?_
                rintro e w11 ⟨⟨x1, x2, x3, z', rfl⟩, hb11⟩
                have HJ11 := Lib.hid (HJ10.out.on hb11)
                have HN11 := Lib.hid ((hb11.block _ (block_lt HN10.out)).trans HN10.out)
                clear hb11 d2' HJ10 HN10 HFO
                go_wp2
                go_roundw
                case rel => exact ⟨j + 1, WJ, by omega, by go_num, HJ11, HBJ, HN11⟩
                case measure => simp [intOf]; omega
          · have HR : Hid (∀ k : Nat, k < 40 → Calls Tryd.prog 17 #[.pointer (some ⟨B, 0, none⟩), .int .i64 k] wr fun e w' => e = .returned (.tuple #[.int .u64 (WJ.getD k 0), .int .i64 0]) ∧ wr = w') := Lib.hid (fun k hk => (read_t HJ.out.ip.st k).mono fun e w' ⟨h1, h2⟩ => ⟨by
              have ha : adE WJ (onesO 5) 8 (k : Int) = 0 := by rw [ones_at HJ.out.len, if_neg (by omega), if_pos (by omega)]
              rw [h1, ha]
              unfold rdV
              rw [if_pos ha, Int.toNat_natCast], h2⟩)
            have HNB : Hid (¬ Four3 Wb Ob p q nb) := Lib.hid (fun e => Nat.lt_irrefl _ (HLT8.out _ e))
            clear HLT8
            generalize hwo : wr = wo at *
            clear hwo
            go_wp2_with fail
            go_loopw [131] (fun v131 wr => ∃ k : Nat, k ≤ 40 ∧ v131 = .int .i64 k ∧ wr = wo) (fun v131 _ => 40 - (intOf v131).toNat)
            case atStart => exact ⟨0, by omega, rfl, rfl⟩
            case round =>
            obtain ⟨k, hk, rfl, rfl⟩ := hrel
            by_cases hlt3 : k < 40
            · have HRK := Lib.hid (HR.out k hlt3)
              have w8n : IntKind.i64.wrap (8 + (n : Int)) = 8 + n := by rw [IntKind.wrap_i64]; omega
              by_cases ho : k < 8 ∨ 8 + n < k
              · have hv := HBJ.out.out k hlt3 ho
                have w1 : IntKind.u64.wrap (k : Int) = k := by rw [IntKind.wrap_u64]; omega
                have w2 : IntKind.u64.wrap ((k : Int) * 3) = (k : Int) * 3 := by rw [IntKind.wrap_u64]; omega
                have w3' : IntKind.u64.wrap ((k : Int) * 3 + 1) = (k : Int) * 3 + 1 := by rw [IntKind.wrap_u64]; omega
                rw [hv, Int.mul_comm] at HRK
                clear hv
                by_cases h8 : k < 8
                · have e8 : decide ((k : Int) < 8) = true := decide_eq_true (by omega)
                  clear ho
                  go_wp2_with fail
                  refine HRK.out.mono ?_
                  rintro e w12 ⟨rfl, rfl⟩
                  go_wp2
                  go_roundw
                  case rel => exact ⟨k + 1, by omega, by go_num, trivial⟩
                  case measure => simp [intOf]; omega
                · have e8 : decide ((k : Int) < 8) = false := decide_eq_false (by omega)
                  have e9 : decide (8 + (n : Int) < (k : Int)) = true := decide_eq_true (by omega)
                  clear ho
                  go_wp2_with fail
                  refine HRK.out.mono ?_
                  rintro e w12 ⟨rfl, rfl⟩
                  go_wp2
                  go_roundw
                  case rel => exact ⟨k + 1, by omega, by go_num, trivial⟩
                  case measure => simp [intOf]; omega
              · have e8 : decide ((k : Int) < 8) = false := decide_eq_false (by omega)
                have e9 : decide (8 + (n : Int) < (k : Int)) = false := decide_eq_false (by omega)
                generalize WJ.getD k 0 = wk at *
                clear ho
                go_wp2_with fail
                refine HRK.out.mono ?_
                rintro e w12 ⟨rfl, rfl⟩
                go_wp2
                go_roundw
                case rel => exact ⟨k + 1, by omega, by go_num, trivial⟩
                case measure => simp [intOf]; omega
            · clear HR
              have HAT := Lib.hid (iat_any HJ.out.ip HJ.out.wd 8)
              rw [HBJ.out.ob.atR, HBJ.out.ob.find] at HAT
              go_wp2_with fail
              refine HAT.out.mono ?_
              rintro e w12 ⟨rfl, hb12⟩
              have hb13 := hb12.on (below1 w12 (.cells #[.int .i64 1, .int .i64 c, .int .i64 9] 43))
              have HI13 := Lib.hid (HJ.out.on hb13)
              have hn13 := (hb13.block _ (block_lt HNJ.out)).trans HNJ.out
              have q0 := (blk_cells hn13 0).trans rfl
              have q1 := (blk_cells hn13 1).trans rfl
              have q2 := (blk_cells hn13 2).trans rfl
              have hne : ¬ w12.heap.size = nb := fun e => by have := block_lt ((hb12.block _ (block_lt HNJ.out)).trans HNJ.out); omega
              have hne2 : ¬ nb = w12.heap.size := fun e => hne e.symm
              have HMK : Hid (∀ Y, IS W4 Y M B Wb Ob p q P (Six Wb Ob p q Wg Og) WJ [y] → Calls Tryd.prog 12 #[.pointer (some ⟨M, 0, none⟩), .int .i64 8, .agg #[.int .i64 1, .int .i64 c, .int .i64 9]] Y fun e w' => e = .returned (.tuple #[.int .i64 ((n : Int) + 1), .int .i64 0]) ∧ IS W4 w' M B Wb Ob p q P (Six Wb Ob p q Wg Og) ((zeroW WJ 8 (n + 1)).set 8 (encH 1 c 9)) [y]) := Lib.hid (fun Y hY => (hY.make 8 1 c 9).mono fun e w' ⟨h1, h2, h3⟩ => by
                obtain ⟨m1, m2, m3⟩ := bnd_make hY.len HSZ2.out hn20
                rw [m1] at h1
                rw [m2] at h2
                exact ⟨h1, h2⟩)
              have HZ : Hid (∀ k, k < n → ((zeroW WJ 8 (n + 1)).set 8 (encH 1 c 9)).getD (9 + k) 0 = 0) := Lib.hid (fun k hk => bnd_zero HJ.out.len hn20 k hk)
              clear hb12 hb13 hn13 HAT HJ HNJ HBJ
              go_wp2_with fail
              refine (HMK.out _ HI13.out).mono ?_
              rintro e w14 ⟨rfl, h14⟩
              have HI14 := Lib.hid h14
              clear h14 HMK q0 q1 q2 hne hne2 HI13
              generalize ((zeroW WJ 8 (n + 1)).set 8 (encH 1 c 9)) = WZ at *
              have HR : Hid (∀ k : Nat, k < 40 → Calls Tryd.prog 17 #[.pointer (some ⟨B, 0, none⟩), .int .i64 k] w14 fun e w' => e = .returned (.tuple #[.int .u64 (WZ.getD k 0), .int .i64 0]) ∧ w14 = w') := Lib.hid (fun k hk => (read_t HI14.out.ip.st k).mono fun e w' ⟨h1, h2⟩ => ⟨by
              have ha : adE WZ (onesO 5) 8 (k : Int) = 0 := by rw [ones_at HI14.out.len, if_neg (by omega), if_pos (by omega)]
              rw [h1, ha]
              unfold rdV
              rw [if_pos ha, Int.toNat_natCast], h2⟩)
              go_wp2_with fail
              go_loopw [184] (fun v184 wr => ∃ k : Nat, k ≤ n ∧ v184 = .int .i64 k ∧ wr = w14) (fun v184 _ => n - (intOf v184).toNat)
              case atStart => exact ⟨0, by omega, rfl, rfl⟩
              case round =>
              obtain ⟨k2, hk2, rfl, rfl⟩ := hrel
              by_cases hlt4 : k2 < n
              · have HRK := Lib.hid (HR.out (9 + k2) (by omega))
                rw [HZ.out k2 hlt4, show (((9 + k2 : Nat)) : Int) = 9 + (k2 : Int) by omega] at HRK
                have w9 : IntKind.i64.wrap (9 + (k2 : Int)) = 9 + k2 := by rw [IntKind.wrap_i64]; omega
                go_wp2_with fail
                refine HRK.out.mono ?_
                rintro e w15 ⟨rfl, rfl⟩
                go_wp2
                go_roundw
                case rel => exact ⟨k2 + 1, by omega, by go_num, trivial⟩
                case measure => simp [intOf]; omega
              · have HFIN := Lib.hid (HBW.out _ HI14.out.below)
                go_wp2
                go_ret
                exact ⟨rfl, HFIN.out⟩
    · by_cases g5 : code = 0
      · have d2 : decide ((20 : Int) < n') = true := decide_eq_true (by
          rcases Int.lt_or_le 20 n' with g | g
          · exact g
          · exact absurd ⟨g5, g⟩ gc)
        subst g5
        clear gc
        go_wp2
        go_ret
        exact ⟨rfl, HB7.out⟩
      · have e5 : (code == 0) = false := by simpa using g5
        clear gc
        go_wp2
        go_ret
        exact ⟨rfl, HB7.out⟩
end Go.Proofs.YtaifaefhghjiaaaDoor
end
section
namespace Go.Proofs.YtaifaefhghjiaaaDoor
open Go.RowKit Go.ChangeShapes Go.WideShapes Go.ChangeAt Go.Joins
set_option linter.unusedVariables false
section
variable {H : Type} {enc0 : TypeId × Value → H} {w : World} {base : Nat} {spare : Nat → Bool} {held : Bool}
theorem dec_encI (fuel : Nat) (cs : List Value) (x : DataW H × List MemPlace) (hl : cs.length = 1) (h : DataW.trod enc0 Tryd.prog w base spare held fuel 3 cs = some x) : ∃ a, cs = encI a ∧ True := by
  obtain ⟨n, rfl, _, hw⟩ := DataW.trod_int Tryd.underlying3 h
  exact ⟨n, rfl, trivial⟩
theorem dec_ints (fuel : Nat) (c : Value) (x : DataW H × List MemPlace) (h : DataW.trod enc0 Tryd.prog w base spare held fuel 22 [c] = some x) : ∃ (l : List Int) (A : Option Addr) (n : Nat), c = .slice A l.length n ∧ l.length ≤ n ∧ l.length ≤ maxLen ∧ SliceOf w A 1 encI 0 l := by
  have key : ∀ (A : Option Addr) (len cap : Nat), c = .slice A len cap → ∃ (l : List Int) (A : Option Addr) (n : Nat), c = .slice A l.length n ∧ l.length ≤ n ∧ l.length ≤ maxLen ∧ SliceOf w A 1 encI 0 l := by
    rintro A len cap rfl
    obtain ⟨l, rfl, h1, h2, _, h3⟩ := open_sliceOf (w := w) (D := x.1) (p := x.2) encI (fun _ => True) 0 Tryd.underlying22 (by kernel_rfl) (by decide) (fun _ => rfl) (fun fu cs x hl h => dec_encI fu cs x hl h) ⟨fuel, h⟩
    exact ⟨l, A, cap, rfl, h1, h2, h3⟩
  rcases Deep.open_slice Tryd.underlying22 h with ⟨hcs, _⟩ | ⟨a, len', cap', m, n, D', Pl, hcs, _⟩
  · simp only [List.cons.injEq, and_true] at hcs
    exact key _ _ _ hcs
  · simp only [List.cons.injEq, and_true] at hcs
    exact key _ _ _ hcs
set_option maxRecDepth 100000 in
theorem dec_lay (fuel : Nat) (cs : List Value) (x : DataW H × List MemPlace) (hl : cs.length = 4) (h : DataW.trod enc0 Tryd.prog w base spare held fuel 24 cs = some x) : ∃ (y : Lay) (A1 : Option Addr) (c1 : Nat) (A2 : Option Addr) (c2 : Nat), cs = (layCells y A1 c1 A2 c2).toList ∧ LayIs w y A1 c1 A2 c2 := by
  match cs, hl with
  | [c0, c1, c2, c3], _ =>
    obtain ⟨y0, y1, y2, y3, n, _, _, h0, h1, h2, h3⟩ := trod_struct4 Tryd.underlying24 h
    obtain ⟨F, e0, _, _⟩ := DataW.trod_int Tryd.underlying3 h0
    obtain ⟨R, e2, _, _⟩ := DataW.trod_int Tryd.underlying3 h2
    obtain ⟨l1, A1, n1, rfl, p1, p2, p3⟩ := dec_ints _ _ _ h1
    obtain ⟨l2, A2, n2, rfl, q1, q2, q3⟩ := dec_ints _ _ _ h3
    have e0' : [c0] = [Value.int .i64 F] := e0
    have e2' : [c2] = [Value.int .i64 R] := e2
    cases e0'
    cases e2'
    exact ⟨⟨F, l1, R, l2⟩, A1, n1, A2, n2, rfl, ⟨p3, p1, p2, q3, q1, q2⟩⟩
theorem dec_layR (fuel : Nat) (cs : List Value) (x : DataW H × List MemPlace) (hl : cs.length = 4) (h : DataW.trod enc0 Tryd.prog w base spare held fuel 24 cs = some x) : ∃ a : LayR, cs = layREnc a ∧ LayIs w a.x a.A1 a.c1 a.A2 a.c2 := by
  obtain ⟨y, A1, c1, A2, c2, he, hL⟩ := dec_lay fuel cs x hl h
  exact ⟨⟨y, A1, c1, A2, c2⟩, he, hL⟩
def encU (x : Int) : List Value := [.int .u64 x]
theorem dec_u64 (fuel : Nat) (cs : List Value) (x : DataW H × List MemPlace) (hl : cs.length = 1) (h : DataW.trod enc0 Tryd.prog w base spare held fuel 41 cs = some x) : ∃ a, cs = encU a ∧ (0 ≤ a ∧ a < 18446744073709551616) := by
  obtain ⟨n, rfl, _, hw⟩ := DataW.trod_int Tryd.underlying41 h
  refine ⟨n, rfl, ?_⟩
  simp [Lit.wf, IntKind.min, IntKind.max, IntKind.bits, IntKind.signed] at hw
  omega
set_option maxRecDepth 100000 in
theorem dec_a12 (fuel : Nat) (cs : List Value) (x : DataW H × List MemPlace) (hl : cs.length = 10) (h : DataW.trod enc0 Tryd.prog w base spare held fuel 51 cs = some x) : ∃ a, cs = a12Enc a ∧ good12 a := by
  match cs, hl with
  | [c0, c1, c2, c3, c4, c5, c6, c7, c8, c9], _ =>
    obtain ⟨xs, n, _, _, _, hlen, hf⟩ := DataW.trod_struct Tryd.underlying51 h
    match xs, hlen with
    | [y0, y1, y2, y3, y4, y5], _ =>
      have h0 : DataW.trod enc0 Tryd.prog w base spare held n 3 [c0] = some y0 := hf 0 _ rfl
      have h1 : DataW.trod enc0 Tryd.prog w base spare held n 3 [c1] = some y1 := hf 1 _ rfl
      have h2 : DataW.trod enc0 Tryd.prog w base spare held n 3 [c2] = some y2 := hf 2 _ rfl
      have h3 : DataW.trod enc0 Tryd.prog w base spare held n 43 [c3, c4, c5] = some y3 := hf 3 _ rfl
      have h4 : DataW.trod enc0 Tryd.prog w base spare held n 41 [c6] = some y4 := hf 4 _ rfl
      have h5 : DataW.trod enc0 Tryd.prog w base spare held n 49 [c7, c8, c9] = some y5 := hf 5 _ rfl
      obtain ⟨a, e0, _, w0⟩ := DataW.trod_int Tryd.underlying3 h0
      obtain ⟨b, e1, _, w1⟩ := DataW.trod_int Tryd.underlying3 h1
      obtain ⟨c, e2, _, w2⟩ := DataW.trod_int Tryd.underlying3 h2
      obtain ⟨d, e4, w4⟩ := dec_u64 _ _ _ rfl h4
      obtain ⟨zs, m, _, _, _, hzl, hz⟩ := DataW.trod_struct Tryd.underlying43 h3
      obtain ⟨vs, k, _, _, _, hvl, hv⟩ := DataW.trod_struct Tryd.underlying49 h5
      match zs, hzl, vs, hvl with
      | [z0, z1, z2], _, [v0, v1], _ =>
        have g0 : DataW.trod enc0 Tryd.prog w base spare held m 3 [c3] = some z0 := hz 0 _ rfl
        have g1 : DataW.trod enc0 Tryd.prog w base spare held m 3 [c4] = some z1 := hz 1 _ rfl
        have g2 : DataW.trod enc0 Tryd.prog w base spare held m 3 [c5] = some z2 := hz 2 _ rfl
        have l0 : DataW.trod enc0 Tryd.prog w base spare held k 3 [c7] = some v0 := hv 0 _ rfl
        have l1 : DataW.trod enc0 Tryd.prog w base spare held k 47 [c8, c9] = some v1 := hv 1 _ rfl
        obtain ⟨us, m2, _, _, _, hul, hu⟩ := DataW.trod_struct Tryd.underlying47 l1
        match us, hul with
        | [u0, u1], _ =>
          have t0 : DataW.trod enc0 Tryd.prog w base spare held m2 3 [c8] = some u0 := hu 0 _ rfl
          have t1 : DataW.trod enc0 Tryd.prog w base spare held m2 3 [c9] = some u1 := hu 1 _ rfl
          obtain ⟨p0, s0, _, _⟩ := DataW.trod_int Tryd.underlying3 g0
          obtain ⟨p1, s1, _, _⟩ := DataW.trod_int Tryd.underlying3 g1
          obtain ⟨p2, s2, _, _⟩ := DataW.trod_int Tryd.underlying3 g2
          obtain ⟨p3, s3, _, _⟩ := DataW.trod_int Tryd.underlying3 l0
          obtain ⟨p4, s4, _, _⟩ := DataW.trod_int Tryd.underlying3 t0
          obtain ⟨p5, s5, _, _⟩ := DataW.trod_int Tryd.underlying3 t1
          cases e0
          cases e1
          cases e2
          cases e4
          cases s0
          cases s1
          cases s2
          cases s3
          cases s4
          cases s5
          exact ⟨⟨a, b, c, p0, p1, p2, d, p3, p4, p5⟩, rfl, w4⟩
set_option maxRecDepth 100000 in
theorem dec_tok (fuel : Nat) (cs : List Value) (x : DataW H × List MemPlace) (hl : cs.length = 2) (h : DataW.trod enc0 Tryd.prog w base spare held fuel 47 cs = some x) : ∃ a b, cs = [.int .i64 a, .int .i64 b] ∧ ((Lit.int .i64 a).wf = true ∧ (Lit.int .i64 b).wf = true) := by
  match cs, hl with
  | [c0, c1], _ =>
    obtain ⟨us, m2, _, _, _, hul, hu⟩ := DataW.trod_struct Tryd.underlying47 h
    match us, hul with
    | [u0, u1], _ =>
      have t0 : DataW.trod enc0 Tryd.prog w base spare held m2 3 [c0] = some u0 := hu 0 _ rfl
      have t1 : DataW.trod enc0 Tryd.prog w base spare held m2 3 [c1] = some u1 := hu 1 _ rfl
      obtain ⟨p4, s4, _, q4⟩ := DataW.trod_int Tryd.underlying3 t0
      obtain ⟨p5, s5, _, q5⟩ := DataW.trod_int Tryd.underlying3 t1
      cases s4
      cases s5
      exact ⟨p4, p5, rfl, q4, q5⟩
end
end Go.Proofs.YtaifaefhghjiaaaDoor
end
