/- ImageKeeps: for every input the law returns true, and each argument reads behind the call as it read before: the row, and its card. -/
import Derived.Test.YtaifaefhghjiaaaDoorGA
import Derived.Test.YtaifaefhghjiaaaDoorCards
import Derived.Test.YtaifaefhghjiaaaDoorTie
import Derived.Test.YtaifaefhghjiaaaDoorGImageKeeps
import Derived.WalkKit
import Derived.ProofKit
import Derived.OpenShut
import Derived.ShutString
import Derived.ChangeOld
import Derived.Below
import Derived.SizedLaws
import Derived.Lib.SmallJoins
import Derived.Carry
import Derived.SevenTiedAt
namespace Go.Proofs.YtaifaefhghjiaaaDoor.imageKeeps
open Go.ChangeShapes Go.WideShapes Go.ChangeAt Go.RowKit Go.Joins
open Go.ChangeMaps (open_string shut_string)
set_option linter.unusedVariables false
set_option maxRecDepth 100000 in
theorem lifted (os : Os) (started : os.Started) (H : Type) (enc : TypeId × Value → H) :
    ReturnsInHanded {} Tryd.checked os 4 .any (fun w args => (Rows.imageKeepsSpec.pre enc Tryd.prog Tryd.f4 [] false w args ∧ laidMetH Tryd.prog laid1 w) ∧ sizedMet enc Tryd.prog Tryd.f4 (OpenSpec.ofChange Rows.imageKeepsSpec) false w args)
      (Rows.imageKeepsSpec.post enc Tryd.prog Tryd.f4 false true false false) := by
  refine returnsInHanded_of_change_and (C := Tryd.checked) (X := fun w _ => laidMetH Tryd.prog laid1 w) (fun _ _ _ hh h => h.of_heap hh) own started (by kernel_rfl) Tryd.func4
    (ChangeSpec.witness_shaped (enc := enc) (C := Tryd.checked) (os := os) (X := fun w _ => laidMetH Tryd.prog laid1 w) false (World.doorLaid Tryd.prog 400 os) #[.agg #[.int .i64 0, .slice none 0 0, .int .i64 0, .slice none 0 0], .slice none 0 0, .agg #[.int .i64 0, .int .i64 0]] 8 rfl (World.shaped_of_RefB (by kernel_rfl) (by kernel_rfl)) (by kernel_rfl) (by kernel_rfl) (by kernel_rfl) (door_met os _)) ?_
  intro W base args ds gs before hval0 hW _ _ hL _
  have hval : ∀ (j : Nat) t v, Tryd.f4.params[j]? = some t → args[j]? = some v → Value.okWide Tryd.prog W .any base t v := hval0
  have hW' := hW
  obtain ⟨p, q, hA0, hV, rfl, hfz, hnd⟩ := hW
  have hA : DataW.TrodAll enc Tryd.prog W 0 (fun _ => true) true Tryd.f4.params.toList args.toList ds p := hA0
  rw [Tryd.params4] at hA hval
  obtain ⟨v0, vs0, d0, ds0, p0, q0, hargs, rfl, rfl, h0, r0⟩ := trodAll_cons hA
  obtain ⟨v1, vs1, d1, ds1, p1, q1, rfl, rfl, rfl, h1, r1⟩ := trodAll_cons r0
  obtain ⟨v2, vs2, d2, ds2, p2, q2, rfl, rfl, rfl, h2, r2⟩ := trodAll_cons r1
  obtain ⟨rfl, rfl, rfl⟩ := trodAll_nil r2
  obtain rfl : args = #[v0, v1, v2] := by cases args; simp_all
  obtain ⟨rfl, rfl⟩ := trodVars_none hV
  have k0 := h0
  have lt0 : ∀ x ∈ p0, x.block < W.heap.size := by obtain ⟨m, hm⟩ := k0; exact DataW.trod_lt m _ _ _ hm
  have k1 := h1
  have lt1 : ∀ x ∈ p1, x.block < W.heap.size := by obtain ⟨m, hm⟩ := k1; exact DataW.trod_lt m _ _ _ hm
  have k2 := h2
  have lt2 : ∀ x ∈ p2, x.block < W.heap.size := by obtain ⟨m, hm⟩ := k2; exact DataW.trod_lt m _ _ _ hm
  obtain ⟨cs0, rfl, hz0⟩ := okWide_struct Tryd.underlying24 (hval 0 24 v0 rfl rfl)
  have hz0' : cs0.toList.length = 4 := by rw [Array.length_toList, hz0]; exact (by kernel_rfl : Tryd.prog.cellsOf 24 = 4)
  obtain ⟨y0, A0, n0, B0, o0, e0, hL0⟩ : ∃ (y : Lay) (A1 : Option Addr) (c1 : Nat) (A2 : Option Addr) (c2 : Nat), cs0.toList = (layCells y A1 c1 A2 c2).toList ∧ LayIs W y A1 c1 A2 c2 := by obtain ⟨fu0, hf0⟩ := h0; exact dec_lay _ _ _ hz0' hf0
  obtain rfl : cs0 = layCells y0 A0 n0 B0 o0 := Array.toList_inj.1 e0
  obtain ⟨A1, len1, cap1, rfl⟩ := okWide_slice Tryd.underlying62 (hval 1 62 v1 rfl rfl)
  obtain ⟨l1, rfl, hc1, hm1, hg1, hs1⟩ := open_sliceOf encU _ 0 Tryd.underlying62 (by kernel_rfl) (by decide) (fun _ => rfl) (fun fu cs x hl h => dec_u64 fu cs x hl h) h1
  obtain ⟨cs2, rfl, hz2⟩ := okWide_struct Tryd.underlying47 (hval 2 47 v2 rfl rfl)
  have hz2' : cs2.toList.length = 2 := by rw [Array.length_toList, hz2]; exact (by kernel_rfl : Tryd.prog.cellsOf 47 = 2)
  obtain ⟨a2_0, a2_1, e2, w2_0, w2_1⟩ : ∃ a b, cs2.toList = [.int .i64 a, .int .i64 b] ∧ ((Lit.int .i64 a).wf = true ∧ (Lit.int .i64 b).wf = true) := by obtain ⟨fu2, hf2⟩ := h2; exact dec_tok _ _ _ hz2' hf2
  obtain rfl : cs2 = #[.int .i64 a2_0, .int .i64 a2_1] := Array.toList_inj.1 e2
  have HTab := tab_of_laid hL
  clear hA0 hval0 hL
  refine (ikeeps_walk y0 A0 n0 B0 o0 A1 l1 cap1 a2_0 a2_1 hL0 hc1 hm1 hs1 hg1 w2_0 w2_1 HTab).mono fun e W' ⟨he, bel⟩ => ?_
  subst he
  exact ⟨_, rfl, _, _, _, [], _, [], hW', trodAll_mk1 (shut_bool Tryd.underlying4 _), (trodAll_cons_mk (Below.trod laidOut (by kernel_rfl) (of_decide_eq_true (by kernel_rfl)) k0 bel lt0) (trodAll_cons_mk (Below.trod laidOut (by kernel_rfl) (of_decide_eq_true (by kernel_rfl)) k1 bel lt1) (trodAll_cons_mk (Below.trod laidOut (by kernel_rfl) (of_decide_eq_true (by kernel_rfl)) k2 bel lt2) trodAll_mk0))), rfl, bel.frame _, fun h => by cases h⟩
theorem over : Rows.imageKeepsRow.holds Tryd.pinned (OpenSpec.ofChange Rows.imageKeepsSpec) :=
  OpenClaim.holds_of_wide 4 Tryd.f4 rfl rfl rfl rfl rfl rfl rfl ⟨rfl, rfl, rfl, rfl, rfl⟩ rfl rfl rfl rfl rfl (by kernel_rfl) Tryd.func4 (by kernel_rfl)
    (of_decide_eq_true (by kernel_rfl)) (by unfold Func.isWrapper; first | (rw [if_pos (by decide +kernel)]; kernel_rfl) | (rw [if_neg (by decide +kernel)]; exact ⟨rfl, rfl⟩))
    (fun os started H enc _ => lifted os started H enc)
theorem card : Rows.ImageKeepsCardSaid :=
  Claim7.holds_tied_plain_at .later [] [.data] true (true, "290ca537bc81ae9dadb7d6d8fc825f0cd53e94b19f593b304380ef43dbcee43f") false
    over (fun _ h => by cases h) (by kernel_rfl) (fun _ h => by cases h) imageKeeps_row_tie rfl ⟨rfl, rfl⟩ (by kernel_rfl) rfl
    (fun f fn hf hfn => by
      obtain rfl : f = 4 := Option.some.inj ((show Tryd.prog.funcNamed "turnrow/turnrowlaw12.ImageKeeps" = some 4 by kernel_rfl).symm.trans hf) |>.symm
      obtain rfl : fn = Tryd.f4 := (Option.some.inj (Tryd.func4.symm.trans hfn)).symm
      exact ⟨by kernel_rfl, fun j t ht => by
        rw [Tryd.params4] at ht
        have hm : t ∈ [24, 62, 47] := by simpa using Array.mem_of_getElem? ht
        have hall : ([24, 62, 47].all fun u => !Tryd.prog.wantsStandIn u) = true := by kernel_rfl
        exact (show Tryd.prog.wantsStandIn t = false by simpa using List.all_eq_true.1 hall t hm)⟩)
    (by kernel_rfl)
#print axioms card
end Go.Proofs.YtaifaefhghjiaaaDoor.imageKeeps
namespace Go.Proofs.YtaifaefhghjiaaaDoor
/-- The card, under a short name, for the claim. -/
theorem imageKeeps_card : Rows.ImageKeepsCardSaid := imageKeeps.card
end Go.Proofs.YtaifaefhghjiaaaDoor
