/- Nk Qc Nd -/
import Derived.Test.YtaifaefhghjiaaaDoorGN
import Derived.OpenShut
import Derived.ChangeSame
import Derived.ChangeArms
import Derived.ProofKit
import Derived.Lib.SmallJoins
import Derived.Test.YtaifaefhghjiaaaDoorGK
section
namespace Go.Proofs.YtaifaefhghjiaaaDoor
open Go.RowKit
set_option linter.unusedVariables false
set_option linter.unusedSimpArgs false
variable {W W' own : List Int} {size : Nat} {ls : List Lay}
theorem ObjAt.same {a l c s n : Int} {x : Lay} (h : ObjAt W own size ls a l c s x n) (hl : W'.length = W.length) (hw : W'.getD a.toNat 0 = W.getD a.toNat 0) : ObjAt W' own size ls a l c s x n := by
  have ha : adE W' own size a = adE W own size a := by unfold adE; rw [hl]
  exact { h with ad := ha.trans h.ad, word := hw.trans h.word }
theorem ObjAt.set {a l c s n v : Int} {x : Lay} {i : Nat} (h : ObjAt W own size ls a l c s x n) (hi : i ≠ a.toNat) : ObjAt (W.set i v) own size ls a l c s x n := by
  refine h.same (List.length_set ..) ?_
  by_cases hl : i < W.length
  · rw [set_getD _ _ _ hl, if_neg (fun e => hi e.symm)]
  · rw [List.set_eq_of_length_le (by omega)]
theorem make_at {a n : Nat} {l c s : Int} {x : Lay} (hl : W.length = 48) (hm : mayB l c s = true) (h1 : l ≤ ls.length) (h2 : layI ls l = x) (hsz : x.size c = ((n : Int), 0)) (ha : a + n + 1 ≤ 40) :
    (makeR W (onesO 5) 8 ls a l c s).1 = ((n : Int) + 1, 0) ∧ (makeR W (onesO 5) 8 ls a l c s).2 = (zeroW W a (n + 1)).set a (encH l c s) := by
  have hs : szI ls l c = ((n : Int), 0) := by
    unfold szI
    rw [if_neg (by omega), h2, if_neg (by rw [hsz]; simp)]
    have h3 : (x.size c).1 = n := by rw [hsz]
    exact Prod.ext h3 rfl
  have hiw : inW W.length a ((n : Int) + 1) := by unfold inW; omega
  have e1 : ((n : Int) + 1).toNat = n + 1 := by omega
  have hok : okW (onesO 5) 8 (a : Int).toNat (n + 1) = true := by rw [Int.toNat_natCast]; exact ones_ok a (n + 1) (by omega)
  have hmk : makeR W (onesO 5) 8 ls a l c s = (((n : Int) + 1, 0), (zeroW W a (n + 1)).set a (encH l c s)) := by
    unfold makeR
    rw [if_neg (by rw [hm]; decide), hs, if_neg (show ¬ (0 : Int) ≠ 0 by decide), if_neg (fun g => g hiw), e1, if_neg (by rw [hok]; decide), Int.toNat_natCast]
  exact ⟨by rw [hmk], by rw [hmk]⟩
theorem made_len {a n : Nat} {e : Int} (hl : W.length = 48) (ha : a + n + 1 ≤ 40) : ((zeroW W a (n + 1)).set a e).length = 48 := by rw [List.length_set, zeroW_length _ _ _ (by omega), hl]
theorem made_get {a n : Nat} {e : Int} (hl : W.length = 48) (ha : a + n + 1 ≤ 40) (j : Nat) : ((zeroW W a (n + 1)).set a e).getD j 0 = if j = a then e else if a ≤ j ∧ j < a + (n + 1) then 0 else W.getD j 0 := by
  have hz : a + (n + 1) ≤ W.length := by omega
  rw [set_getD _ _ _ (by rw [zeroW_length _ _ _ hz]; omega), zeroW_getD hz]
theorem made_ob {a n : Nat} {l c s : Int} {x : Lay} (hl : W.length = 48) (hm : mayB l c s = true) (h1 : l ≤ ls.length) (h2 : layI ls l = x) (hsz : x.size c = ((n : Int), 0)) (ha : a + n + 1 ≤ 40) : ObjAt ((zeroW W a (n + 1)).set a (encH l c s)) (onesO 5) 8 ls a l c s x n := by
  refine ⟨?_, hm, ?_, h1, h2, hsz⟩
  · rw [ones_at (made_len hl ha), if_neg (by omega), if_pos (by omega)]
  · rw [Int.toNat_natCast, made_get hl ha, if_pos rfl]
section
variable {a n p : Nat} {l c s : Int} {x : Lay}
theorem place_adE (hl : W.length = 48) (ha : a + n + 1 ≤ 40) (hp : p < n) : adE W (onesO 5) 8 ((a : Int) + 1 + p) = 0 := by rw [ones_at hl, if_neg (by omega), if_pos (by omega)]
theorem place_nat : ((a : Int) + 1 + p).toNat = a + 1 + p := by omega
theorem ob_word (h : ObjAt W (onesO 5) 8 ls a l c s x n) (hp : p < n) (r : Bool) : wordE W (onesO 5) 8 ls a p r = if x.isRef p = r then 0 else 9 := by
  rw [h.wordE, if_neg (by omega)]
theorem ob_save (h : ObjAt W (onesO 5) 8 ls a l c s x n) (hl : W.length = 48) (ha : a + n + 1 ≤ 40) (hp : p < n) (v : Int) : saveR W (onesO 5) 8 ls a p v = if x.isRef p = false then (0, W.set (a + 1 + p) v) else (9, W) := by
  unfold saveR
  rw [ob_word h hp, place_adE hl ha hp, place_nat]
  cases x.isRef p <;> rfl
theorem ob_tie (h : ObjAt W (onesO 5) 8 ls a l c s x n) (hl : W.length = 48) (ha : a + n + 1 ≤ 40) (hp : p < n) {k i g : Int} (hm : mayLinkB k i g = true) : tieR W (onesO 5) 8 ls a p k i g = if x.isRef p = true then (0, W.set (a + 1 + p) (refWordI k i g)) else (9, W) := by
  unfold tieR
  rw [ob_word h hp, place_adE hl ha hp, place_nat, hm]
  cases x.isRef p <;> rfl
theorem ob_load (h : ObjAt W (onesO 5) 8 ls a l c s x n) (hl : W.length = 48) (ha : a + n + 1 ≤ 40) (hp : p < n) : loadR W (onesO 5) 8 ls a p = if x.isRef p = false then (W.getD (a + 1 + p) 0, 0) else (0, 9) := by
  unfold loadR
  rw [ob_word h hp, place_adE hl ha hp, place_nat]
  cases x.isRef p <;> rfl
theorem ob_follow (h : ObjAt W (onesO 5) 8 ls a l c s x n) (hl : W.length = 48) (ha : a + n + 1 ≤ 40) (hp : p < n) : followR W (onesO 5) 8 ls a p = if x.isRef p = true then linkI (W.getD (a + 1 + p) 0) else (0, 0, 0, 9) := by
  unfold followR
  rw [ob_word h hp, place_adE hl ha hp, place_nat]
  cases x.isRef p <;> rfl
end
/-- The second layout. -/
def twoL : Lay := ⟨2, [], 0, []⟩
theorem twoL_size : twoL.size 0 = (((2 : Nat) : Int), 0) := by decide +kernel
/-- What is written into a place. -/
def valK (y : Lay) (ws : List Int) (ti tg : Int) (p : Nat) : Int := if y.isRef p = true then refWordI 2 ti tg else if p < ws.length then ws.getD p 0 else 7
/-- Two objects, k places of the first are written. -/
structure KpI (W : List Int) (y : Lay) (c : Int) (n : Nat) (vals : Nat → Int) (k : Nat) : Prop where
  o1 : ObjAt W (onesO 5) 8 [y, twoL] ((0 : Nat) : Int) 1 c 5 y n
  o2 : ObjAt W (onesO 5) 8 [y, twoL] ((n + 1 : Nat) : Int) 2 0 6 twoL (2 : Nat)
  w99 : W.getD (n + 3) 0 = 99
  vs : ∀ j, j < k → W.getD (1 + j) 0 = vals j
theorem KpI.step {y : Lay} {c : Int} {n k : Nat} {vals : Nat → Int} (h : KpI W y c n vals k) (hl : W.length = 48) (hn : n ≤ 8) (hk : k < n) : KpI (W.set (0 + 1 + k) (vals k)) y c n vals (k + 1) := by
  have hi : 0 + 1 + k < W.length := by omega
  refine ⟨h.o1.set (by omega), h.o2.set (by omega), ?_, fun j hj => ?_⟩
  · rw [set_getD _ _ _ hi, if_neg (by omega)]; exact h.w99
  · rw [set_getD _ _ _ hi]
    by_cases e : j = k
    · subst e; rw [if_pos (by omega)]
    · rw [if_neg (by omega)]; exact h.vs j (by omega)
/-- Behind the move: the object lies at both places. -/
structure KpM (W : List Int) (y : Lay) (c : Int) (n : Nat) (vals : Nat → Int) : Prop where
  oa : ∀ a : Nat, a = 0 ∨ a = n + 4 → ObjAt W (onesO 5) 8 [y, twoL] a 1 c 5 y n
  o2 : ObjAt W (onesO 5) 8 [y, twoL] ((n + 1 : Nat) : Int) 2 0 6 twoL (2 : Nat)
  w99 : W.getD (n + 3) 0 = 99
  va : ∀ a : Nat, a = 0 ∨ a = n + 4 → ∀ j, j < n → W.getD (a + 1 + j) 0 = vals j
theorem copy_len {W : List Int} {t f n : Nat} (ht : t + n ≤ W.length) (hf : f + n ≤ W.length) : (copyW W t f n).length = W.length := length_splice _ _ _ (by simp; omega)
theorem KpI.moved {y : Lay} {c : Int} {n : Nat} {vals : Nat → Int} (h : KpI W y c n vals n) (hl : W.length = 48) (hn : n ≤ 8) : KpM (copyW W (n + 4) 0 (n + 1)) y c n vals := by
  have ht : n + 4 + (n + 1) ≤ W.length := by omega
  have hf : 0 + (n + 1) ≤ W.length := by omega
  have hg := fun i => copyW_get (W := W) ht hf i
  have hcl := copy_len ht hf
  refine ⟨fun a ha => ?_, h.o2.same hcl ?_, ?_, fun a ha j hj => ?_⟩
  · rcases ha with rfl | rfl
    · refine h.o1.same hcl ?_
      rw [hg, if_neg (by omega)]
    · refine ⟨?_, h.o1.may, ?_, h.o1.ll, h.o1.lay, h.o1.sz⟩
      · rw [ones_at (hcl.trans hl), if_neg (by omega), if_pos (by omega)]
      · rw [Int.toNat_natCast, hg, if_pos (by omega), show 0 + (n + 4 - (n + 4)) = 0 by omega]
        exact h.o1.word
  · rw [hg, if_neg (by omega)]
  · rw [hg, if_neg (by omega)]; exact h.w99
  · rcases ha with rfl | rfl
    · rw [hg, if_neg (by omega), show 0 + 1 + j = 1 + j by omega]; exact h.vs j hj
    · rw [hg, if_pos (by omega), show 0 + (n + 4 + 1 + j - (n + 4)) = 1 + j by omega]; exact h.vs j hj
theorem kpI_made {y : Lay} {c : Int} {n : Nat} {vals : Nat → Int} (hm : mayB 1 c 5 = true) (hsz : y.size c = ((n : Int), 0)) (hn : n ≤ 8) :
    KpI ((((zeroW ((zeroW zerosW 0 (n + 1)).set 0 (encH 1 c 5)) (n + 1) (2 + 1)).set (n + 1) (encH 2 0 6))).set (n + 1 + 1 + 1) 99) y c n vals 0 := by
  have l1 : ((zeroW zerosW 0 (n + 1)).set 0 (encH 1 c 5)).length = 48 := made_len zerosW_len (by omega)
  have l2 := made_len (a := n + 1) (n := 2) (e := encH 2 0 6) l1 (by omega)
  have o1 : ObjAt ((zeroW zerosW 0 (n + 1)).set 0 (encH 1 c 5)) (onesO 5) 8 [y, twoL] ((0 : Nat) : Int) 1 c 5 y n := made_ob zerosW_len hm (by simp) rfl hsz (by omega)
  have o2 := made_ob (ls := [y, twoL]) (a := n + 1) (n := 2) (l := 2) (c := 0) (s := 6) (x := twoL) l1 (by decide) (by simp) rfl twoL_size (by omega)
  refine ⟨ObjAt.set (o1.same (l2.trans l1.symm) ?_) (by omega), o2.set (by omega), ?_, fun j hj => absurd hj (Nat.not_lt_zero _)⟩
  · rw [made_get l1 (by omega), if_neg (by omega), if_neg (by omega)]
  · rw [set_getD _ _ _ (by omega), if_pos (by omega)]
end Go.Proofs.YtaifaefhghjiaaaDoor
end
section
namespace Go.Proofs.YtaifaefhghjiaaaDoor
open Go.RowKit Go.ChangeShapes Go.WideShapes Go.ChangeAt Go.Joins
set_option linter.unusedVariables false
section
variable {H : Type} {enc0 : TypeId × Value → H} {w : World} {base : Nat} {spare : Nat → Bool} {held : Bool}
theorem dec_encI (fuel : Nat) (cs : List Value) (x : DataW H × List MemPlace) (hl : cs.length = 1) (h : DataW.trod enc0 Tryd.prog w base spare held fuel 3 cs = some x) : ∃ a, cs = encI a ∧ True := by
  obtain ⟨n, rfl, _, hw⟩ := DataW.trod_int Tryd.underlying3 h
  exact ⟨n, rfl, trivial⟩
theorem dec_ints (fuel : Nat) (c : Value) (x : DataW H × List MemPlace) (h : DataW.trod enc0 Tryd.prog w base spare held fuel 22 [c] = some x) : ∃ (l : List Int) (A : Option Addr) (n : Nat), c = .slice A l.length n ∧ l.length ≤ n ∧ l.length ≤ maxLen ∧ SliceOf w A 1 encI 0 l := by
  have key : ∀ (A : Option Addr) (len cap : Nat), c = .slice A len cap → ∃ (l : List Int) (A : Option Addr) (n : Nat), c = .slice A l.length n ∧ l.length ≤ n ∧ l.length ≤ maxLen ∧ SliceOf w A 1 encI 0 l := by
    rintro A len cap rfl
    obtain ⟨l, rfl, h1, h2, _, h3⟩ := open_sliceOf (w := w) (D := x.1) (p := x.2) encI (fun _ => True) 0 Tryd.underlying22 (by kernel_rfl) (by decide) (fun _ => rfl) (fun fu cs x hl h => dec_encI fu cs x hl h) ⟨fuel, h⟩
    exact ⟨l, A, cap, rfl, h1, h2, h3⟩
  rcases Deep.open_slice Tryd.underlying22 h with ⟨hcs, _⟩ | ⟨a, len', cap', m, n, D', Pl, hcs, _⟩
  · simp only [List.cons.injEq, and_true] at hcs
    exact key _ _ _ hcs
  · simp only [List.cons.injEq, and_true] at hcs
    exact key _ _ _ hcs
set_option maxRecDepth 100000 in
theorem dec_lay (fuel : Nat) (cs : List Value) (x : DataW H × List MemPlace) (hl : cs.length = 4) (h : DataW.trod enc0 Tryd.prog w base spare held fuel 24 cs = some x) : ∃ (y : Lay) (A1 : Option Addr) (c1 : Nat) (A2 : Option Addr) (c2 : Nat), cs = (layCells y A1 c1 A2 c2).toList ∧ LayIs w y A1 c1 A2 c2 := by
  match cs, hl with
  | [c0, c1, c2, c3], _ =>
    obtain ⟨y0, y1, y2, y3, n, _, _, h0, h1, h2, h3⟩ := trod_struct4 Tryd.underlying24 h
    obtain ⟨F, e0, _, _⟩ := DataW.trod_int Tryd.underlying3 h0
    obtain ⟨R, e2, _, _⟩ := DataW.trod_int Tryd.underlying3 h2
    obtain ⟨l1, A1, n1, rfl, p1, p2, p3⟩ := dec_ints _ _ _ h1
    obtain ⟨l2, A2, n2, rfl, q1, q2, q3⟩ := dec_ints _ _ _ h3
    have e0' : [c0] = [Value.int .i64 F] := e0
    have e2' : [c2] = [Value.int .i64 R] := e2
    cases e0'
    cases e2'
    exact ⟨⟨F, l1, R, l2⟩, A1, n1, A2, n2, rfl, ⟨p3, p1, p2, q3, q1, q2⟩⟩
theorem dec_layR (fuel : Nat) (cs : List Value) (x : DataW H × List MemPlace) (hl : cs.length = 4) (h : DataW.trod enc0 Tryd.prog w base spare held fuel 24 cs = some x) : ∃ a : LayR, cs = layREnc a ∧ LayIs w a.x a.A1 a.c1 a.A2 a.c2 := by
  obtain ⟨y, A1, c1, A2, c2, he, hL⟩ := dec_lay fuel cs x hl h
  exact ⟨⟨y, A1, c1, A2, c2⟩, he, hL⟩
def encU (x : Int) : List Value := [.int .u64 x]
theorem dec_u64 (fuel : Nat) (cs : List Value) (x : DataW H × List MemPlace) (hl : cs.length = 1) (h : DataW.trod enc0 Tryd.prog w base spare held fuel 41 cs = some x) : ∃ a, cs = encU a ∧ (0 ≤ a ∧ a < 18446744073709551616) := by
  obtain ⟨n, rfl, _, hw⟩ := DataW.trod_int Tryd.underlying41 h
  refine ⟨n, rfl, ?_⟩
  simp [Lit.wf, IntKind.min, IntKind.max, IntKind.bits, IntKind.signed] at hw
  omega
set_option maxRecDepth 100000 in
theorem dec_a12 (fuel : Nat) (cs : List Value) (x : DataW H × List MemPlace) (hl : cs.length = 10) (h : DataW.trod enc0 Tryd.prog w base spare held fuel 51 cs = some x) : ∃ a, cs = a12Enc a ∧ good12 a := by
  match cs, hl with
  | [c0, c1, c2, c3, c4, c5, c6, c7, c8, c9], _ =>
    obtain ⟨xs, n, _, _, _, hlen, hf⟩ := DataW.trod_struct Tryd.underlying51 h
    match xs, hlen with
    | [y0, y1, y2, y3, y4, y5], _ =>
      have h0 : DataW.trod enc0 Tryd.prog w base spare held n 3 [c0] = some y0 := hf 0 _ rfl
      have h1 : DataW.trod enc0 Tryd.prog w base spare held n 3 [c1] = some y1 := hf 1 _ rfl
      have h2 : DataW.trod enc0 Tryd.prog w base spare held n 3 [c2] = some y2 := hf 2 _ rfl
      have h3 : DataW.trod enc0 Tryd.prog w base spare held n 43 [c3, c4, c5] = some y3 := hf 3 _ rfl
      have h4 : DataW.trod enc0 Tryd.prog w base spare held n 41 [c6] = some y4 := hf 4 _ rfl
      have h5 : DataW.trod enc0 Tryd.prog w base spare held n 49 [c7, c8, c9] = some y5 := hf 5 _ rfl
      obtain ⟨a, e0, _, w0⟩ := DataW.trod_int Tryd.underlying3 h0
      obtain ⟨b, e1, _, w1⟩ := DataW.trod_int Tryd.underlying3 h1
      obtain ⟨c, e2, _, w2⟩ := DataW.trod_int Tryd.underlying3 h2
      obtain ⟨d, e4, w4⟩ := dec_u64 _ _ _ rfl h4
      obtain ⟨zs, m, _, _, _, hzl, hz⟩ := DataW.trod_struct Tryd.underlying43 h3
      obtain ⟨vs, k, _, _, _, hvl, hv⟩ := DataW.trod_struct Tryd.underlying49 h5
      match zs, hzl, vs, hvl with
      | [z0, z1, z2], _, [v0, v1], _ =>
        have g0 : DataW.trod enc0 Tryd.prog w base spare held m 3 [c3] = some z0 := hz 0 _ rfl
        have g1 : DataW.trod enc0 Tryd.prog w base spare held m 3 [c4] = some z1 := hz 1 _ rfl
        have g2 : DataW.trod enc0 Tryd.prog w base spare held m 3 [c5] = some z2 := hz 2 _ rfl
        have l0 : DataW.trod enc0 Tryd.prog w base spare held k 3 [c7] = some v0 := hv 0 _ rfl
        have l1 : DataW.trod enc0 Tryd.prog w base spare held k 47 [c8, c9] = some v1 := hv 1 _ rfl
        obtain ⟨us, m2, _, _, _, hul, hu⟩ := DataW.trod_struct Tryd.underlying47 l1
        match us, hul with
        | [u0, u1], _ =>
          have t0 : DataW.trod enc0 Tryd.prog w base spare held m2 3 [c8] = some u0 := hu 0 _ rfl
          have t1 : DataW.trod enc0 Tryd.prog w base spare held m2 3 [c9] = some u1 := hu 1 _ rfl
          obtain ⟨p0, s0, _, _⟩ := DataW.trod_int Tryd.underlying3 g0
          obtain ⟨p1, s1, _, _⟩ := DataW.trod_int Tryd.underlying3 g1
          obtain ⟨p2, s2, _, _⟩ := DataW.trod_int Tryd.underlying3 g2
          obtain ⟨p3, s3, _, _⟩ := DataW.trod_int Tryd.underlying3 l0
          obtain ⟨p4, s4, _, _⟩ := DataW.trod_int Tryd.underlying3 t0
          obtain ⟨p5, s5, _, _⟩ := DataW.trod_int Tryd.underlying3 t1
          cases e0
          cases e1
          cases e2
          cases e4
          cases s0
          cases s1
          cases s2
          cases s3
          cases s4
          cases s5
          exact ⟨⟨a, b, c, p0, p1, p2, d, p3, p4, p5⟩, rfl, w4⟩
set_option maxRecDepth 100000 in
theorem dec_tok (fuel : Nat) (cs : List Value) (x : DataW H × List MemPlace) (hl : cs.length = 2) (h : DataW.trod enc0 Tryd.prog w base spare held fuel 47 cs = some x) : ∃ a b, cs = [.int .i64 a, .int .i64 b] ∧ ((Lit.int .i64 a).wf = true ∧ (Lit.int .i64 b).wf = true) := by
  match cs, hl with
  | [c0, c1], _ =>
    obtain ⟨us, m2, _, _, _, hul, hu⟩ := DataW.trod_struct Tryd.underlying47 h
    match us, hul with
    | [u0, u1], _ =>
      have t0 : DataW.trod enc0 Tryd.prog w base spare held m2 3 [c0] = some u0 := hu 0 _ rfl
      have t1 : DataW.trod enc0 Tryd.prog w base spare held m2 3 [c1] = some u1 := hu 1 _ rfl
      obtain ⟨p4, s4, _, q4⟩ := DataW.trod_int Tryd.underlying3 t0
      obtain ⟨p5, s5, _, q5⟩ := DataW.trod_int Tryd.underlying3 t1
      cases s4
      cases s5
      exact ⟨p4, p5, rfl, q4, q5⟩
end
end Go.Proofs.YtaifaefhghjiaaaDoor
end
section
namespace Go.Proofs.YtaifaefhghjiaaaDoor
open Go.RowKit
set_option linter.unusedVariables false
set_option linter.unusedSimpArgs false
variable {w w' base : World} {M B Wb Ob p q P bd D G Wg Og size : Nat} {W W' own own' : List Int} {ls : List Lay} {T : Nat → Prop} {v u : Value} {l dl : List LayR}
theorem copy_tw_ok {t f n : Nat} (ht : t + n ≤ W.length) (hf : f + n ≤ W.length) (h1 : okW own size t n = true) (h2 : okW own size f n = true) : CopyTw W own size t f n 0 (copyW W t f n) :=
  ⟨fun Y B Wb Ob p q hs => copy_in hs t f n ht hf h1 h2, fun Y G Wg Og hr => (rcopy_in hr t f n ht hf).mono fun e Y' h => by
    rcases h with ⟨_, _, h3, h4, h5⟩ | ⟨h3, _⟩
    · exact ⟨h3, h4, h5⟩
    · exact absurd ⟨h1, h2⟩ h3⟩
theorem IS.move (h : IS base w M B Wb Ob p q P T W ls) (t f n y : Int) (hm : MoveR W (onesO 5) 8 ls t f n y W') (hw : Wds W') (hl : W'.length = 48) : Calls Tryd.prog 20 #[.pointer (some ⟨M, 0, none⟩), .int .i64 t, .int .i64 f] w fun e w' => e = .returned (.tuple #[.int .i64 n, .int .i64 y]) ∧ IS base w' M B Wb Ob p q P T W' ls ∧ Mod (Four3 Wb Ob p q) w w' :=
  (move_any h.ip h.wd t f n y hm).mono fun e w' ⟨h1, h2, h3⟩ => ⟨h1, h.turn h2 h3 hw hl, h3⟩
/-- Two layouts in a row of their own. -/
theorem two_row {k : Nat} {y : Lay} {A1 A2 : Option Addr} {c1 c2 : Nat} (h : w.heap[k]? = some (.cells #[.int .i64 y.fixed, .slice A1 y.refs.length c1, .int .i64 y.record, .slice A2 y.recs.length c2, .int .i64 2, .slice none 0 0, .int .i64 0, .slice none 0 0] 24 (0, 0))) : SliceOf w (some ⟨k, 0, none⟩) 4 layREnc layR0 [⟨y, A1, c1, A2, c2⟩, ⟨twoL, none, 0, none, 0⟩] := fun i hi => by
  refine ⟨_, _, rfl, fun j x hx => ?_⟩
  have hij : i = 0 ∨ i = 1 := by simp at hi; omega
  rcases hij with rfl | rfl
  · have hj : j < 4 := by
      rcases Nat.lt_or_ge j 4 with g | g
      · exact g
      · simp [layREnc, List.getElem?_eq_none, g] at hx
    have h0 := blk_cells h (0 + 0 * 4 + j)
    rw [h0]
    rcases j with _ | _ | _ | _ | j
    · simpa [layREnc] using hx
    · simpa [layREnc] using hx
    · simpa [layREnc] using hx
    · simpa [layREnc] using hx
    · omega
  · have hj : j < 4 := by
      rcases Nat.lt_or_ge j 4 with g | g
      · exact g
      · simp [layREnc, List.getElem?_eq_none, g] at hx
    have h0 := blk_cells h (0 + 1 * 4 + j)
    rw [h0]
    rcases j with _ | _ | _ | _ | j
    · simpa [layREnc, twoL] using hx
    · simpa [layREnc, twoL] using hx
    · simpa [layREnc, twoL] using hx
    · simpa [layREnc, twoL] using hx
    · omega
theorem kept_two {y : Lay} {A1 A2 : Option Addr} {c1 c2 : Nat} (h : y.right = true) : keptR [⟨y, A1, c1, A2, c2⟩, ⟨twoL, none, 0, none, 0⟩] = [⟨y, A1, c1, A2, c2⟩, ⟨twoL, none, 0, none, 0⟩] := by
  show List.filter rightR [⟨y, A1, c1, A2, c2⟩, ⟨twoL, none, 0, none, 0⟩] = _
  rw [List.filter_cons_of_pos (show rightR ⟨y, A1, c1, A2, c2⟩ = true from h)]
  rfl
theorem w64_small (x : Int) (h0 : 0 ≤ x) (h1 : x < 1000) : IntKind.i64.wrap x = x := by
  rw [IntKind.wrap_i64]
  omega
theorem kp_move {y : Lay} {c : Int} {n : Nat} {vals : Nat → Int} (h : KpI W y c n vals n) (hl : W.length = 48) (hn : n ≤ 8) : MoveR W (onesO 5) 8 [y, twoL] ((n : Int) + 4) 0 ((n : Int) + 1) 0 (copyW W (n + 4) 0 (n + 1)) := by
  have ha := h.o1.atR
  have hf := h.o1.find
  rw [show ((0 : Nat) : Int) = 0 from rfl] at ha hf
  refine .inr ⟨hf, 0, ?_, rfl, ?_⟩
  · rw [ha]
    have hk := copy_tw_ok (W := W) (own := onesO 5) (size := 8) (t := n + 4) (f := 0) (n := n + 1) (by omega) (by omega) (ones_ok _ _ (by omega)) (ones_ok _ _ (by omega))
    rw [show ((n + 4 : Nat) : Int) = (n : Int) + 4 by omega, show ((n + 1 : Nat) : Int) = (n : Int) + 1 by omega, show ((0 : Nat) : Int) = 0 from rfl] at hk
    exact hk
  · rw [if_pos rfl, ha]
theorem kp_link {y : Lay} {ws : List Int} {ti tg : Int} {j : Nat} (hr : y.isRef j = true) (hm : mayLinkB 2 ti tg = true) : linkI (valK y ws ti tg j) = (2, ti, tg, 0) := by
  unfold valK
  rw [if_pos hr, back_word hm]
theorem link_good (tx ty : Int) : aliveB (wrap64 ((IntKind.u64.wrap tx).tmod 4096)) (wrap64 (1 + wrap64 ((IntKind.u64.wrap ty).tmod 255))) = true := by
  rw [aliveB_iff, IntKind.wrap_u64, IntKind.wrap_u64]
  have h1 : 0 ≤ tx % 18446744073709551616 := by omega
  have h2 : 0 ≤ ty % 18446744073709551616 := by omega
  rw [Int.tmod_eq_emod_of_nonneg h1, Int.tmod_eq_emod_of_nonneg h2]
  unfold wrap64
  omega
set_option maxRecDepth 100000 in
set_option maxHeartbeats 8000000 in
theorem ikeeps_walk (y : Lay) (A1 : Option Addr) (c1 : Nat) (A2 : Option Addr) (c2 : Nat) (Aw : Option Addr) (ws : List Int) (capw : Nat) (tx ty : Int) (hL : LayIs w y A1 c1 A2 c2) (hcp : ws.length ≤ capw) (hmw : ws.length ≤ maxLen) (hs : SliceOf w Aw 1 encU 0 ws) (hg : ∀ a ∈ ws, 0 ≤ a ∧ a < 18446744073709551616) (htx : (Lit.int .i64 tx).wf = true) (hty : (Lit.int .i64 ty).wf = true) (hT : Tab w) :
    Calls Tryd.prog 4 #[layV y A1 c1 A2 c2, .slice Aw ws.length capw, .agg #[.int .i64 tx, .int .i64 ty]] w fun e w' => e = .returned (.bool true) ∧ Below w.heap.size w w' := by
  have h0 : 0 < w.heap.size := lt_of_cell (hT 0 (by decide))
  have HAL : Hid (∀ w1, Below w.heap.size w w1 → Calls Tryd.prog 8 #[] w1 fun e w' => e = .returned (.bool true) ∧ Below w1.heap.size w1 w') := Lib.hid (fun w1 hb => alive12_any w1 (hT.below hb h0))
  have HTB : Hid (∀ w1, Below w.heap.size w w1 → Tab w1) := Lib.hid (fun w1 hb => hT.below hb h0)
  have HLY := Lib.hid hL
  have HSA := Lib.hid hs
  have HGA := Lib.hid hg
  have HTX := Lib.hid (And.intro (i64_of htx) (i64_of hty))
  unfold layV
  have hb1 := below1 w (.cells #[.int .i64 y.fixed, .slice A1 y.refs.length c1, .int .i64 y.record, .slice A2 y.recs.length c2] 24)
  have hl1 := heap_alloc_new w (.cells #[.int .i64 y.fixed, .slice A1 y.refs.length c1, .int .i64 y.record, .slice A2 y.recs.length c2] 24)
  have hz1 : (w.alloc (.cells #[.int .i64 y.fixed, .slice A1 y.refs.length c1, .int .i64 y.record, .slice A2 y.recs.length c2] 24)).heap.size = w.heap.size + 1 := World.size_alloc _ _
  have hb2 := hb1.on (below1 (w.alloc (.cells #[.int .i64 y.fixed, .slice A1 y.refs.length c1, .int .i64 y.record, .slice A2 y.recs.length c2] 24)) (.cells #[.int .i64 tx, .int .i64 ty] 47))
  have hl2 := (Below.heap_alloc (w.alloc (.cells #[.int .i64 y.fixed, .slice A1 y.refs.length c1, .int .i64 y.record, .slice A2 y.recs.length c2] 24)) (.cells #[.int .i64 tx, .int .i64 ty] 47) _ (block_lt hl1)).trans hl1
  have hk2 := heap_alloc_new (w.alloc (.cells #[.int .i64 y.fixed, .slice A1 y.refs.length c1, .int .i64 y.record, .slice A2 y.recs.length c2] 24)) (.cells #[.int .i64 tx, .int .i64 ty] 47)
  rw [hz1] at hk2
  clear hT hL hs hg h0 hb1 hl1 hz1 htx hty
  go_enter Tryd.func4, Tryd.ntmps4
  have k0 := (blk_cells hl2 0).trans rfl
  have k1 := (blk_cells hl2 1).trans rfl
  have k2 := (blk_cells hl2 2).trans rfl
  have k3 := (blk_cells hl2 3).trans rfl
  have HA2 := Lib.hid (HAL.out _ hb2)
  have HB2 := Lib.hid hb2
  have HL2 := Lib.hid hl2
  have HK2 := Lib.hid hk2
  clear hb2 hl2 hk2
  by_cases gl : 100 < y.refs.length ∨ 100 < y.recs.length
  · by_cases g1 : 100 < y.refs.length
    · have e1 : decide ((100 : Int) < (y.refs.length : Int)) = true := decide_eq_true (by omega)
      clear gl
      go_wp2_with fail
      generalize (w.alloc (.cells #[.int .i64 y.fixed, .slice A1 y.refs.length c1, .int .i64 y.record, .slice A2 y.recs.length c2] 24)).alloc (.cells #[.int .i64 tx, .int .i64 ty] 47) = W2 at *
      refine HA2.out.mono ?_
      rintro e w4 ⟨rfl, hb4⟩
      have HB4 := Lib.hid (HB2.out.on hb4)
      clear hb4
      go_wp2
      go_ret
      exact ⟨rfl, HB4.out⟩
    · have e1 : decide ((100 : Int) < (y.refs.length : Int)) = false := decide_eq_false (by omega)
      have e2 : decide ((100 : Int) < (y.recs.length : Int)) = true := decide_eq_true (by omega)
      clear gl
      go_wp2_with fail
      generalize (w.alloc (.cells #[.int .i64 y.fixed, .slice A1 y.refs.length c1, .int .i64 y.record, .slice A2 y.recs.length c2] 24)).alloc (.cells #[.int .i64 tx, .int .i64 ty] 47) = W2 at *
      refine HA2.out.mono ?_
      rintro e w4 ⟨rfl, hb4⟩
      have HB4 := Lib.hid (HB2.out.on hb4)
      clear hb4
      go_wp2
      go_ret
      exact ⟨rfl, HB4.out⟩
  · have e1 : decide ((100 : Int) < (y.refs.length : Int)) = false := decide_eq_false (by omega)
    have e2 : decide ((100 : Int) < (y.recs.length : Int)) = false := decide_eq_false (by omega)
    have hb4 := below1 ((w.alloc (.cells #[.int .i64 y.fixed, .slice A1 y.refs.length c1, .int .i64 y.record, .slice A2 y.recs.length c2] 24)).alloc (.cells #[.int .i64 tx, .int .i64 ty] 47)) (.cells #[.int .i64 y.fixed, .slice A1 y.refs.length c1, .int .i64 y.record, .slice A2 y.recs.length c2, .int .i64 2, .slice none 0 0, .int .i64 0, .slice none 0 0] 24)
    have hn4 := heap_alloc_new ((w.alloc (.cells #[.int .i64 y.fixed, .slice A1 y.refs.length c1, .int .i64 y.record, .slice A2 y.recs.length c2] 24)).alloc (.cells #[.int .i64 tx, .int .i64 ty] 47)) (.cells #[.int .i64 y.fixed, .slice A1 y.refs.length c1, .int .i64 y.record, .slice A2 y.recs.length c2, .int .i64 2, .slice none 0 0, .int .i64 0, .slice none 0 0] 24)
    have hz2 : ((w.alloc (.cells #[.int .i64 y.fixed, .slice A1 y.refs.length c1, .int .i64 y.record, .slice A2 y.recs.length c2] 24)).alloc (.cells #[.int .i64 tx, .int .i64 ty] 47)).heap.size = w.heap.size + 1 + 1 := by rw [World.size_alloc, World.size_alloc]
    rw [hz2] at hn4
    have hl4 := (hb4.block _ (block_lt HL2.out)).trans HL2.out
    have hk4 := (hb4.block _ (block_lt HK2.out)).trans HK2.out
    have HB4 := Lib.hid (HB2.out.on hb4)
    have HLY4 := Lib.hid (HLY.out.on HB4.out)
    have HMD := Lib.hid (imade_any (some ⟨w.heap.size + 1 + 1, 0, none⟩) [⟨y, A1, c1, A2, c2⟩, ⟨twoL, none, 0, none, 0⟩] 2 _ (two_row hn4) (fun r hr => by
      rcases List.mem_cons.1 hr with hr | hr
      · subst hr; exact HLY4.out
      · rw [List.mem_singleton] at hr
        subst hr
        exact ⟨(fun k hk => by simp [twoL] at hk), Nat.le_refl _, by decide, (fun k hk => by simp [twoL] at hk), Nat.le_refl _, by decide⟩) (show 2 ≤ 2 by decide) (by decide) (HTB.out _ HB4.out))
    have HL4 := Lib.hid hl4
    have HK4 := Lib.hid hk4
    clear hb4 hn4 hl4 hk4 hz2 HA2 HB2 HL2 HK2 gl
    go_wp2_with fail
    generalize ((w.alloc (.cells #[.int .i64 y.fixed, .slice A1 y.refs.length c1, .int .i64 y.record, .slice A2 y.recs.length c2] 24)).alloc (.cells #[.int .i64 tx, .int .i64 ty] 47)).alloc (.cells #[.int .i64 y.fixed, .slice A1 y.refs.length c1, .int .i64 y.record, .slice A2 y.recs.length c2, .int .i64 2, .slice none 0 0, .int .i64 0, .slice none 0 0] 24) = W4 at *
    clear k0 k1 k2 k3 e1 e2
    refine HMD.out.mono ?_
    rintro e w5 ⟨B, Wb, Ob, p, q, P, M, D, G, Wg, Og, u, rfl, hj⟩
    have HBW : Hid (∀ Y, Below W4.heap.size W4 Y → Below w.heap.size w Y) := Lib.hid (fun Y hY => HB4.out.trans (hY.mono HB4.out.size))
    have HCL : Hid (∀ Y, Below W4.heap.size W4 Y → Y.heap[w.heap.size]? = some (.cells #[.int .i64 y.fixed, .slice A1 y.refs.length c1, .int .i64 y.record, .slice A2 y.recs.length c2] 24 (0, 0))) := Lib.hid (fun Y hY => (hY.block _ (block_lt HL4.out)).trans HL4.out)
    have HCT : Hid (∀ Y, Below W4.heap.size W4 Y → Y.heap[w.heap.size + 1]? = some (.cells #[.int .i64 tx, .int .i64 ty] 47 (0, 0))) := Lib.hid (fun Y hY => (hY.block _ (block_lt HK4.out)).trans HK4.out)
    have HJ := Lib.hid hj
    have HA5 := Lib.hid (HAL.out _ (HBW.out _ hj.im.below))
    clear hj HMD HAL HTB HL4 HK4
    go_wp2_with fail
    refine HA5.out.mono ?_
    rintro e w6 ⟨rfl, hb6⟩
    have hbw6 := HJ.out.im.below.on hb6
    have hl6 := HCL.out _ hbw6
    have HIM := Lib.hid (HJ.out.im.on hb6)
    have k0 := (blk_cells hl6 0).trans rfl
    have k1 := (blk_cells hl6 1).trans rfl
    have k2 := (blk_cells hl6 2).trans rfl
    have k3 := (blk_cells hl6 3).trans rfl
    have HSZ := Lib.hid (refsize_any y (min 1 y.record) A1 c1 A2 c2 w6 (HLY4.out.on hbw6))
    unfold layV at HSZ
    have HI6 : Hid (y.right = true → IS W4 w6 M B Wb Ob p q P (Six Wb Ob p q Wg Og) zerosW [y, twoL]) := Lib.hid (fun hr => by
      have := (HJ.out.is zerosW_words zerosW_len).on hb6
      rwa [kept_two hr] at this)
    have HKP : Hid (y.right = true → (keptR [⟨y, A1, c1, A2, c2⟩, ⟨twoL, none, 0, none, 0⟩]).length = 2) := Lib.hid (fun hr => by rw [kept_two hr]; rfl)
    have HB6 := Lib.hid (HBW.out _ hbw6)
    clear hl6 hb6 HA5 HJ hbw6
    generalize hc : min 1 y.record = c at *
    have hcs := Lib.hid (Lay.size_ok (x := y) (c := c))
    generalize hsz : y.size c = sz at *
    obtain ⟨n', code⟩ := sz
    go_wp2_with fail
    refine HSZ.out.mono ?_
    rintro e w7 ⟨rfl, hb7⟩
    have HB7 := Lib.hid (HB6.out.on hb7)
    by_cases gc : code = 0 ∧ n' ≤ 8
    · obtain ⟨rfl, gn⟩ := gc
      obtain ⟨q4, q5, q6, q7, q8, q9⟩ := hcs.out rfl
      obtain ⟨r1, r2, r3, r4, r5, r6, r7⟩ := Lay.right_out q4
      have hn0 : 0 ≤ n' := by
        have : 0 ≤ c * y.record := Int.mul_nonneg q5 r3
        show (0 : Int) ≤ (n', (0 : Int)).1
        rw [q8]
        omega
      obtain ⟨n, rfl⟩ : ∃ n : Nat, n' = n := ⟨n'.toNat, by omega⟩
      have hn8 : n ≤ 8 := by omega
      have d2 : decide ((8 : Int) < (n : Int)) = false := decide_eq_false (by omega)
      have HI7 := Lib.hid ((HI6.out q4).on hb7)
      have him := HIM.out.on hb7
      have hu1 := him.row
      rw [HKP.out q4] at hu1
      obtain ⟨Au, cu, hu, -, -⟩ := own_slice (l := keptR [⟨y, A1, c1, A2, c2⟩, ⟨twoL, none, 0, none, 0⟩]) layREnc layR0 (fun _ => rfl) (by rw [HKP.out q4]; exact hu1)
      rw [HKP.out q4] at hu
      have e1 := him.c1
      subst hu
      have HSZ2 : Hid (y.size c = ((n : Int), 0)) := Lib.hid hsz
      have HMY : Hid (mayB 1 c 5 = true) := Lib.hid (mayB_iff.2 ⟨by decide, by decide, q5, q6, by decide, by decide⟩)
      have wn : IntKind.i64.wrap ((n : Int) + 1) = n + 1 := by rw [IntKind.wrap_i64]; omega
      have wn4 : IntKind.i64.wrap ((n : Int) + 4) = n + 4 := by rw [IntKind.wrap_i64]; omega
      have hbw7 := HI7.out.below
      have hl7 := HCL.out _ hbw7
      have hb8 := below1 w7 (.cells #[.int .i64 1, .int .i64 c, .int .i64 5] 43)
      have hn8' := heap_alloc_new w7 (.cells #[.int .i64 1, .int .i64 c, .int .i64 5] 43)
      have HI8 := Lib.hid (HI7.out.on hb8)
      have HLT : Hid (∀ k, Four3 Wb Ob p q k → k < w7.heap.size) := Lib.hid HI7.out.lt
      clear hsz hcs q4 q5 q6 q7 q8 q9 r1 r2 r3 r4 r5 r6 r7 hn0 hb7 him hu1 HSZ HI6 HKP HIM k0 k1 k2 k3 HB6 gn HI7
      have k2 := (blk_cells hl7 2).trans rfl
      have HM1 : Hid (∀ Y, IS W4 Y M B Wb Ob p q P (Six Wb Ob p q Wg Og) zerosW [y, twoL] → Calls Tryd.prog 12 #[.pointer (some ⟨M, 0, none⟩), .int .i64 0, .agg #[.int .i64 1, .int .i64 c, .int .i64 5]] Y fun e w' => e = .returned (.tuple #[.int .i64 ((n : Int) + 1), .int .i64 0]) ∧ IS W4 w' M B Wb Ob p q P (Six Wb Ob p q Wg Og) ((zeroW zerosW 0 (n + 1)).set 0 (encH 1 c 5)) [y, twoL] ∧ Mod (Four3 Wb Ob p q) Y w') := Lib.hid (fun Y hY => (hY.make 0 1 c 5).mono fun e w' ⟨h1, h2, h3⟩ => by
        obtain ⟨m1, m2⟩ := make_at (ls := [y, twoL]) (a := 0) (n := n) (l := 1) (c := c) (s := 5) (x := y) hY.len HMY.out (by simp) rfl HSZ2.out (by omega)
        rw [show ((0 : Nat) : Int) = 0 from rfl] at m1 m2
        rw [m1] at h1
        rw [m2] at h2
        exact ⟨h1, h2, h3⟩)
      have HM2 : Hid (∀ Y, IS W4 Y M B Wb Ob p q P (Six Wb Ob p q Wg Og) ((zeroW zerosW 0 (n + 1)).set 0 (encH 1 c 5)) [y, twoL] → Calls Tryd.prog 12 #[.pointer (some ⟨M, 0, none⟩), .int .i64 ((n : Int) + 1), .agg #[.int .i64 2, .int .i64 0, .int .i64 6]] Y fun e w' => e = .returned (.tuple #[.int .i64 3, .int .i64 0]) ∧ IS W4 w' M B Wb Ob p q P (Six Wb Ob p q Wg Og) ((zeroW ((zeroW zerosW 0 (n + 1)).set 0 (encH 1 c 5)) (n + 1) (2 + 1)).set (n + 1) (encH 2 0 6)) [y, twoL] ∧ Mod (Four3 Wb Ob p q) Y w') := Lib.hid (fun Y hY => (hY.make ((n : Int) + 1) 2 0 6).mono fun e w' ⟨h1, h2, h3⟩ => by
        obtain ⟨m1, m2⟩ := make_at (ls := [y, twoL]) (a := n + 1) (n := 2) (l := 2) (c := 0) (s := 6) (x := twoL) hY.len (by decide) (by simp) rfl twoL_size (by omega)
        rw [show ((n + 1 : Nat) : Int) = (n : Int) + 1 by omega] at m1 m2
        rw [m1] at h1
        rw [m2] at h2
        exact ⟨h1, h2, h3⟩)
      have HO2 : Hid (ObjAt ((zeroW ((zeroW zerosW 0 (n + 1)).set 0 (encH 1 c 5)) (n + 1) (2 + 1)).set (n + 1) (encH 2 0 6)) (onesO 5) 8 [y, twoL] ((n + 1 : Nat) : Int) 2 0 6 twoL (2 : Nat)) := Lib.hid (made_ob (ls := [y, twoL]) (a := n + 1) (n := 2) (l := 2) (c := 0) (s := 6) (x := twoL) (made_len zerosW_len (by omega)) (by decide) (by simp) rfl twoL_size (by omega))
      have HSV : Hid (∀ Y, IS W4 Y M B Wb Ob p q P (Six Wb Ob p q Wg Og) ((zeroW ((zeroW zerosW 0 (n + 1)).set 0 (encH 1 c 5)) (n + 1) (2 + 1)).set (n + 1) (encH 2 0 6)) [y, twoL] → Calls Tryd.prog 13 #[.pointer (some ⟨M, 0, none⟩), .int .i64 ((n : Int) + 1), .int .i64 1, .int .u64 99] Y fun e w' => e = .returned (.int .i64 0) ∧ IS W4 w' M B Wb Ob p q P (Six Wb Ob p q Wg Og) (((zeroW ((zeroW zerosW 0 (n + 1)).set 0 (encH 1 c 5)) (n + 1) (2 + 1)).set (n + 1) (encH 2 0 6)).set (n + 1 + 1 + 1) 99) [y, twoL] ∧ Mod (Four3 Wb Ob p q) Y w') := Lib.hid (fun Y hY => (hY.save ((n : Int) + 1) 1 99 (by decide) (by decide)).mono fun e w' ⟨h1, h2, h3⟩ => by
        have hsv := ob_save (a := n + 1) (n := 2) (p := 1) HO2.out hY.len (by omega) (by decide) 99
        rw [if_pos (by decide +kernel), show ((n + 1 : Nat) : Int) = (n : Int) + 1 by omega, show ((1 : Nat) : Int) = 1 from rfl] at hsv
        rw [hsv] at h1 h2
        exact ⟨h1, h2, h3⟩)
      have HKI : Hid (∀ vals, KpI (((zeroW ((zeroW zerosW 0 (n + 1)).set 0 (encH 1 c 5)) (n + 1) (2 + 1)).set (n + 1) (encH 2 0 6)).set (n + 1 + 1 + 1) 99) y c n vals 0) := Lib.hid (fun vals => kpI_made HMY.out HSZ2.out hn8)
      clear hl7 hbw7 hb8 HO2
      go_wp2_with fail
      generalize w7.alloc (.cells #[.int .i64 1, .int .i64 c, .int .i64 5] 43) = W8 at *
      generalize w7.heap.size = nb at *
      refine (HM1.out _ HI8.out).mono ?_
      rintro e w9 ⟨rfl, h9, hm9⟩
      have HI9 := Lib.hid h9
      have hn9 := hm9.keeps hn8' (fun e => Nat.lt_irrefl _ (HLT.out _ e))
      clear h9 hm9 hn8' HI8 HM1 k2
      go_wp2_with fail
      refine (HM2.out _ HI9.out).mono ?_
      rintro e w10 ⟨rfl, h10, hm10⟩
      have HI10 := Lib.hid h10
      have hn10 := hm10.keeps hn9 (fun e => Nat.lt_irrefl _ (HLT.out _ e))
      clear h10 hm10 hn9 HI9 HM2
      go_wp2_with fail
      refine (HSV.out _ HI10.out).mono ?_
      rintro e w11 ⟨rfl, h11, hm11⟩
      have HI11 := Lib.hid h11
      have HN11 := Lib.hid (hm11.keeps hn10 (fun e => Nat.lt_irrefl _ (HLT.out _ e)))
      have hct := HCT.out _ h11.below
      have t0 := (blk_cells hct 0).trans rfl
      have t1 := (blk_cells hct 1).trans rfl
      clear h11 hm11 hn10 HI10 HSV hct
      have HTG : Hid (mayLinkB 2 (wrap64 ((IntKind.u64.wrap tx).tmod 4096)) (wrap64 (1 + wrap64 ((IntKind.u64.wrap ty).tmod 255))) = true) := Lib.hid (by rw [mayLink_two]; exact link_good tx ty)
      go_wp2_with fail
      generalize wrap64 ((IntKind.u64.wrap tx).tmod 4096) = ti at *
      generalize wrap64 (1 + wrap64 ((IntKind.u64.wrap ty).tmod 255)) = tg at *
      have hbL := below1 w11 (.cells #[.int .i64 2, .int .i64 ti, .int .i64 tg] 49)
      have hnL := heap_alloc_new w11 (.cells #[.int .i64 2, .int .i64 ti, .int .i64 tg] 49)
      have HI12 := Lib.hid (HI11.out.on hbL)
      have HN12 := Lib.hid ((hbL.block _ (block_lt HN11.out)).trans HN11.out)
      have HNL := Lib.hid hnL
      have HLT2 : Hid (∀ k, Four3 Wb Ob p q k → k < w11.heap.size) := Lib.hid HI11.out.lt
      have HK12 := Lib.hid (HKI.out (valK y ws ti tg))
      have HRF : Hid (∀ j : Nat, j < n → ∀ Y, Below W4.heap.size W4 Y → Calls Tryd.prog 19 #[.agg #[.int .i64 y.fixed, .slice A1 y.refs.length c1, .int .i64 y.record, .slice A2 y.recs.length c2], .int .i64 j] Y fun e w' => e = .returned (.bool (y.isRef j)) ∧ Below Y.heap.size Y w') := Lib.hid (fun j hj Y hY => refisref_any y c j A1 c1 A2 c2 Y (HLY4.out.on hY) (by rw [HSZ2.out]) (by omega) (by rw [HSZ2.out]; show (j : Int) < n; omega))
      clear hbL hnL t0 t1 HI11 HN11 HKI
      generalize w11.alloc (.cells #[.int .i64 2, .int .i64 ti, .int .i64 tg] 49) = w12 at *
      generalize w11.heap.size = nb2 at *
      go_loopw [140] (fun v140 wr => ∃ (j : Nat) (WJ : List Int), j ≤ n ∧ v140 = .int .i64 j ∧ Hid (IS W4 wr M B Wb Ob p q P (Six Wb Ob p q Wg Og) WJ [y, twoL]) ∧ Hid (KpI WJ y c n (valK y ws ti tg) j) ∧ Hid (wr.heap[nb]? = some (.cells #[.int .i64 1, .int .i64 c, .int .i64 5] 43 (0, 0))) ∧ Hid (wr.heap[nb2]? = some (.cells #[.int .i64 2, .int .i64 ti, .int .i64 tg] 49 (0, 0)))) (fun v140 _ => n - (intOf v140).toNat)
      case atStart => exact ⟨0, _, by omega, rfl, HI12, HK12, HN12, HNL⟩
      case round =>
      obtain ⟨j, WJ, hj, rfl, HJ, HKJ, HNJ, HN2⟩ := hrel
      clear HI12 HK12 HN12 HNL
      by_cases hlt : j < n
      · have hlj := HCL.out _ HJ.out.below
        have k0 := (blk_cells hlj 0).trans rfl
        have k1 := (blk_cells hlj 1).trans rfl
        have k2 := (blk_cells hlj 2).trans rfl
        have k3 := (blk_cells hlj 3).trans rfl
        clear hlj
        by_cases hx : j < ws.length
        · obtain ⟨b, o, hA, hcx⟩ := HSA.out j hx
          subst hA
          have HX0 : Hid (0 ≤ ws.getD j 0 ∧ ws.getD j 0 < 18446744073709551616) := Lib.hid (HGA.out _ (by
            have : ws.getD j 0 = ws[j] := by simp [List.getD, hx]
            rw [this]; exact List.getElem_mem hx))
          have HXV : Hid ((if j < ws.length then ws.getD j 0 else 7) = ws.getD j 0) := Lib.hid (if_pos hx)
          have hds := ((HBW.out _ HJ.out.below).cell (p := ⟨b, o + j * 1 + 0, none⟩) (lt_of_cell (hcx 0 _ rfl))).trans (hcx 0 _ rfl)
          rw [Nat.add_zero, Nat.mul_one] at hds
          have ew : decide ((j : Int) < (ws.length : Int)) = true := decide_eq_true (by omega)
          clear hcx
          have HVF : Hid (y.isRef j = false → valK y ws ti tg j = (ws.getD j 0)) := Lib.hid (fun g => by unfold valK; rw [if_neg (by rw [g]; decide)]; exact HXV.out)
          have HVT : Hid (y.isRef j = true → valK y ws ti tg j = refWordI 2 ti tg) := Lib.hid (fun g => by unfold valK; rw [if_pos g])
          have HSTP := Lib.hid (HKJ.out.step HJ.out.len hn8 hlt)
          have HT0 : Hid (y.isRef j = true → ∀ Y, IS W4 Y M B Wb Ob p q P (Six Wb Ob p q Wg Og) WJ [y, twoL] → Calls Tryd.prog 14 #[.pointer (some ⟨M, 0, none⟩), .int .i64 0, .int .i64 j, .agg #[.int .i64 2, .int .i64 ti, .int .i64 tg]] Y fun e w' => e = .returned (.int .i64 0) ∧ IS W4 w' M B Wb Ob p q P (Six Wb Ob p q Wg Og) (WJ.set (0 + 1 + j) (valK y ws ti tg j)) [y, twoL] ∧ Mod (Four3 Wb Ob p q) Y w') := Lib.hid (fun g Y hY => (hY.tie 0 j 2 ti tg).mono fun e w' ⟨h1, h2, h3⟩ => by
            have hsv := ob_tie (p := j) HKJ.out.o1 hY.len (by omega) hlt (k := 2) (i := ti) (g := tg) HTG.out
            rw [if_pos g, ← HVT.out g, show ((0 : Nat) : Int) = 0 from rfl] at hsv
            rw [hsv] at h1 h2
            exact ⟨h1, h2, h3⟩)
          have HS9 : Hid (y.isRef j = true → ∀ Y, IS W4 Y M B Wb Ob p q P (Six Wb Ob p q Wg Og) (WJ.set (0 + 1 + j) (valK y ws ti tg j)) [y, twoL] → Calls Tryd.prog 13 #[.pointer (some ⟨M, 0, none⟩), .int .i64 0, .int .i64 j, .int .u64 (ws.getD j 0)] Y fun e w' => e = .returned (.int .i64 9) ∧ IS W4 w' M B Wb Ob p q P (Six Wb Ob p q Wg Og) (WJ.set (0 + 1 + j) (valK y ws ti tg j)) [y, twoL] ∧ Mod (Four3 Wb Ob p q) Y w') := Lib.hid (fun g Y hY => (hY.save 0 j (ws.getD j 0) HX0.out.1 HX0.out.2).mono fun e w' ⟨h1, h2, h3⟩ => by
            have hsv := ob_save (p := j) HSTP.out.o1 hY.len (by omega) hlt (ws.getD j 0)
            rw [if_neg (by rw [g]; decide), show ((0 : Nat) : Int) = 0 from rfl] at hsv
            rw [hsv] at h1 h2
            exact ⟨h1, h2, h3⟩)
          have HS0 : Hid (y.isRef j = false → ∀ Y, IS W4 Y M B Wb Ob p q P (Six Wb Ob p q Wg Og) WJ [y, twoL] → Calls Tryd.prog 13 #[.pointer (some ⟨M, 0, none⟩), .int .i64 0, .int .i64 j, .int .u64 (ws.getD j 0)] Y fun e w' => e = .returned (.int .i64 0) ∧ IS W4 w' M B Wb Ob p q P (Six Wb Ob p q Wg Og) (WJ.set (0 + 1 + j) (valK y ws ti tg j)) [y, twoL] ∧ Mod (Four3 Wb Ob p q) Y w') := Lib.hid (fun g Y hY => (hY.save 0 j (ws.getD j 0) HX0.out.1 HX0.out.2).mono fun e w' ⟨h1, h2, h3⟩ => by
            have hsv := ob_save (p := j) HKJ.out.o1 hY.len (by omega) hlt (ws.getD j 0)
            rw [if_pos g, show ((0 : Nat) : Int) = 0 from rfl] at hsv
            rw [hsv] at h1 h2
            rw [HVF.out g]
            exact ⟨h1, h2, h3⟩)
          have HT9 : Hid (y.isRef j = false → ∀ Y, IS W4 Y M B Wb Ob p q P (Six Wb Ob p q Wg Og) (WJ.set (0 + 1 + j) (valK y ws ti tg j)) [y, twoL] → Calls Tryd.prog 14 #[.pointer (some ⟨M, 0, none⟩), .int .i64 0, .int .i64 j, .agg #[.int .i64 2, .int .i64 ti, .int .i64 tg]] Y fun e w' => e = .returned (.int .i64 9) ∧ IS W4 w' M B Wb Ob p q P (Six Wb Ob p q Wg Og) (WJ.set (0 + 1 + j) (valK y ws ti tg j)) [y, twoL] ∧ Mod (Four3 Wb Ob p q) Y w') := Lib.hid (fun g Y hY => (hY.tie 0 j 2 ti tg).mono fun e w' ⟨h1, h2, h3⟩ => by
            have hsv := ob_tie (p := j) HSTP.out.o1 hY.len (by omega) hlt (k := 2) (i := ti) (g := tg) HTG.out
            rw [if_neg (by rw [g]; decide), show ((0 : Nat) : Int) = 0 from rfl] at hsv
            rw [hsv] at h1 h2
            exact ⟨h1, h2, h3⟩)
          clear HVF HVT HX0
          generalize valK y ws ti tg j = vj at *
          generalize ws.getD j 0 = xv at *
          go_wp2_with fail
          refine (HRF.out j hlt _ HJ.out.below).mono ?_
          rintro e wa ⟨rfl, hba⟩
          have HJa := Lib.hid (HJ.out.on hba)
          have HNa := Lib.hid ((hba.block _ (block_lt HNJ.out)).trans HNJ.out)
          have hna2 := (hba.block _ (block_lt HN2.out)).trans HN2.out
          have HNa2 := Lib.hid hna2
          have s0 := (blk_cells hna2 0).trans rfl
          have s1 := (blk_cells hna2 1).trans rfl
          have s2 := (blk_cells hna2 2).trans rfl
          clear hba hna2 HJ HNJ HN2 k0 k1 k2 k3
          cases hir : y.isRef j with
          | true =>
            have HT0' := Lib.hid (HT0.out hir _ HJa.out)
            have HS9' := Lib.hid (HS9.out hir)
            clear HT0 HS9 HS0 HT9 hir
            go_wp2_with fail
            refine HT0'.out.mono ?_
            rintro e wb ⟨rfl, hb1, hmb⟩
            have HJb := Lib.hid hb1
            have HMb := Lib.hid hmb
            clear hb1 hmb HT0' s0 s1 s2
            go_wp2_with fail
            refine (HS9'.out _ HJb.out).mono ?_
            rintro e wc ⟨rfl, hc1, hmc⟩
            have HJc := Lib.hid hc1
            have HNc := Lib.hid ((HMb.out.trans hmc).keeps HNa.out (fun e => Nat.lt_irrefl _ (HLT.out _ e)))
            have HNc2 := Lib.hid ((HMb.out.trans hmc).keeps HNa2.out (fun e => Nat.lt_irrefl _ (HLT2.out _ e)))
            clear hc1 hmc HJb HMb HS9' HJa HNa HNa2
            go_wp2
            go_roundw
            case rel => exact ⟨j + 1, _, by omega, by go_num, HJc, HSTP, HNc, HNc2⟩
            case measure => simp [intOf]; omega
          | false =>
            have HS0' := Lib.hid (HS0.out hir _ HJa.out)
            have HT9' := Lib.hid (HT9.out hir)
            clear HT0 HS9 HS0 HT9 hir
            go_wp2_with fail
            refine HS0'.out.mono ?_
            rintro e wb ⟨rfl, hb1, hmb⟩
            have HJb := Lib.hid hb1
            have HMb := Lib.hid hmb
            have hnb2 := hmb.keeps HNa2.out (fun e => Nat.lt_irrefl _ (HLT2.out _ e))
            clear s0 s1 s2
            have s0 := (blk_cells hnb2 0).trans rfl
            have s1 := (blk_cells hnb2 1).trans rfl
            have s2 := (blk_cells hnb2 2).trans rfl
            clear hb1 hmb HS0' hnb2
            go_wp2_with fail
            refine (HT9'.out _ HJb.out).mono ?_
            rintro e wc ⟨rfl, hc1, hmc⟩
            have HJc := Lib.hid hc1
            have HNc := Lib.hid ((HMb.out.trans hmc).keeps HNa.out (fun e => Nat.lt_irrefl _ (HLT.out _ e)))
            have HNc2 := Lib.hid ((HMb.out.trans hmc).keeps HNa2.out (fun e => Nat.lt_irrefl _ (HLT2.out _ e)))
            clear hc1 hmc HJb HMb HT9' HJa HNa HNa2 s0 s1 s2
            go_wp2
            go_roundw
            case rel => exact ⟨j + 1, _, by omega, by go_num, HJc, HSTP, HNc, HNc2⟩
            case measure => simp [intOf]; omega
        · have HX0 : Hid ((0 : Int) ≤ 7 ∧ (7 : Int) < 18446744073709551616) := Lib.hid (by decide)
          have ew : decide ((j : Int) < (ws.length : Int)) = false := decide_eq_false (by omega)
          have HVF : Hid (y.isRef j = false → valK y ws ti tg j = 7) := Lib.hid (fun g => by unfold valK; rw [if_neg (by rw [g]; decide)]; exact if_neg hx)
          have HVT : Hid (y.isRef j = true → valK y ws ti tg j = refWordI 2 ti tg) := Lib.hid (fun g => by unfold valK; rw [if_pos g])
          have HSTP := Lib.hid (HKJ.out.step HJ.out.len hn8 hlt)
          have HT0 : Hid (y.isRef j = true → ∀ Y, IS W4 Y M B Wb Ob p q P (Six Wb Ob p q Wg Og) WJ [y, twoL] → Calls Tryd.prog 14 #[.pointer (some ⟨M, 0, none⟩), .int .i64 0, .int .i64 j, .agg #[.int .i64 2, .int .i64 ti, .int .i64 tg]] Y fun e w' => e = .returned (.int .i64 0) ∧ IS W4 w' M B Wb Ob p q P (Six Wb Ob p q Wg Og) (WJ.set (0 + 1 + j) (valK y ws ti tg j)) [y, twoL] ∧ Mod (Four3 Wb Ob p q) Y w') := Lib.hid (fun g Y hY => (hY.tie 0 j 2 ti tg).mono fun e w' ⟨h1, h2, h3⟩ => by
            have hsv := ob_tie (p := j) HKJ.out.o1 hY.len (by omega) hlt (k := 2) (i := ti) (g := tg) HTG.out
            rw [if_pos g, ← HVT.out g, show ((0 : Nat) : Int) = 0 from rfl] at hsv
            rw [hsv] at h1 h2
            exact ⟨h1, h2, h3⟩)
          have HS9 : Hid (y.isRef j = true → ∀ Y, IS W4 Y M B Wb Ob p q P (Six Wb Ob p q Wg Og) (WJ.set (0 + 1 + j) (valK y ws ti tg j)) [y, twoL] → Calls Tryd.prog 13 #[.pointer (some ⟨M, 0, none⟩), .int .i64 0, .int .i64 j, .int .u64 7] Y fun e w' => e = .returned (.int .i64 9) ∧ IS W4 w' M B Wb Ob p q P (Six Wb Ob p q Wg Og) (WJ.set (0 + 1 + j) (valK y ws ti tg j)) [y, twoL] ∧ Mod (Four3 Wb Ob p q) Y w') := Lib.hid (fun g Y hY => (hY.save 0 j 7 HX0.out.1 HX0.out.2).mono fun e w' ⟨h1, h2, h3⟩ => by
            have hsv := ob_save (p := j) HSTP.out.o1 hY.len (by omega) hlt 7
            rw [if_neg (by rw [g]; decide), show ((0 : Nat) : Int) = 0 from rfl] at hsv
            rw [hsv] at h1 h2
            exact ⟨h1, h2, h3⟩)
          have HS0 : Hid (y.isRef j = false → ∀ Y, IS W4 Y M B Wb Ob p q P (Six Wb Ob p q Wg Og) WJ [y, twoL] → Calls Tryd.prog 13 #[.pointer (some ⟨M, 0, none⟩), .int .i64 0, .int .i64 j, .int .u64 7] Y fun e w' => e = .returned (.int .i64 0) ∧ IS W4 w' M B Wb Ob p q P (Six Wb Ob p q Wg Og) (WJ.set (0 + 1 + j) (valK y ws ti tg j)) [y, twoL] ∧ Mod (Four3 Wb Ob p q) Y w') := Lib.hid (fun g Y hY => (hY.save 0 j 7 HX0.out.1 HX0.out.2).mono fun e w' ⟨h1, h2, h3⟩ => by
            have hsv := ob_save (p := j) HKJ.out.o1 hY.len (by omega) hlt 7
            rw [if_pos g, show ((0 : Nat) : Int) = 0 from rfl] at hsv
            rw [hsv] at h1 h2
            rw [HVF.out g]
            exact ⟨h1, h2, h3⟩)
          have HT9 : Hid (y.isRef j = false → ∀ Y, IS W4 Y M B Wb Ob p q P (Six Wb Ob p q Wg Og) (WJ.set (0 + 1 + j) (valK y ws ti tg j)) [y, twoL] → Calls Tryd.prog 14 #[.pointer (some ⟨M, 0, none⟩), .int .i64 0, .int .i64 j, .agg #[.int .i64 2, .int .i64 ti, .int .i64 tg]] Y fun e w' => e = .returned (.int .i64 9) ∧ IS W4 w' M B Wb Ob p q P (Six Wb Ob p q Wg Og) (WJ.set (0 + 1 + j) (valK y ws ti tg j)) [y, twoL] ∧ Mod (Four3 Wb Ob p q) Y w') := Lib.hid (fun g Y hY => (hY.tie 0 j 2 ti tg).mono fun e w' ⟨h1, h2, h3⟩ => by
            have hsv := ob_tie (p := j) HSTP.out.o1 hY.len (by omega) hlt (k := 2) (i := ti) (g := tg) HTG.out
            rw [if_neg (by rw [g]; decide), show ((0 : Nat) : Int) = 0 from rfl] at hsv
            rw [hsv] at h1 h2
            exact ⟨h1, h2, h3⟩)
          clear HVF HVT HX0
          generalize valK y ws ti tg j = vj at *
          go_wp2_with fail
          refine (HRF.out j hlt _ HJ.out.below).mono ?_
          rintro e wa ⟨rfl, hba⟩
          have HJa := Lib.hid (HJ.out.on hba)
          have HNa := Lib.hid ((hba.block _ (block_lt HNJ.out)).trans HNJ.out)
          have hna2 := (hba.block _ (block_lt HN2.out)).trans HN2.out
          have HNa2 := Lib.hid hna2
          have s0 := (blk_cells hna2 0).trans rfl
          have s1 := (blk_cells hna2 1).trans rfl
          have s2 := (blk_cells hna2 2).trans rfl
          clear hba hna2 HJ HNJ HN2 k0 k1 k2 k3
          cases hir : y.isRef j with
          | true =>
            have HT0' := Lib.hid (HT0.out hir _ HJa.out)
            have HS9' := Lib.hid (HS9.out hir)
            clear HT0 HS9 HS0 HT9 hir
            go_wp2_with fail
            refine HT0'.out.mono ?_
            rintro e wb ⟨rfl, hb1, hmb⟩
            have HJb := Lib.hid hb1
            have HMb := Lib.hid hmb
            clear hb1 hmb HT0' s0 s1 s2
            go_wp2_with fail
            refine (HS9'.out _ HJb.out).mono ?_
            rintro e wc ⟨rfl, hc1, hmc⟩
            have HJc := Lib.hid hc1
            have HNc := Lib.hid ((HMb.out.trans hmc).keeps HNa.out (fun e => Nat.lt_irrefl _ (HLT.out _ e)))
            have HNc2 := Lib.hid ((HMb.out.trans hmc).keeps HNa2.out (fun e => Nat.lt_irrefl _ (HLT2.out _ e)))
            clear hc1 hmc HJb HMb HS9' HJa HNa HNa2
            go_wp2
            go_roundw
            case rel => exact ⟨j + 1, _, by omega, by go_num, HJc, HSTP, HNc, HNc2⟩
            case measure => simp [intOf]; omega
          | false =>
            have HS0' := Lib.hid (HS0.out hir _ HJa.out)
            have HT9' := Lib.hid (HT9.out hir)
            clear HT0 HS9 HS0 HT9 hir
            go_wp2_with fail
            refine HS0'.out.mono ?_
            rintro e wb ⟨rfl, hb1, hmb⟩
            have HJb := Lib.hid hb1
            have HMb := Lib.hid hmb
            have hnb2 := hmb.keeps HNa2.out (fun e => Nat.lt_irrefl _ (HLT2.out _ e))
            clear s0 s1 s2
            have s0 := (blk_cells hnb2 0).trans rfl
            have s1 := (blk_cells hnb2 1).trans rfl
            have s2 := (blk_cells hnb2 2).trans rfl
            clear hb1 hmb HS0' hnb2
            go_wp2_with fail
            refine (HT9'.out _ HJb.out).mono ?_
            rintro e wc ⟨rfl, hc1, hmc⟩
            have HJc := Lib.hid hc1
            have HNc := Lib.hid ((HMb.out.trans hmc).keeps HNa.out (fun e => Nat.lt_irrefl _ (HLT.out _ e)))
            have HNc2 := Lib.hid ((HMb.out.trans hmc).keeps HNa2.out (fun e => Nat.lt_irrefl _ (HLT2.out _ e)))
            clear hc1 hmc HJb HMb HT9' HJa HNa HNa2 s0 s1 s2
            go_wp2
            go_roundw
            case rel => exact ⟨j + 1, _, by omega, by go_num, HJc, HSTP, HNc, HNc2⟩
            case measure => simp [intOf]; omega
      · have hjn : j = n := by omega
        have HKN : Hid (KpI WJ y c n (valK y ws ti tg) n) := Lib.hid (hjn ▸ HKJ.out)
        clear HKJ hjn
        have HMV := Lib.hid (fun (Y : World) (hY : IS W4 Y M B Wb Ob p q P (Six Wb Ob p q Wg Og) WJ [y, twoL]) => hY.move ((n : Int) + 4) 0 ((n : Int) + 1) 0 (kp_move HKN.out hY.len hn8) (hY.wd.copy (n + 4) 0 (n + 1)) (by rw [copy_len (by have := hY.len; omega) (by have := hY.len; omega), hY.len]))
        have HKM := Lib.hid (HKN.out.moved HJ.out.len hn8)
        clear HKN
        generalize copyW WJ (n + 4) 0 (n + 1) = WM at *
        go_wp2_with fail
        refine (HMV.out _ HJ.out).mono ?_
        rintro e w13 ⟨rfl, h13, hm13⟩
        have hbs := below1 w13 (.cells #[.int .i64 0, .int .i64 ((n : Int) + 4)] 3)
        have HI14 := Lib.hid (h13.on hbs)
        have hn13 := hm13.keeps HNJ.out (fun e => Nat.lt_irrefl _ (HLT.out _ e))
        have hn13' := hm13.keeps HN2.out (fun e => Nat.lt_irrefl _ (HLT2.out _ e))
        have HN14 := Lib.hid ((hbs.block _ (block_lt hn13)).trans hn13)
        have HN14' := Lib.hid ((hbs.block _ (block_lt hn13')).trans hn13')
        have HS14 := Lib.hid (heap_alloc_new w13 (.cells #[.int .i64 0, .int .i64 ((n : Int) + 4)] 3))
        clear h13 hm13 hbs hn13 hn13' HMV HJ HNJ HN2
        go_wp2_with fail
        generalize w13.alloc (.cells #[.int .i64 0, .int .i64 ((n : Int) + 4)] 3) = w14 at *
        generalize w13.heap.size = sb at *
        go_loopw [196] (fun v196 wr => ∃ i : Nat, i ≤ 2 ∧ v196 = .int .i64 i ∧ Hid (IS W4 wr M B Wb Ob p q P (Six Wb Ob p q Wg Og) WM [y, twoL]) ∧ Hid (wr.heap[nb]? = some (.cells #[.int .i64 1, .int .i64 c, .int .i64 5] 43 (0, 0))) ∧ Hid (wr.heap[nb2]? = some (.cells #[.int .i64 2, .int .i64 ti, .int .i64 tg] 49 (0, 0))) ∧ Hid (wr.heap[sb]? = some (.cells #[.int .i64 0, .int .i64 ((n : Int) + 4)] 3 (0, 0)))) (fun v196 _ => 2 - (intOf v196).toNat)
        case atStart => exact ⟨0, by omega, rfl, HI14, HN14, HN14', HS14⟩
        case round =>
        obtain ⟨i, hi, rfl, HQ, HQN, HQ2, HQS⟩ := hrel
        clear HI14 HN14 HN14' HS14
        by_cases hlt1 : i < 2
        · obtain ⟨A, hA, hcell⟩ : ∃ A : Nat, (A = 0 ∨ A = n + 4) ∧ wr.cell? ⟨sb, i, none⟩ = some (.int .i64 A) := by
            have h0 := blk_cells HQS.out i
            rcases (show i = 0 ∨ i = 1 by omega) with rfl | rfl
            · exact ⟨0, .inl rfl, h0⟩
            · exact ⟨n + 4, .inr rfl, h0⟩
          have HA := Lib.hid hA
          have hA12 : A ≤ 12 := by rcases hA with h | h <;> omega
          clear hA
          have ei : decide ((i : Int) < 2) = true := decide_eq_true (by omega)
          have ei' : decide (i < 2) = true := decide_eq_true hlt1
          have wA1 : IntKind.i64.wrap ((A : Int) + 1) = A + 1 := w64_small _ (by omega) (by omega)
          go_wp2_with fail
          clear hcell
          go_loopw [201] (fun v201 wr => ∃ j : Nat, j ≤ n ∧ v201 = .int .i64 j ∧ Hid (IS W4 wr M B Wb Ob p q P (Six Wb Ob p q Wg Og) WM [y, twoL]) ∧ Hid (wr.heap[nb]? = some (.cells #[.int .i64 1, .int .i64 c, .int .i64 5] 43 (0, 0))) ∧ Hid (wr.heap[nb2]? = some (.cells #[.int .i64 2, .int .i64 ti, .int .i64 tg] 49 (0, 0))) ∧ Hid (wr.heap[sb]? = some (.cells #[.int .i64 0, .int .i64 ((n : Int) + 4)] 3 (0, 0)))) (fun v201 _ => n - (intOf v201).toNat)
          case atStart => exact ⟨0, by omega, rfl, HQ, HQN, HQ2, HQS⟩
          case round =>
          clear HQ HQN HQ2 HQS
          obtain ⟨j, hj2, rfl, HQ, HQN, HQ2, HQS⟩ := hrel
          by_cases hlt2 : j < n
          · have w1j : IntKind.i64.wrap (1 + (j : Int)) = 1 + j := w64_small _ (by omega) (by omega)
            have wAj : IntKind.i64.wrap ((A : Int) + 1 + j) = A + 1 + j := w64_small _ (by omega) (by omega)
            have HR1 : Hid (Calls Tryd.prog 17 #[.pointer (some ⟨B, 0, none⟩), .int .i64 (1 + (j : Int))] wr fun e w' => e = .returned (.tuple #[.int .u64 (valK y ws ti tg j), .int .i64 0]) ∧ wr = w') := Lib.hid ((read_t HQ.out.ip.st (1 + (j : Int))).mono fun e w' ⟨h1, h2⟩ => ⟨by
              have ha : adE WM (onesO 5) 8 (1 + (j : Int)) = 0 := by rw [ones_at HQ.out.len, if_neg (by omega), if_pos (by omega)]
              rw [h1, ha]
              unfold rdV
              rw [if_pos ha]
              rw [show (1 + (j : Int)).toNat = 0 + 1 + j by omega, HKM.out.va 0 (.inl rfl) j hlt2], h2⟩)
            have HR2 : Hid (Calls Tryd.prog 17 #[.pointer (some ⟨B, 0, none⟩), .int .i64 ((A : Int) + 1 + j)] wr fun e w' => e = .returned (.tuple #[.int .u64 (valK y ws ti tg j), .int .i64 0]) ∧ wr = w') := Lib.hid ((read_t HQ.out.ip.st ((A : Int) + 1 + j)).mono fun e w' ⟨h1, h2⟩ => ⟨by
              have ha : adE WM (onesO 5) 8 ((A : Int) + 1 + j) = 0 := by rw [ones_at HQ.out.len, if_neg (by omega), if_pos (by omega)]
              rw [h1, ha]
              unfold rdV
              rw [if_pos ha]
              rw [show ((A : Int) + 1 + j).toNat = A + 1 + j by omega, HKM.out.va A HA.out j hlt2], h2⟩)
            by_cases hx : j < ws.length
            · obtain ⟨b, o, hAw, hcx⟩ := HSA.out j hx
              subst hAw
              have ew : decide ((j : Int) < (ws.length : Int)) = true := decide_eq_true (by omega)
              have HXC : Hid (w.cell? ⟨b, o + j, none⟩ = some (.int .u64 (ws.getD j 0))) := Lib.hid (by have := hcx 0 _ rfl; rwa [Nat.add_zero, Nat.mul_one] at this)
              cases hir : y.isRef j with
              | true =>
                have HFO : Hid (∀ Y, IS W4 Y M B Wb Ob p q P (Six Wb Ob p q Wg Og) WM [y, twoL] → Calls Tryd.prog 16 #[.pointer (some ⟨M, 0, none⟩), .int .i64 A, .int .i64 j] Y fun e w' => e = .returned (.tuple #[.agg #[.int .i64 2, .int .i64 ti, .int .i64 tg], .int .i64 0]) ∧ Below Y.heap.size Y w') := Lib.hid (fun Y hY => (follow_any hY.ip hY.wd A j).mono fun e w' ⟨h1, h2⟩ => ⟨by
                  have hf := ob_follow (p := j) (HKM.out.oa A HA.out) hY.len (by omega) hlt2
                  rw [if_pos hir, HKM.out.va A HA.out j hlt2, kp_link hir HTG.out] at hf
                  rw [h1, hf], h2⟩)
                have HLD : Hid (∀ Y, IS W4 Y M B Wb Ob p q P (Six Wb Ob p q Wg Og) WM [y, twoL] → Calls Tryd.prog 15 #[.pointer (some ⟨M, 0, none⟩), .int .i64 A, .int .i64 j] Y fun e w' => e = .returned (.tuple #[.int .u64 0, .int .i64 9]) ∧ Below Y.heap.size Y w') := Lib.hid (fun Y hY => (load_any hY.ip hY.wd A j).mono fun e w' ⟨h1, h2⟩ => ⟨by
                  have hf := ob_load (p := j) (HKM.out.oa A HA.out) hY.len (by omega) hlt2
                  rw [if_neg (by rw [hir]; decide)] at hf
                  rw [h1, hf], h2⟩)
                generalize valK y ws ti tg j = vj at *
                generalize hxv : ws.getD j 0 = xv at *
                clear hxv
                go_wp2_with fail
                refine HR1.out.mono ?_
                rintro e wq ⟨rfl, rfl⟩
                go_wp2_with fail
                refine HR2.out.mono ?_
                rintro e wq ⟨rfl, rfl⟩
                go_wp2_with fail
                refine (HFO.out _ HQ.out).mono ?_
                rintro e wa ⟨rfl, hba⟩
                have hbb := hba.on (below1 wa (.cells #[.int .i64 2, .int .i64 ti, .int .i64 tg] 49))
                have hnb := heap_alloc_new wa (.cells #[.int .i64 2, .int .i64 ti, .int .i64 tg] 49)
                have HQb := Lib.hid (HQ.out.on hbb)
                have HNb := Lib.hid ((hbb.block _ (block_lt HQN.out)).trans HQN.out)
                have HNb2 := Lib.hid ((hbb.block _ (block_lt HQ2.out)).trans HQ2.out)
                have HSb := Lib.hid ((hbb.block _ (block_lt HQS.out)).trans HQS.out)
                have hlb := HCL.out _ HQb.out.below
                have k0 := (blk_cells hlb 0).trans rfl
                have k1 := (blk_cells hlb 1).trans rfl
                have k2 := (blk_cells hlb 2).trans rfl
                have k3 := (blk_cells hlb 3).trans rfl
                clear hba hbb hlb HQ HQN HQ2 HQS HR1 HR2 HFO
                go_wp2_with fail
                generalize wa.alloc (.cells #[.int .i64 2, .int .i64 ti, .int .i64 tg] 49) = wb at *
                generalize wa.heap.size = na at *
                refine (HRF.out j hlt2 _ HQb.out.below).mono ?_
                rintro e wc ⟨rfl, hbc⟩
                have HQc := Lib.hid (HQb.out.on hbc)
                have hn2 := (hbc.block _ (block_lt HNb2.out)).trans HNb2.out
                have hna := (hbc.block _ (block_lt hnb)).trans hnb
                have HNc := Lib.hid ((hbc.block _ (block_lt HNb.out)).trans HNb.out)
                have HNc2 := Lib.hid hn2
                have HSc := Lib.hid ((hbc.block _ (block_lt HSb.out)).trans HSb.out)
                have s0 := (blk_cells hn2 0).trans rfl
                have s1 := (blk_cells hn2 1).trans rfl
                have s2 := (blk_cells hn2 2).trans rfl
                have r0 := (blk_cells hna 0).trans rfl
                have r1 := (blk_cells hna 1).trans rfl
                have r2 := (blk_cells hna 2).trans rfl
                have hds := (HBW.out _ HQc.out.below).cell (p := ⟨b, o + j * 1 + 0, none⟩) (lt_of_cell (hcx 0 _ rfl))
                rw [Nat.add_zero, Nat.mul_one] at hds
                have hds2 := hds.trans HXC.out
                clear hds
                rw [hir]
                clear hbc hnb hn2 hna HQb HNb HNb2 HSb k0 k1 k2 k3
                go_wp2_with fail
                refine (HLD.out _ HQc.out).mono ?_
                rintro e wd ⟨rfl, hbd⟩
                have HQd := Lib.hid (HQc.out.on hbd)
                have HNd := Lib.hid ((hbd.block _ (block_lt HNc.out)).trans HNc.out)
                have HNd2 := Lib.hid ((hbd.block _ (block_lt HNc2.out)).trans HNc2.out)
                have HSd := Lib.hid ((hbd.block _ (block_lt HSc.out)).trans HSc.out)
                have hld := HCL.out _ HQd.out.below
                have k0 := (blk_cells hld 0).trans rfl
                have k1 := (blk_cells hld 1).trans rfl
                have k2 := (blk_cells hld 2).trans rfl
                have k3 := (blk_cells hld 3).trans rfl
                clear hbd hld HQc HNc HNc2 HSc s0 s1 s2 r0 r1 r2 HLD
                go_wp2_with fail
                refine (HRF.out j hlt2 _ HQd.out.below).mono ?_
                rintro e wf ⟨rfl, hbf⟩
                have HQf := Lib.hid (HQd.out.on hbf)
                have HNf := Lib.hid ((hbf.block _ (block_lt HNd.out)).trans HNd.out)
                have HNf2 := Lib.hid ((hbf.block _ (block_lt HNd2.out)).trans HNd2.out)
                have HSf := Lib.hid ((hbf.block _ (block_lt HSd.out)).trans HSd.out)
                rw [hir]
                clear hbf HQd HNd HNd2 HSd k0 k1 k2 k3 hir
                go_wp2
                go_roundw
                case rel => exact ⟨j + 1, by omega, by go_num, HQf, HNf, HNf2, HSf⟩
                case measure => simp [intOf]; omega
              | false =>
                have HFO : Hid (∀ Y, IS W4 Y M B Wb Ob p q P (Six Wb Ob p q Wg Og) WM [y, twoL] → Calls Tryd.prog 16 #[.pointer (some ⟨M, 0, none⟩), .int .i64 A, .int .i64 j] Y fun e w' => e = .returned (.tuple #[.agg #[.int .i64 0, .int .i64 0, .int .i64 0], .int .i64 9]) ∧ Below Y.heap.size Y w') := Lib.hid (fun Y hY => (follow_any hY.ip hY.wd A j).mono fun e w' ⟨h1, h2⟩ => ⟨by
                  have hf := ob_follow (p := j) (HKM.out.oa A HA.out) hY.len (by omega) hlt2
                  rw [if_neg (by rw [hir]; decide)] at hf
                  rw [h1, hf], h2⟩)
                have HLD : Hid (∀ Y, IS W4 Y M B Wb Ob p q P (Six Wb Ob p q Wg Og) WM [y, twoL] → Calls Tryd.prog 15 #[.pointer (some ⟨M, 0, none⟩), .int .i64 A, .int .i64 j] Y fun e w' => e = .returned (.tuple #[.int .u64 (ws.getD j 0), .int .i64 0]) ∧ Below Y.heap.size Y w') := Lib.hid (fun Y hY => (load_any hY.ip hY.wd A j).mono fun e w' ⟨h1, h2⟩ => ⟨by
                  have hf := ob_load (p := j) (HKM.out.oa A HA.out) hY.len (by omega) hlt2
                  rw [if_pos hir, HKM.out.va A HA.out j hlt2] at hf
                  have hv : valK y ws ti tg j = (ws.getD j 0) := by unfold valK; rw [if_neg (by rw [hir]; decide)]; exact if_pos hx
                  rw [hv] at hf
                  rw [h1, hf], h2⟩)
                generalize valK y ws ti tg j = vj at *
                generalize hxv : ws.getD j 0 = xv at *
                clear hxv
                go_wp2_with fail
                refine HR1.out.mono ?_
                rintro e wq ⟨rfl, rfl⟩
                go_wp2_with fail
                refine HR2.out.mono ?_
                rintro e wq ⟨rfl, rfl⟩
                go_wp2_with fail
                refine (HFO.out _ HQ.out).mono ?_
                rintro e wa ⟨rfl, hba⟩
                have hbb := hba.on (below1 wa (.cells #[.int .i64 0, .int .i64 0, .int .i64 0] 49))
                have hnb := heap_alloc_new wa (.cells #[.int .i64 0, .int .i64 0, .int .i64 0] 49)
                have HQb := Lib.hid (HQ.out.on hbb)
                have HNb := Lib.hid ((hbb.block _ (block_lt HQN.out)).trans HQN.out)
                have HNb2 := Lib.hid ((hbb.block _ (block_lt HQ2.out)).trans HQ2.out)
                have HSb := Lib.hid ((hbb.block _ (block_lt HQS.out)).trans HQS.out)
                have hlb := HCL.out _ HQb.out.below
                have k0 := (blk_cells hlb 0).trans rfl
                have k1 := (blk_cells hlb 1).trans rfl
                have k2 := (blk_cells hlb 2).trans rfl
                have k3 := (blk_cells hlb 3).trans rfl
                clear hba hbb hlb HQ HQN HQ2 HQS HR1 HR2 HFO
                go_wp2_with fail
                generalize wa.alloc (.cells #[.int .i64 0, .int .i64 0, .int .i64 0] 49) = wb at *
                generalize wa.heap.size = na at *
                refine (HRF.out j hlt2 _ HQb.out.below).mono ?_
                rintro e wc ⟨rfl, hbc⟩
                have HQc := Lib.hid (HQb.out.on hbc)
                have hn2 := (hbc.block _ (block_lt HNb2.out)).trans HNb2.out
                have hna := (hbc.block _ (block_lt hnb)).trans hnb
                have HNc := Lib.hid ((hbc.block _ (block_lt HNb.out)).trans HNb.out)
                have HNc2 := Lib.hid hn2
                have HSc := Lib.hid ((hbc.block _ (block_lt HSb.out)).trans HSb.out)
                have s0 := (blk_cells hn2 0).trans rfl
                have s1 := (blk_cells hn2 1).trans rfl
                have s2 := (blk_cells hn2 2).trans rfl
                have r0 := (blk_cells hna 0).trans rfl
                have r1 := (blk_cells hna 1).trans rfl
                have r2 := (blk_cells hna 2).trans rfl
                have hds := (HBW.out _ HQc.out.below).cell (p := ⟨b, o + j * 1 + 0, none⟩) (lt_of_cell (hcx 0 _ rfl))
                rw [Nat.add_zero, Nat.mul_one] at hds
                have hds2 := hds.trans HXC.out
                clear hds
                rw [hir]
                clear hbc hnb hn2 hna HQb HNb HNb2 HSb k0 k1 k2 k3
                go_wp2_with fail
                refine (HLD.out _ HQc.out).mono ?_
                rintro e wd ⟨rfl, hbd⟩
                have HQd := Lib.hid (HQc.out.on hbd)
                have HNd := Lib.hid ((hbd.block _ (block_lt HNc.out)).trans HNc.out)
                have HNd2 := Lib.hid ((hbd.block _ (block_lt HNc2.out)).trans HNc2.out)
                have HSd := Lib.hid ((hbd.block _ (block_lt HSc.out)).trans HSc.out)
                have hld := HCL.out _ HQd.out.below
                have k0 := (blk_cells hld 0).trans rfl
                have k1 := (blk_cells hld 1).trans rfl
                have k2 := (blk_cells hld 2).trans rfl
                have k3 := (blk_cells hld 3).trans rfl
                clear hbd hld HQc HNc HNc2 HSc s0 s1 s2 r0 r1 r2 HLD
                go_wp2_with fail
                refine (HRF.out j hlt2 _ HQd.out.below).mono ?_
                rintro e wf ⟨rfl, hbf⟩
                have HQf := Lib.hid (HQd.out.on hbf)
                have HNf := Lib.hid ((hbf.block _ (block_lt HNd.out)).trans HNd.out)
                have HNf2 := Lib.hid ((hbf.block _ (block_lt HNd2.out)).trans HNd2.out)
                have HSf := Lib.hid ((hbf.block _ (block_lt HSd.out)).trans HSd.out)
                rw [hir]
                clear hbf HQd HNd HNd2 HSd k0 k1 k2 k3 hir
                go_wp2
                go_roundw
                case rel => exact ⟨j + 1, by omega, by go_num, HQf, HNf, HNf2, HSf⟩
                case measure => simp [intOf]; omega
            · have ew : decide ((j : Int) < (ws.length : Int)) = false := decide_eq_false (by omega)
              cases hir : y.isRef j with
              | true =>
                have HFO : Hid (∀ Y, IS W4 Y M B Wb Ob p q P (Six Wb Ob p q Wg Og) WM [y, twoL] → Calls Tryd.prog 16 #[.pointer (some ⟨M, 0, none⟩), .int .i64 A, .int .i64 j] Y fun e w' => e = .returned (.tuple #[.agg #[.int .i64 2, .int .i64 ti, .int .i64 tg], .int .i64 0]) ∧ Below Y.heap.size Y w') := Lib.hid (fun Y hY => (follow_any hY.ip hY.wd A j).mono fun e w' ⟨h1, h2⟩ => ⟨by
                  have hf := ob_follow (p := j) (HKM.out.oa A HA.out) hY.len (by omega) hlt2
                  rw [if_pos hir, HKM.out.va A HA.out j hlt2, kp_link hir HTG.out] at hf
                  rw [h1, hf], h2⟩)
                have HLD : Hid (∀ Y, IS W4 Y M B Wb Ob p q P (Six Wb Ob p q Wg Og) WM [y, twoL] → Calls Tryd.prog 15 #[.pointer (some ⟨M, 0, none⟩), .int .i64 A, .int .i64 j] Y fun e w' => e = .returned (.tuple #[.int .u64 0, .int .i64 9]) ∧ Below Y.heap.size Y w') := Lib.hid (fun Y hY => (load_any hY.ip hY.wd A j).mono fun e w' ⟨h1, h2⟩ => ⟨by
                  have hf := ob_load (p := j) (HKM.out.oa A HA.out) hY.len (by omega) hlt2
                  rw [if_neg (by rw [hir]; decide)] at hf
                  rw [h1, hf], h2⟩)
                generalize valK y ws ti tg j = vj at *
                go_wp2_with fail
                refine HR1.out.mono ?_
                rintro e wq ⟨rfl, rfl⟩
                go_wp2_with fail
                refine HR2.out.mono ?_
                rintro e wq ⟨rfl, rfl⟩
                go_wp2_with fail
                refine (HFO.out _ HQ.out).mono ?_
                rintro e wa ⟨rfl, hba⟩
                have hbb := hba.on (below1 wa (.cells #[.int .i64 2, .int .i64 ti, .int .i64 tg] 49))
                have hnb := heap_alloc_new wa (.cells #[.int .i64 2, .int .i64 ti, .int .i64 tg] 49)
                have HQb := Lib.hid (HQ.out.on hbb)
                have HNb := Lib.hid ((hbb.block _ (block_lt HQN.out)).trans HQN.out)
                have HNb2 := Lib.hid ((hbb.block _ (block_lt HQ2.out)).trans HQ2.out)
                have HSb := Lib.hid ((hbb.block _ (block_lt HQS.out)).trans HQS.out)
                have hlb := HCL.out _ HQb.out.below
                have k0 := (blk_cells hlb 0).trans rfl
                have k1 := (blk_cells hlb 1).trans rfl
                have k2 := (blk_cells hlb 2).trans rfl
                have k3 := (blk_cells hlb 3).trans rfl
                clear hba hbb hlb HQ HQN HQ2 HQS HR1 HR2 HFO
                go_wp2_with fail
                generalize wa.alloc (.cells #[.int .i64 2, .int .i64 ti, .int .i64 tg] 49) = wb at *
                generalize wa.heap.size = na at *
                refine (HRF.out j hlt2 _ HQb.out.below).mono ?_
                rintro e wc ⟨rfl, hbc⟩
                have HQc := Lib.hid (HQb.out.on hbc)
                have hn2 := (hbc.block _ (block_lt HNb2.out)).trans HNb2.out
                have hna := (hbc.block _ (block_lt hnb)).trans hnb
                have HNc := Lib.hid ((hbc.block _ (block_lt HNb.out)).trans HNb.out)
                have HNc2 := Lib.hid hn2
                have HSc := Lib.hid ((hbc.block _ (block_lt HSb.out)).trans HSb.out)
                have s0 := (blk_cells hn2 0).trans rfl
                have s1 := (blk_cells hn2 1).trans rfl
                have s2 := (blk_cells hn2 2).trans rfl
                have r0 := (blk_cells hna 0).trans rfl
                have r1 := (blk_cells hna 1).trans rfl
                have r2 := (blk_cells hna 2).trans rfl
                skip
                rw [hir]
                clear hbc hnb hn2 hna HQb HNb HNb2 HSb k0 k1 k2 k3
                go_wp2_with fail
                refine (HLD.out _ HQc.out).mono ?_
                rintro e wd ⟨rfl, hbd⟩
                have HQd := Lib.hid (HQc.out.on hbd)
                have HNd := Lib.hid ((hbd.block _ (block_lt HNc.out)).trans HNc.out)
                have HNd2 := Lib.hid ((hbd.block _ (block_lt HNc2.out)).trans HNc2.out)
                have HSd := Lib.hid ((hbd.block _ (block_lt HSc.out)).trans HSc.out)
                have hld := HCL.out _ HQd.out.below
                have k0 := (blk_cells hld 0).trans rfl
                have k1 := (blk_cells hld 1).trans rfl
                have k2 := (blk_cells hld 2).trans rfl
                have k3 := (blk_cells hld 3).trans rfl
                clear hbd hld HQc HNc HNc2 HSc s0 s1 s2 r0 r1 r2 HLD
                go_wp2_with fail
                refine (HRF.out j hlt2 _ HQd.out.below).mono ?_
                rintro e wf ⟨rfl, hbf⟩
                have HQf := Lib.hid (HQd.out.on hbf)
                have HNf := Lib.hid ((hbf.block _ (block_lt HNd.out)).trans HNd.out)
                have HNf2 := Lib.hid ((hbf.block _ (block_lt HNd2.out)).trans HNd2.out)
                have HSf := Lib.hid ((hbf.block _ (block_lt HSd.out)).trans HSd.out)
                rw [hir]
                clear hbf HQd HNd HNd2 HSd k0 k1 k2 k3 hir
                go_wp2
                go_roundw
                case rel => exact ⟨j + 1, by omega, by go_num, HQf, HNf, HNf2, HSf⟩
                case measure => simp [intOf]; omega
              | false =>
                have HFO : Hid (∀ Y, IS W4 Y M B Wb Ob p q P (Six Wb Ob p q Wg Og) WM [y, twoL] → Calls Tryd.prog 16 #[.pointer (some ⟨M, 0, none⟩), .int .i64 A, .int .i64 j] Y fun e w' => e = .returned (.tuple #[.agg #[.int .i64 0, .int .i64 0, .int .i64 0], .int .i64 9]) ∧ Below Y.heap.size Y w') := Lib.hid (fun Y hY => (follow_any hY.ip hY.wd A j).mono fun e w' ⟨h1, h2⟩ => ⟨by
                  have hf := ob_follow (p := j) (HKM.out.oa A HA.out) hY.len (by omega) hlt2
                  rw [if_neg (by rw [hir]; decide)] at hf
                  rw [h1, hf], h2⟩)
                have HLD : Hid (∀ Y, IS W4 Y M B Wb Ob p q P (Six Wb Ob p q Wg Og) WM [y, twoL] → Calls Tryd.prog 15 #[.pointer (some ⟨M, 0, none⟩), .int .i64 A, .int .i64 j] Y fun e w' => e = .returned (.tuple #[.int .u64 7, .int .i64 0]) ∧ Below Y.heap.size Y w') := Lib.hid (fun Y hY => (load_any hY.ip hY.wd A j).mono fun e w' ⟨h1, h2⟩ => ⟨by
                  have hf := ob_load (p := j) (HKM.out.oa A HA.out) hY.len (by omega) hlt2
                  rw [if_pos hir, HKM.out.va A HA.out j hlt2] at hf
                  have hv : valK y ws ti tg j = 7 := by unfold valK; rw [if_neg (by rw [hir]; decide)]; exact if_neg hx
                  rw [hv] at hf
                  rw [h1, hf], h2⟩)
                generalize valK y ws ti tg j = vj at *
                go_wp2_with fail
                refine HR1.out.mono ?_
                rintro e wq ⟨rfl, rfl⟩
                go_wp2_with fail
                refine HR2.out.mono ?_
                rintro e wq ⟨rfl, rfl⟩
                go_wp2_with fail
                refine (HFO.out _ HQ.out).mono ?_
                rintro e wa ⟨rfl, hba⟩
                have hbb := hba.on (below1 wa (.cells #[.int .i64 0, .int .i64 0, .int .i64 0] 49))
                have hnb := heap_alloc_new wa (.cells #[.int .i64 0, .int .i64 0, .int .i64 0] 49)
                have HQb := Lib.hid (HQ.out.on hbb)
                have HNb := Lib.hid ((hbb.block _ (block_lt HQN.out)).trans HQN.out)
                have HNb2 := Lib.hid ((hbb.block _ (block_lt HQ2.out)).trans HQ2.out)
                have HSb := Lib.hid ((hbb.block _ (block_lt HQS.out)).trans HQS.out)
                have hlb := HCL.out _ HQb.out.below
                have k0 := (blk_cells hlb 0).trans rfl
                have k1 := (blk_cells hlb 1).trans rfl
                have k2 := (blk_cells hlb 2).trans rfl
                have k3 := (blk_cells hlb 3).trans rfl
                clear hba hbb hlb HQ HQN HQ2 HQS HR1 HR2 HFO
                go_wp2_with fail
                generalize wa.alloc (.cells #[.int .i64 0, .int .i64 0, .int .i64 0] 49) = wb at *
                generalize wa.heap.size = na at *
                refine (HRF.out j hlt2 _ HQb.out.below).mono ?_
                rintro e wc ⟨rfl, hbc⟩
                have HQc := Lib.hid (HQb.out.on hbc)
                have hn2 := (hbc.block _ (block_lt HNb2.out)).trans HNb2.out
                have hna := (hbc.block _ (block_lt hnb)).trans hnb
                have HNc := Lib.hid ((hbc.block _ (block_lt HNb.out)).trans HNb.out)
                have HNc2 := Lib.hid hn2
                have HSc := Lib.hid ((hbc.block _ (block_lt HSb.out)).trans HSb.out)
                have s0 := (blk_cells hn2 0).trans rfl
                have s1 := (blk_cells hn2 1).trans rfl
                have s2 := (blk_cells hn2 2).trans rfl
                have r0 := (blk_cells hna 0).trans rfl
                have r1 := (blk_cells hna 1).trans rfl
                have r2 := (blk_cells hna 2).trans rfl
                skip
                rw [hir]
                clear hbc hnb hn2 hna HQb HNb HNb2 HSb k0 k1 k2 k3
                go_wp2_with fail
                refine (HLD.out _ HQc.out).mono ?_
                rintro e wd ⟨rfl, hbd⟩
                have HQd := Lib.hid (HQc.out.on hbd)
                have HNd := Lib.hid ((hbd.block _ (block_lt HNc.out)).trans HNc.out)
                have HNd2 := Lib.hid ((hbd.block _ (block_lt HNc2.out)).trans HNc2.out)
                have HSd := Lib.hid ((hbd.block _ (block_lt HSc.out)).trans HSc.out)
                have hld := HCL.out _ HQd.out.below
                have k0 := (blk_cells hld 0).trans rfl
                have k1 := (blk_cells hld 1).trans rfl
                have k2 := (blk_cells hld 2).trans rfl
                have k3 := (blk_cells hld 3).trans rfl
                clear hbd hld HQc HNc HNc2 HSc s0 s1 s2 r0 r1 r2 HLD
                go_wp2_with fail
                refine (HRF.out j hlt2 _ HQd.out.below).mono ?_
                rintro e wf ⟨rfl, hbf⟩
                have HQf := Lib.hid (HQd.out.on hbf)
                have HNf := Lib.hid ((hbf.block _ (block_lt HNd.out)).trans HNd.out)
                have HNf2 := Lib.hid ((hbf.block _ (block_lt HNd2.out)).trans HNd2.out)
                have HSf := Lib.hid ((hbf.block _ (block_lt HSd.out)).trans HSd.out)
                rw [hir]
                clear hbf HQd HNd HNd2 HSd k0 k1 k2 k3 hir
                go_wp2
                go_roundw
                case rel => exact ⟨j + 1, by omega, by go_num, HQf, HNf, HNf2, HSf⟩
                case measure => simp [intOf]; omega
          · have HAT := Lib.hid (iat_any HQ.out.ip HQ.out.wd A)
            rw [(HKM.out.oa A HA.out).atR, (HKM.out.oa A HA.out).find] at HAT
            go_wp2_with fail
            refine HAT.out.mono ?_
            rintro e wa ⟨rfl, hba⟩
            have hbb := hba.on (below1 wa (.cells #[.int .i64 1, .int .i64 c, .int .i64 5] 43))
            have HQb := Lib.hid (HQ.out.on hbb)
            have hnb := (hbb.block _ (block_lt HQN.out)).trans HQN.out
            have HNb := Lib.hid hnb
            have HNb2 := Lib.hid ((hbb.block _ (block_lt HQ2.out)).trans HQ2.out)
            have HSb := Lib.hid ((hbb.block _ (block_lt HQS.out)).trans HQS.out)
            have q0 := (blk_cells hnb 0).trans rfl
            have q1 := (blk_cells hnb 1).trans rfl
            have q2 := (blk_cells hnb 2).trans rfl
            have hne : ¬ wa.heap.size = nb := fun e => by have := block_lt ((hba.block _ (block_lt HQN.out)).trans HQN.out); omega
            have hne2 : ¬ nb = wa.heap.size := fun e => hne e.symm
            clear hba hbb hnb HQ HQN HQ2 HQS HAT
            go_wp2
            go_roundw
            case rel => exact ⟨i + 1, by omega, by go_num, HQb, HNb, HNb2, HSb⟩
            case measure => simp [intOf]; omega
        · have HLD : Hid (Calls Tryd.prog 15 #[.pointer (some ⟨M, 0, none⟩), .int .i64 ((n : Int) + 1), .int .i64 1] wr fun e w' => e = .returned (.tuple #[.int .u64 99, .int .i64 0]) ∧ Below wr.heap.size wr w') := Lib.hid ((load_any HQ.out.ip HQ.out.wd ((n : Int) + 1) 1).mono fun e w' ⟨h1, h2⟩ => ⟨by
            have hf := ob_load (a := n + 1) (n := 2) (p := 1) HKM.out.o2 HQ.out.len (by omega) (by decide)
            rw [if_pos (by decide +kernel), show ((n + 1 : Nat) : Int) = (n : Int) + 1 by omega, show ((1 : Nat) : Int) = 1 from rfl, show n + 1 + 1 + 1 = n + 3 by omega, HKM.out.w99] at hf
            rw [h1, hf], h2⟩)
          go_wp2_with fail
          refine HLD.out.mono ?_
          rintro e wz ⟨rfl, hbz⟩
          have HFIN := Lib.hid (HBW.out _ (HQ.out.below.on hbz))
          clear hbz
          go_wp2
          go_ret
          exact ⟨rfl, HFIN.out⟩
    · by_cases g5 : code = 0
      · have d2 : decide ((8 : Int) < n') = true := decide_eq_true (by
          rcases Int.lt_or_le 8 n' with g | g
          · exact g
          · exact absurd ⟨g5, g⟩ gc)
        subst g5
        clear gc
        go_wp2
        go_ret
        exact ⟨rfl, HB7.out⟩
      · have e5 : (code == 0) = false := by simpa using g5
        clear gc
        go_wp2
        go_ret
        exact ⟨rfl, HB7.out⟩
end Go.Proofs.YtaifaefhghjiaaaDoor
end
