/- The document's space in plain words; New, Room, Chunks, Big: walks. The document's give and take: walks. The document's Drop: a walk. The document's Hand: a walk. -/
import Derived.Test.YtkaflgbipjppmaaDoorTw3
import Derived.Test.YtkaflgbipjppmaaDoorRw3
import Derived.Test.YtkaflgbipjppmaaDoorSm
import Derived.Test.YtkaflgbipjppmaaDoorBd
import Derived.Deep.RegionLaw
import Derived.Deep.AppendLies
namespace Go.Proofs.YtkaflgbipjppmaaDoor
section
open Go.RowKit
set_option linter.unusedVariables false
set_option linter.unusedSimpArgs false
variable {w w' : World} {G Wg Og size D bd f : Nat} {W W' own own' : List Int} {u : Value} {parts : List (Nat × Nat)} {ow pr : Int}
def dpEnc (x : Nat × Nat) : List Value := [.int .i64 x.1, .int .i64 x.2, .bool (decide (1 < x.2))]
structure DocAt (w : World) (D G bd : Nat) (ow : Int) (u : Value) (parts : List (Nat × Nat)) (pr : Int) (f : Nat) : Prop where
  head : w.heap[D]? = some (.cells #[.pointer (some ⟨G, 0, none⟩), .int .i64 ow, u, .int .i64 pr, .int .i64 f] 115 (0, 0))
  row : w.ownsRow bd 120 3 u parts.length (parts.flatMap dpEnc)
  pin : ∀ x ∈ parts, x.1 + x.2 ≤ 1024
  p1 : -1 ≤ pr
  p2 : pr ≤ 1024
  f1 : f ≤ 1024
theorem DocAt.mod {P : Nat → Prop} (h : DocAt w D G bd ow u parts pr f) (hm : Mod P w w') (h1 : ¬ P D) (h2 : ∀ k, u.ownBlock = some k → ¬ P k) : DocAt w' D G bd ow u parts pr f :=
  { h with head := hm.keeps h.head h1, row := own_mod h.row hm h2 }
theorem DocAt.on (h : DocAt w D G bd ow u parts pr f) (hb : Below w.heap.size w w') : DocAt w' D G bd ow u parts pr f := h.mod (P := fun _ => False) (.of_below hb) (fun x => x) (fun _ _ x => x)
theorem DocAt.c0 (h : DocAt w D G bd ow u parts pr f) : w.cell? ⟨D, 0, none⟩ = some (.pointer (some ⟨G, 0, none⟩)) := (blk_cells h.head 0).trans rfl
theorem DocAt.c1 (h : DocAt w D G bd ow u parts pr f) : w.cell? ⟨D, 1, none⟩ = some (.int .i64 ow) := (blk_cells h.head 1).trans rfl
theorem DocAt.c2 (h : DocAt w D G bd ow u parts pr f) : w.cell? ⟨D, 2, none⟩ = some u := (blk_cells h.head 2).trans rfl
theorem DocAt.c3 (h : DocAt w D G bd ow u parts pr f) : w.cell? ⟨D, 3, none⟩ = some (.int .i64 pr) := (blk_cells h.head 3).trans rfl
theorem DocAt.c4 (h : DocAt w D G bd ow u parts pr f) : w.cell? ⟨D, 4, none⟩ = some (.int .i64 f) := (blk_cells h.head 4).trans rfl
theorem DocAt.np (h : DocAt w D G bd ow u parts pr f) : u.ownBlock ≠ some D := own_type h.row h.head (by decide)
theorem dpart_some {A : Option Addr} (h : SliceOf w A 3 dpEnc (0, 0) parts) (k : Nat) (hk : k < parts.length) : ∃ b o, A = some ⟨b, o, none⟩ := by
  obtain ⟨b, o, e, h1⟩ := h k hk
  exact ⟨b, o, e⟩
theorem dpart_cells {b o : Nat} (h : SliceOf w (some ⟨b, o, none⟩) 3 dpEnc (0, 0) parts) (k : Nat) (hk : k < parts.length) {m n : Nat} (he : parts.getD k (0, 0) = (m, n)) :
    w.cell? ⟨b, o + k * 3, none⟩ = some (.int .i64 m) ∧ w.cell? ⟨b, o + k * 3 + 1, none⟩ = some (.int .i64 n) ∧ w.cell? ⟨b, o + k * 3 + 2, none⟩ = some (.bool (decide (1 < n))) := by
  obtain ⟨b2, o2, e, h1⟩ := h k hk
  injection e with e
  injection e with e1 e2
  subst e1
  subst e2
  have := h1 0 _ rfl
  have := h1 1 _ rfl
  have := h1 2 _ rfl
  rw [he] at *
  exact ⟨h1 0 _ rfl, h1 1 _ rfl, h1 2 _ rfl⟩
theorem getD_mem (k : Nat) (hk : k < parts.length) : parts.getD k (0, 0) ∈ parts := by
  have : parts.getD k (0, 0) = parts[k] := by simp [List.getD, hk]
  rw [this]; exact List.getElem_mem hk
theorem take_snoc (k : Nat) (hk : k < parts.length) : parts.take (k + 1) = parts.take k ++ [parts.getD k (0, 0)] := by
  rw [List.take_add_one]; simp [List.getD, hk]
theorem dnew_any (o : Int) (w : World) : Calls Tryd.prog 47 #[.pointer (some ⟨G, 0, none⟩), .int .i64 o] w fun e w' => e = .returned (.pointer (some ⟨w.heap.size, 0, none⟩)) ∧ (∀ bd, DocAt w' w.heap.size G bd o (.slice none 0 0) [] (-1) 0) ∧ Below w.heap.size w w' := by
  go_enter Tryd.func47, Tryd.ntmps47
  go_wp2
  go_ret
  exact ⟨rfl, fun bd => ⟨heap_alloc_new w _, World.ownsRow_nil _ _ _ _, (fun x hx => by cases hx), by decide, by decide, by decide⟩, below1 w _⟩
theorem droom_no (h : DocAt w D G bd ow u parts (-1) f) : Calls Tryd.prog 51 #[.pointer (some ⟨D, 0, none⟩)] w fun e w' => e = .returned (.int .i64 0) ∧ Below w.heap.size w w' := by
  have k3 := h.c3
  clear h
  go_enter Tryd.func51, Tryd.ntmps51
  go_wp2
  go_ret
  exact ⟨rfl, Below.refl _ _⟩
theorem droom_in (h : DocAt w D G bd ow u parts pr f) (hr : RefSt w G Wg Og W size own) (hp : 0 ≤ pr) (hf : f ≤ size) : Calls Tryd.prog 51 #[.pointer (some ⟨D, 0, none⟩)] w fun e w' => e = .returned (.int .i64 (size - f : Nat)) ∧ Below w.heap.size w w' := by
  have k3 := h.c3
  have k0 := h.c0
  have k4 := h.c4
  have g1 := hr.c1
  have hs2 := hr.s2
  have c1 : ¬ pr < 0 := by omega
  have HR : Hid (((size - f : Nat) : Int) = (size : Int) - (f : Int)) := Lib.hid (by omega)
  clear h hr hp
  go_enter Tryd.func51, Tryd.ntmps51
  go_wp2_with fail
  go_quiet (fail)
  go_wp2
  go_ret
  rw [HR.out]
  exact ⟨rfl, below_drewN (Below.refl _ _) _⟩
set_option maxRecDepth 100000 in
set_option maxHeartbeats 1000000 in
theorem dbig_any (h : DocAt w D G bd ow u parts pr f) (hpl : parts.length ≤ 1000000) (ch : Int) : Calls Tryd.prog 52 #[.pointer (some ⟨D, 0, none⟩), .int .i64 ch] w fun e w' => e = .returned (.bool (bigL parts ch)) ∧ Below w.heap.size w w' := by
  obtain ⟨A2, c2, rfl, hc2, hS2⟩ := own_slice dpEnc (0, 0) (fun _ => rfl) h.row
  have HS2 := Lib.hid hS2
  have HPIN := Lib.hid h.pin
  have H := Lib.hid h
  clear h hS2
  go_enter Tryd.func52, Tryd.ntmps52
  go_wp2
  go_loopw [5] (fun v5 wr => ∃ i : Nat, i ≤ parts.length ∧ v5 = .int .i64 i ∧ Hid (bigL (parts.take i) ch = false) ∧ Hid (Below w.heap.size w wr)) (fun v5 _ => parts.length - (intOf v5).toNat)
  case atStart => exact ⟨0, by omega, rfl, Lib.hid rfl, Lib.hid (Below.refl _ _)⟩
  case round =>
    obtain ⟨i, hi, rfl, HBI, HB⟩ := hrel
    have d2 := (H.out.on HB.out).c2
    by_cases hlt : i < parts.length
    · obtain ⟨b2, o2, rfl⟩ := dpart_some HS2.out i hlt
      obtain ⟨x, m, hxm⟩ : ∃ x m, parts.getD i (0, 0) = (x, m) := ⟨_, _, rfl⟩
      obtain ⟨e0, e1, e2⟩ := dpart_cells (HS2.out.on HB.out) i hlt hxm
      have hpin := HPIN.out _ (getD_mem i hlt)
      have htk := take_snoc i hlt
      have hmem := getD_mem i hlt
      rw [hxm] at hpin htk hmem
      replace hpin : x + m ≤ 1024 := hpin
      have HTK := Lib.hid htk
      have HME := Lib.hid hmem
      have tk := heap_alloc_new wr (.cells #[.int .i64 (x : Nat), .int .i64 (m : Nat), .bool (decide (1 < m))] 120)
      have k0 := (blk_cells tk 0).trans rfl
      have k1 := (blk_cells tk 1).trans rfl
      have k2 := (blk_cells tk 2).trans rfl
      have HBb := Lib.hid (HB.out.on (below1 wr (.cells #[.int .i64 (x : Nat), .int .i64 (m : Nat), .bool (decide (1 < m))] 120)))
      clear htk hmem tk hxm
      by_cases c1 : 1 < m
      · rw [decide_eq_true c1] at *
        by_cases c2 : (x : Int) ≤ ch
        · by_cases c3 : ch < (x : Int) + (m : Int)
          · have HR : Hid (bigL parts ch = true) := Lib.hid (List.any_eq_true.2 ⟨_, HME.out, by simp [c1, c2, c3]⟩)
            go_wp2
            go_ret
            rw [HR.out]
            exact ⟨rfl, HBb.out⟩
          · have HR : Hid (bigL (parts.take (i + 1)) ch = false) := Lib.hid (by
              rw [HTK.out]; unfold bigL; rw [List.any_append, show List.any (parts.take i) _ = false from HBI.out]; simp [c3])
            go_wp2
            go_roundw
            case rel => exact ⟨i + 1, by omega, by go_num, HR, HBb⟩
            case measure => simp [intOf]; omega
        · have HR : Hid (bigL (parts.take (i + 1)) ch = false) := Lib.hid (by
            rw [HTK.out]; unfold bigL; rw [List.any_append, show List.any (parts.take i) _ = false from HBI.out]; simp [c2])
          go_wp2
          go_roundw
          case rel => exact ⟨i + 1, by omega, by go_num, HR, HBb⟩
          case measure => simp [intOf]; omega
      · have HR : Hid (bigL (parts.take (i + 1)) ch = false) := Lib.hid (by
          rw [HTK.out]; unfold bigL; rw [List.any_append, show List.any (parts.take i) _ = false from HBI.out]; simp [c1])
        rw [decide_eq_false c1] at *
        go_wp2
        go_roundw
        case rel => exact ⟨i + 1, by omega, by go_num, HR, HBb⟩
        case measure => simp [intOf]; omega
    · obtain rfl : i = parts.length := by omega
      rw [List.take_length] at HBI
      go_wp2
      go_ret
      rw [HBI.out]
      exact ⟨rfl, HB.out⟩
set_option maxRecDepth 100000 in
set_option maxHeartbeats 4000000 in
theorem dchunks_any (h : DocAt w D G bd ow u parts pr f) (hpl : parts.length ≤ 1000000) : Calls Tryd.prog 50 #[.pointer (some ⟨D, 0, none⟩)] w (ChunksPost parts w) := by
  obtain ⟨i0, hi, hz0, hz1, hz2⟩ := info_parts infoI
  have HI := Lib.hid hi
  have HZ0 := Lib.hid hz0
  have HZ1 := Lib.hid hz1
  have HZ2 := Lib.hid hz2
  clear hi hz0 hz1 hz2
  have hlen := chunksL_le parts h.pin
  obtain ⟨A2, c2, rfl, hc2, hS2⟩ := own_slice dpEnc (0, 0) (fun _ => rfl) h.row
  have HS2 := Lib.hid hS2
  have HPIN := Lib.hid h.pin
  have H := Lib.hid h
  have hlow := h.row.lt
  clear h hS2 hlow
  go_enter Tryd.func50, Tryd.ntmps50
  go_wp2
  go_loopw [3, 4] (fun v3 v4 wr => ∃ i : Nat, i ≤ parts.length ∧ v4 = .int .i64 i ∧ Hid (wr.ownsRow w.heap.size 3 1 v3 (chunksL (parts.take i)).length ((chunksL (parts.take i)).flatMap encN)) ∧ Hid (Below w.heap.size w wr)) (fun _ v4 _ => parts.length - (intOf v4).toNat)
  case atStart => exact ⟨0, by omega, rfl, Lib.hid (World.ownsRow_nil _ _ _ _), Lib.hid (Below.refl _ _)⟩
  case round =>
    obtain ⟨i, hi, rfl, HR, HB⟩ := hrel
    have d2 := (H.out.on HB.out).c2
    by_cases hlt : i < parts.length
    · obtain ⟨b2, o2, rfl⟩ := dpart_some HS2.out i hlt
      obtain ⟨x, m, hxm⟩ : ∃ x m, parts.getD i (0, 0) = (x, m) := ⟨_, _, rfl⟩
      have hpin := HPIN.out _ (getD_mem i hlt)
      have htk := take_snoc i hlt
      rw [hxm] at hpin htk
      replace hpin : x + m ≤ 1024 := hpin
      have htl := chunksL_le (parts.take i) (fun x hx => HPIN.out x (List.mem_of_mem_take hx))
      have htl2 : (parts.take i).length ≤ 1000000 := by rw [List.length_take]; omega
      have HTK := Lib.hid htk
      have HXM := Lib.hid hxm
      generalize hL : chunksL (parts.take i) = L at *
      have HL := Lib.hid hL
      have hL2 : L.length ≤ 1024000000 := by omega
      clear hL htk htl htl2 hxm
      go_wp2
      go_loopw [3, 5] (fun v3 v5 wx => ∃ j : Nat, j ≤ m ∧ v5 = .int .i64 j ∧ Hid (wx.ownsRow w.heap.size 3 1 v3 (L ++ (List.range j).map (x + ·)).length ((L ++ (List.range j).map (x + ·)).flatMap encN)) ∧ Hid (Below w.heap.size w wx)) (fun _ v5 _ => m - (intOf v5).toNat)
      case atStart => exact ⟨0, by omega, rfl, by simpa using HR, HB⟩
      case round =>
        obtain ⟨j, hj, rfl, HRj, HBj⟩ := hrel
        clear d2
        have d2 := (H.out.on HBj.out).c2
        obtain ⟨e0, e1, e2⟩ := dpart_cells (HS2.out.on HBj.out) i hlt HXM.out
        clear e2
        by_cases hlt2 : j < m
        · have hL3 : (L ++ (List.range j).map (x + ·)).length = L.length + j := by simp
          have hL4 : L ++ (List.range (j + 1)).map (x + ·) = (L ++ (List.range j).map (x + ·)) ++ [x + j] := by rw [List.range_succ]; simp
          have HL4 := Lib.hid hL4
          have hsz := HBj.out.size
          have hfw : IntKind.i64.wrap ((x : Int) + (j : Int)) = ((x + j : Nat) : Int) := by rw [IntKind.wrap_i64]; omega
          generalize hM : L ++ (List.range j).map (x + ·) = M at *
          clear hL4 hM
          go_wp2_with (at_builtin; refine wpList_append_own _ rfl _ _ 22 rfl w.heap.size 3 i0 (.int .i64 0) 1 8 Tryd.underlying22 HI.out HZ0.out HZ1.out HZ2.out rfl (by decide) _ _ _ rfl (own_on HRj.out (below1 _ _)) ⟨_, 0, none⟩ 1 1 [.int .i64 (x + j : Nat)] rfl rfl (World.news_of_block (heap_alloc_new _ (.cells #[.int .i64 (x + j : Nat)] 3))) (by simp [Value.oneCell']) (by unfold maxLen; omega) (by omega) (by simp; omega) ?_; intro v' w5 hown' hgrow _)
          go_roundw
          case rel =>
            have hrow : ∀ z, Value.ownBlock u3 = some z → w.heap.size ≤ z := fun z e => (HRj.out.lt z e).1
            have hba := HBj.out.on (below1 wr (.cells #[.int .i64 (x + j : Nat)] 3))
            refine ⟨j + 1, by omega, by go_num, Lib.hid ?_, Lib.hid (hba.grown hgrow hba.size (fun z e => hrow z e))⟩
            rw [HL4.out]
            simpa [encN] using hown'
          case measure => simp [intOf]; omega
        · obtain rfl : j = m := by omega
          go_wp2
          go_roundw
          case rel => exact ⟨i + 1, by omega, by go_num, Lib.hid (by rw [HTK.out, chunksL_snoc, HL.out]; exact HRj.out), HBj⟩
          case measure => simp [intOf]; omega
    · obtain rfl : i = parts.length := by omega
      rw [List.take_length] at HR
      go_wp2
      go_ret
      obtain ⟨A, c, hv⟩ : ∃ A c, u3 = .slice A (chunksL parts).length c := by
        rcases HR.out.2 with ⟨hv, h0⟩ | ⟨g, cap, cur, hv, _⟩
        · exact ⟨none, 0, by rw [hv, h0]⟩
        · exact ⟨_, _, hv⟩
      subst hv
      exact ⟨A, c, rfl, HR.out, HB.out⟩
end
section
open Go.RowKit
set_option linter.unusedVariables false
set_option linter.unusedSimpArgs false
variable {w w' : World} {G Wg Og size D bd f : Nat} {W W' own own' : List Int} {u : Value} {parts : List (Nat × Nat)} {ow pr : Int}
theorem own_weak {b1 b2 : Nat} {e : TypeId} {s n : Nat} {v : Value} {xs : List Value} (h : w.ownsRow b2 e s v n xs) (hb : b1 ≤ b2) : w.ownsRow b1 e s v n xs := by
  obtain ⟨h1, h2⟩ := h
  refine ⟨h1, ?_⟩
  rcases h2 with h2 | ⟨g, cap, cur, hv, hg, r⟩
  · exact .inl h2
  · exact .inr ⟨g, cap, cur, hv, Nat.le_trans hb hg, r⟩
theorem infoDP : (Tryd.prog.info? 120).map (fun i => (i.zero, i.size, i.bytes)) = some (some (.agg #[.int .i64 0, .int .i64 0, .bool false]), 3, 24) := by kernel_rfl
theorem DocAt.far (h : DocAt w D G bd ow u parts pr f) (hr : RefSt w G Wg Og W size own) : ∀ k, k = G ∨ k = Wg ∨ k = Og → k ≠ D ∧ u.ownBlock ≠ some k := by
  intro k hk
  rcases hk with rfl | rfl | rfl
  · exact ⟨type_ne hr.head h.head (by decide), own_type h.row hr.head (by decide)⟩
  · exact ⟨type_ne hr.body h.head (by decide), own_type h.row hr.body (by decide)⟩
  · exact ⟨type_ne hr.owners h.head (by decide), own_type h.row hr.owners (by decide)⟩
theorem DocAt.two (h : DocAt w D G bd ow u parts pr f) (hr : RefSt w G Wg Og W size own) (hm : Mod (Two3 Wg Og) w w') : DocAt w' D G bd ow u parts pr f :=
  h.mod hm (fun e => (h.far hr _ (.inr e)).1 rfl) (fun k hk e => (h.far hr k (.inr e)).2 hk)
set_option maxRecDepth 100000 in
set_option maxHeartbeats 1000000 in
theorem dgive_in (h : DocAt w D G bd ow u parts pr f) (hr : RefSt w G Wg Og W size own) (m n : Nat) (rb : Bool) (o : Int) (ho : 1 ≤ o) (hno : ∀ c, c < n → own.getD (m + c) 0 ≠ 0) (hol : m + n ≤ own.length) :
    Calls Tryd.prog 84 #[.pointer (some ⟨D, 0, none⟩), .agg #[.int .i64 m, .int .i64 n, .bool rb], .int .i64 o] w fun e w' => e = .returned (.tuple #[]) ∧ RefSt w' G Wg Og W size (fillO own m o n) ∧ Mod (Two3 Wg Og) w w' := by
  have H := Lib.hid h
  have HR0 := Lib.hid hr
  have HNO := Lib.hid hno
  have hol2 := hr.o2
  have hb := below1 w (.cells #[.int .i64 m, .int .i64 n, .bool rb] 120)
  have hk := heap_alloc_new w (.cells #[.int .i64 m, .int .i64 n, .bool rb] 120)
  have HF := Lib.hid (show ∀ k, Two3 Wg Og k → k ≠ w.heap.size from fun k e => by
    rcases e with e | e
    · have := block_lt hr.body; omega
    · have := block_lt hr.owners; omega)
  have HB0 := Lib.hid hb
  have HK0 := Lib.hid hk
  clear h hr hno hb hk
  go_enter Tryd.func84, Tryd.ntmps84
  go_wp2
  go_loopw [6] (fun v6 wr => ∃ c : Nat, c ≤ n ∧ v6 = .int .i64 c ∧ Hid (RefSt wr G Wg Og W size (fillO own m o c) ∧ Mod (Two3 Wg Og) w wr ∧ wr.heap[w.heap.size]? = some (.cells #[.int .i64 m, .int .i64 n, .bool rb] 120 (0, 0)))) (fun v6 _ => n - (intOf v6).toNat)
  case atStart => exact ⟨0, by omega, rfl, Lib.hid ⟨HR0.out.on HB0.out, .of_below HB0.out, HK0.out⟩⟩
  case round =>
    obtain ⟨c, hc, rfl, HR⟩ := hrel
    have k0 := (blk_cells HR.out.2.2 0).trans rfl
    have k1 := (blk_cells HR.out.2.2 1).trans rfl
    have d0 := (H.out.two HR0.out HR.out.2.1).c0
    by_cases hcn : c < n
    · have HG : Hid (∀ Y, Below wr.heap.size wr Y → Calls Tryd.prog 65 #[.pointer (some ⟨G, 0, none⟩), .int .i64 ((m : Int) + (c : Int)), .int .i64 o] Y fun e w' => e = .returned (.int .i64 0) ∧ RefSt w' G Wg Og W size (fillO own m o (c + 1)) ∧ Mod (Two3 Wg Og) wr w') := Lib.hid (fun Y hY => by
        have h1 := rgive_in (HR.out.1.on hY) (m + c) o ho (by rw [fillO_length]; omega) (by rw [fillO_getD own m o _ c (by omega), if_neg (by omega)]; exact HNO.out c hcn)
        rw [show ((m + c : Nat) : Int) = (m : Int) + (c : Int) by omega] at h1
        exact h1.mono fun e w' ⟨h2, h3, h4⟩ => ⟨h2, h3, (Mod.of_below hY).trans h4⟩)
      have q1 : IntKind.i64.wrap ((m : Int) + (c : Int)) = (m : Int) + (c : Int) := by rw [IntKind.wrap_i64]; omega
      go_wp2_with fail
      go_region_with (go_at_call 65; refine (HG.out _ (Below.drew (Below.refl _ _))).mono ?_; rintro e w5 ⟨rfl, hS5, hM5⟩)
      all_goals
        have HR5 : Hid (RefSt w5 G Wg Og W size (fillO own m o (c + 1)) ∧ Mod (Two3 Wg Og) w w5 ∧ w5.heap[w.heap.size]? = some (.cells #[.int .i64 m, .int .i64 n, .bool rb] 120 (0, 0))) := Lib.hid ⟨hS5, HR.out.2.1.trans hM5, hM5.keeps HR.out.2.2 (fun e => HF.out _ e rfl)⟩
        clear hS5 hM5 HG
        go_wp2
        go_roundw
        case rel => exact ⟨c + 1, by omega, by go_num, HR5⟩
        case measure => simp [intOf]; omega
    · obtain rfl : n = c := by omega
      go_wp2
      exact bodyPost_end (results_none rfl _ _ _) rfl ⟨rfl, HR.out.1, HR.out.2.1⟩
/-- Is a part taken? -/
def hitD (first : Int) (runs : Bool) (x : Nat × Nat) : Bool := decide ((x.1 : Int) = first) && (decide (1 < x.2) || !runs)
def dCells (b : Bool) (m n : Nat) : Array Value := if b then #[.int .i64 m, .int .i64 n, .bool (decide (1 < n))] else #[.int .i64 0, .int .i64 0, .bool false]
theorem dCells_three (b : Bool) (m n : Nat) : ∃ x y z, dCells b m n = #[.int .i64 x, .int .i64 y, .bool z] := by
  cases b
  · exact ⟨_, _, _, rfl⟩
  · exact ⟨_, _, _, rfl⟩
theorem filter_snoc_no {p : Nat × Nat → Bool} {l : List (Nat × Nat)} {x : Nat × Nat} (h : p x = true) : (l ++ [x]).filter (fun y => !p y) = l.filter (fun y => !p y) := by simp [List.filter_append, h]
theorem filter_snoc_yes {p : Nat × Nat → Bool} {l : List (Nat × Nat)} {x : Nat × Nat} (h : p x = false) : (l ++ [x]).filter (fun y => !p y) = l.filter (fun y => !p y) ++ [x] := by simp [List.filter_append, h]
theorem any_snoc_yes {p : Nat × Nat → Bool} {l : List (Nat × Nat)} {x : Nat × Nat} (h : p x = true) : (l ++ [x]).any p = true := by simp [h]
theorem any_snoc_no {p : Nat × Nat → Bool} {l : List (Nat × Nat)} {x : Nat × Nat} (h : p x = false) : (l ++ [x]).any p = l.any p := by simp [h]
def TakeS (w : World) (parts : List (Nat × Nat)) (first : Int) (runs : Bool) (m0 n0 i : Nat) (v : Value) (b : Value) (wr : World) : Prop :=
  wr.ownsRow (w.heap.size + 2) 120 3 v ((parts.take i).filter (fun y => !hitD first runs y)).length (((parts.take i).filter (fun y => !hitD first runs y)).flatMap dpEnc) ∧
  b = .bool ((parts.take i).any (hitD first runs)) ∧ Below w.heap.size w wr ∧ wr.heap[w.heap.size]? = some (.cells #[.int .i64 0, .int .i64 0, .bool false] 120 (0, 0)) ∧
  wr.heap[w.heap.size + 1]? = some (.cells (dCells ((parts.take i).any (hitD first runs)) m0 n0) 120 (0, 0))
theorem TakeS.hit {first : Int} {runs : Bool} {m0 n0 i m n : Nat} {v b : Value} {wr : World} (bv : Bool) (hbv : decide (1 < n) = bv) (h : TakeS w parts first runs m0 n0 i v b wr) (hlt : i < parts.length) (hx : parts.getD i (0, 0) = (m, n)) (hh : hitD first runs (m, n) = true) (hu : ∀ x ∈ parts, hitD first runs x = true → x = (m0, n0)) :
    TakeS w parts first runs m0 n0 (i + 1) v (.bool true) (((wr.setCell ⟨w.heap.size + 1, 0, none⟩ (.int .i64 m)).setCell ⟨w.heap.size + 1, 1, none⟩ (.int .i64 n)).setCell ⟨w.heap.size + 1, 2, none⟩ (.bool bv)) := by
  subst hbv
  obtain ⟨h1, h2, h3, h4, h5⟩ := h
  have ht := take_snoc i hlt
  have hmem := getD_mem i hlt
  rw [hx] at ht hmem
  have hmn := hu _ hmem hh
  injection hmn with e1 e2
  subst e1
  subst e2
  have hM : Mod (fun k => k = w.heap.size + 1) wr (((wr.setCell ⟨w.heap.size + 1, 0, none⟩ (.int .i64 m)).setCell ⟨w.heap.size + 1, 1, none⟩ (.int .i64 n)).setCell ⟨w.heap.size + 1, 2, none⟩ (.bool (decide (1 < n)))) :=
    ((Mod.setCell (fun k => k = w.heap.size + 1) wr ⟨w.heap.size + 1, 0, none⟩ _ rfl).trans (Mod.setCell (fun k => k = w.heap.size + 1) _ ⟨w.heap.size + 1, 1, none⟩ _ rfl)).trans (Mod.setCell (fun k => k = w.heap.size + 1) _ ⟨w.heap.size + 1, 2, none⟩ _ rfl)
  unfold TakeS
  rw [ht, filter_snoc_no hh, any_snoc_yes hh]
  obtain ⟨a1, a2, a3, h6⟩ := dCells_three ((parts.take i).any (hitD first runs)) m n
  rw [h6] at h5
  refine ⟨own_mod h1 hM (fun k hk e => ?_), rfl, Mod.below h3 hM (fun k e => by omega) h3.size, hM.keeps h4 (by omega), ?_⟩
  · have := (h1.lt k hk).1; omega
  · exact blk_set (blk_set (blk_set h5 0 _) 1 _) 2 _
theorem TakeS.miss {first : Int} {runs : Bool} {m0 n0 i m n : Nat} {v v' b : Value} {wr wx : World} {o : Obj} (bv : Bool) (hbv : decide (1 < n) = bv) (h : TakeS w parts first runs m0 n0 i v b wr) (hlt : i < parts.length) (hx : parts.getD i (0, 0) = (m, n)) (hh : hitD first runs (m, n) = false)
    (hr : wx.ownsRow (w.heap.size + 2) 120 3 v' (((parts.take i).filter (fun y => !hitD first runs y)).length + 1) (((parts.take i).filter (fun y => !hitD first runs y)).flatMap dpEnc ++ [.int .i64 m, .int .i64 n, .bool bv])) (hg : (wr.alloc o).grownBy wx v.ownBlock) :
    TakeS w parts first runs m0 n0 (i + 1) v' b wx := by
  subst hbv
  obtain ⟨h1, h2, h3, h4, h5⟩ := h
  have ht := take_snoc i hlt
  rw [hx] at ht
  unfold TakeS
  rw [ht, filter_snoc_yes hh, any_snoc_no hh, List.length_append, List.flatMap_append]
  have hlo : ∀ k, v.ownBlock = some k → w.heap.size + 2 ≤ k := fun k hk => (h1.lt k hk).1
  have hba := h3.on (below1 wr o)
  have hold : ∀ k, k < wr.heap.size → (k = w.heap.size ∨ k = w.heap.size + 1) → wx.heap[k]? = wr.heap[k]? := fun k hk e => by
    refine (hg.block k (by simp; omega) (fun e2 => ?_)).trans (Below.heap_alloc wr o k hk)
    have := hlo k e2.symm
    omega
  refine ⟨hr, h2, hba.grown hg hba.size (fun z e => by have := hlo z e; omega), (hold _ (block_lt h4) (.inl rfl)).trans h4, (hold _ (block_lt h5) (.inr rfl)).trans h5⟩
theorem TakeS.fin {first : Int} {runs : Bool} {m0 n0 : Nat} {A8 : Option Addr} {c8 l8 : Nat} {b : Value} {wr : World} {X1 X2 X3 : Value} (H : DocAt w D G bd ow u parts pr f) (hbd : bd ≤ w.heap.size) (hT : TakeS w parts first runs m0 n0 parts.length (.slice A8 l8 c8) b wr) :
    (∃ u', DocAt ((((wr.setCell ⟨D, 2, none⟩ (.slice A8 l8 c8)).setCell ⟨w.heap.size, 0, none⟩ X1).setCell ⟨w.heap.size, 1, none⟩ X2).setCell ⟨w.heap.size, 2, none⟩ X3) D G bd ow u' (parts.filter (fun y => !hitD first runs y)) pr f ∧ (∀ k, u'.ownBlock = some k → w.heap.size ≤ k)) ∧
    Mod (fun k => k = D) w ((((wr.setCell ⟨D, 2, none⟩ (.slice A8 l8 c8)).setCell ⟨w.heap.size, 0, none⟩ X1).setCell ⟨w.heap.size, 1, none⟩ X2).setCell ⟨w.heap.size, 2, none⟩ X3) := by
  obtain ⟨h1, h2, h3, h4, h5⟩ := hT
  rw [List.take_length] at h1
  have hD := block_lt H.head
  have m1 : Mod (fun k => k = D) wr (wr.setCell ⟨D, 2, none⟩ (.slice A8 l8 c8)) := Mod.setCell _ _ _ _ rfl
  have m2 : Mod (fun k => k = w.heap.size) (wr.setCell ⟨D, 2, none⟩ (.slice A8 l8 c8)) ((((wr.setCell ⟨D, 2, none⟩ (.slice A8 l8 c8)).setCell ⟨w.heap.size, 0, none⟩ X1).setCell ⟨w.heap.size, 1, none⟩ X2).setCell ⟨w.heap.size, 2, none⟩ X3) :=
    ((Mod.setCell (fun k => k = w.heap.size) _ ⟨w.heap.size, 0, none⟩ _ rfl).trans (Mod.setCell (fun k => k = w.heap.size) _ ⟨w.heap.size, 1, none⟩ _ rfl)).trans (Mod.setCell (fun k => k = w.heap.size) _ ⟨w.heap.size, 2, none⟩ _ rfl)
  have m3 : Mod (fun k => k = D ∨ k = w.heap.size) wr ((((wr.setCell ⟨D, 2, none⟩ (.slice A8 l8 c8)).setCell ⟨w.heap.size, 0, none⟩ X1).setCell ⟨w.heap.size, 1, none⟩ X2).setCell ⟨w.heap.size, 2, none⟩ X3) := (m1.mono (fun k _ e => .inl e)).trans (m2.mono (fun k _ e => .inr e))
  have hlo : ∀ k, (Value.slice A8 l8 c8).ownBlock = some k → w.heap.size + 2 ≤ k := fun k hk => (h1.lt k hk).1
  refine ⟨⟨_, ⟨m2.keeps (blk_set (H.on h3).head 2 _) (by omega), own_weak (own_mod h1 m3 (fun k hk e => ?_)) (by omega), fun x hx => H.pin x (List.mem_filter.1 hx).1, H.p1, H.p2, H.f1⟩, fun k hk => by have := hlo k hk; omega⟩, ((Mod.of_below h3).trans m3).mono (fun k hk e => ?_)⟩
  · have := hlo k hk
    rcases e with e | e <;> omega
  · rcases e with e | e
    · exact e
    · omega
set_option maxRecDepth 100000 in
set_option maxHeartbeats 4000000 in
theorem dtake_any (h : DocAt w D G bd ow u parts pr f) (hpl : parts.length ≤ 1000000) (first : Int) (runs : Bool) (m0 n0 : Nat) (hu : ∀ x ∈ parts, hitD first runs x = true → x = (m0, n0)) (hbd : bd ≤ w.heap.size) :
    Calls Tryd.prog 85 #[.pointer (some ⟨D, 0, none⟩), .int .i64 first, .bool runs] w fun e w' => e = .returned (.tuple #[.agg (dCells (parts.any (hitD first runs)) m0 n0), .bool (parts.any (hitD first runs))]) ∧ (∃ u', DocAt w' D G bd ow u' (parts.filter (fun y => !hitD first runs y)) pr f ∧ (∀ k, u'.ownBlock = some k → w.heap.size ≤ k)) ∧ Mod (fun k => k = D) w w' := by
  obtain ⟨i0, hi, hz0, hz1, hz2⟩ := info_parts infoDP
  have HI := Lib.hid hi
  have HZ0 := Lib.hid hz0
  have HZ1 := Lib.hid hz1
  have HZ2 := Lib.hid hz2
  clear hi hz0 hz1 hz2
  obtain ⟨A2, c2, rfl, hc2, hS2⟩ := own_slice dpEnc (0, 0) (fun _ => rfl) h.row
  have HS2 := Lib.hid hS2
  have H := Lib.hid h
  have HU := Lib.hid hu
  have HDL := Lib.hid (block_lt h.head)
  have hb1 := below1 w (.cells #[.int .i64 0, .int .i64 0, .bool false] 120)
  have hk1 := heap_alloc_new w (.cells #[.int .i64 0, .int .i64 0, .bool false] 120)
  have hb2 := below1 (w.alloc (.cells #[.int .i64 0, .int .i64 0, .bool false] 120)) (.cells #[.int .i64 0, .int .i64 0, .bool false] 120)
  have hk2 := heap_alloc_new (w.alloc (.cells #[.int .i64 0, .int .i64 0, .bool false] 120)) (.cells #[.int .i64 0, .int .i64 0, .bool false] 120)
  rw [World.size_alloc] at hk2
  have HT0 : Hid (TakeS w parts first runs m0 n0 0 (.slice none 0 0) (.bool false) ((w.alloc (.cells #[.int .i64 0, .int .i64 0, .bool false] 120)).alloc (.cells #[.int .i64 0, .int .i64 0, .bool false] 120))) := Lib.hid ⟨World.ownsRow_nil _ _ _ _, rfl, hb1.on hb2, (hb2.block _ (block_lt hk1)).trans hk1, hk2⟩
  clear h hS2 hu hb1 hk1 hb2 hk2
  go_enter Tryd.func85, Tryd.ntmps85
  go_wp2
  go_loopw [8, 10, 11] (fun v8 v10 v11 wr => ∃ i : Nat, i ≤ parts.length ∧ v11 = .int .i64 i ∧ Hid (TakeS w parts first runs m0 n0 i v8 v10 wr)) (fun _ _ v11 _ => parts.length - (intOf v11).toNat)
  case atStart => exact ⟨0, by omega, rfl, HT0⟩
  case round =>
    obtain ⟨i, hi, rfl, HT⟩ := hrel
    have d2 := (H.out.on HT.out.2.2.1).c2
    by_cases hlt : i < parts.length
    · obtain ⟨b2, o2, rfl⟩ := dpart_some HS2.out i hlt
      obtain ⟨m, n, hxm⟩ : ∃ m n, parts.getD i (0, 0) = (m, n) := ⟨_, _, rfl⟩
      obtain ⟨e0, e1, e2⟩ := dpart_cells (HS2.out.on HT.out.2.2.1) i hlt hxm
      have HXM := Lib.hid hxm
      clear hxm
      by_cases hm : (m : Int) = first
      · subst hm
        have hmb : ((m : Int) == (m : Int)) = true := by simp
        rcases runs with _ | _
        · by_cases c1 : 1 < n
          · have HH : Hid (hitD (m : Int) false (m, n) = true) := Lib.hid (by simp [hitD, c1])
            have HN := Lib.hid (HT.out.hit true (decide_eq_true c1) hlt HXM.out HH.out HU.out)
            obtain ⟨a1, a2, a3, h6⟩ := dCells_three ((parts.take i).any (hitD (m : Int) false)) m0 n0
            have hbx := HT.out.2.2.2.2
            rw [h6] at hbx
            have t0 := blk_thaw hbx 0
            have t1 := blk_thaw hbx 1
            have t2 := blk_thaw hbx 2
            have x0 := (blk_cells hbx 0).trans rfl
            have x1 := (blk_cells hbx 1).trans rfl
            have x2 := (blk_cells hbx 2).trans rfl
            rw [decide_eq_true c1] at e2
            clear h6 hbx HH
            go_wp2
            go_roundw
            case rel => exact ⟨i + 1, by omega, by go_num, HN⟩
            case measure => simp [intOf]; omega
          · have HH : Hid (hitD (m : Int) false (m, n) = true) := Lib.hid (by simp [hitD, c1])
            have HN := Lib.hid (HT.out.hit false (decide_eq_false c1) hlt HXM.out HH.out HU.out)
            obtain ⟨a1, a2, a3, h6⟩ := dCells_three ((parts.take i).any (hitD (m : Int) false)) m0 n0
            have hbx := HT.out.2.2.2.2
            rw [h6] at hbx
            have t0 := blk_thaw hbx 0
            have t1 := blk_thaw hbx 1
            have t2 := blk_thaw hbx 2
            have x0 := (blk_cells hbx 0).trans rfl
            have x1 := (blk_cells hbx 1).trans rfl
            have x2 := (blk_cells hbx 2).trans rfl
            rw [decide_eq_false c1] at e2
            clear h6 hbx HH
            go_wp2
            go_roundw
            case rel => exact ⟨i + 1, by omega, by go_num, HN⟩
            case measure => simp [intOf]; omega
        · by_cases c1 : 1 < n
          · have HH : Hid (hitD (m : Int) true (m, n) = true) := Lib.hid (by simp [hitD, c1])
            have HN := Lib.hid (HT.out.hit true (decide_eq_true c1) hlt HXM.out HH.out HU.out)
            obtain ⟨a1, a2, a3, h6⟩ := dCells_three ((parts.take i).any (hitD (m : Int) true)) m0 n0
            have hbx := HT.out.2.2.2.2
            rw [h6] at hbx
            have t0 := blk_thaw hbx 0
            have t1 := blk_thaw hbx 1
            have t2 := blk_thaw hbx 2
            have x0 := (blk_cells hbx 0).trans rfl
            have x1 := (blk_cells hbx 1).trans rfl
            have x2 := (blk_cells hbx 2).trans rfl
            rw [decide_eq_true c1] at e2
            clear h6 hbx HH
            go_wp2
            go_roundw
            case rel => exact ⟨i + 1, by omega, by go_num, HN⟩
            case measure => simp [intOf]; omega
          · have HH : Hid (hitD (m : Int) true (m, n) = false) := Lib.hid (by simp [hitD, c1])
            have hlen : ((parts.take i).filter (fun y => !hitD (m : Int) true y)).length ≤ 1000000 := Nat.le_trans (List.length_filter_le _ _) (by rw [List.length_take]; omega)
            have hszs := HT.out.2.2.1.size
            have hs2 := block_lt HT.out.2.2.2.2
            rw [decide_eq_false c1] at e2
            go_wp2_with (at_builtin; refine wpList_append_own _ rfl _ _ 113 rfl (w.heap.size + 2) 120 i0 (.agg #[.int .i64 0, .int .i64 0, .bool false]) 3 24 Tryd.underlying113 HI.out HZ0.out HZ1.out HZ2.out rfl (by decide) _ _ _ rfl (own_on HT.out.1 (below1 _ _)) ⟨_, 0, none⟩ 1 1 [.int .i64 (m : Nat), .int .i64 (n : Nat), .bool false] rfl rfl (World.news_of_block (heap_alloc_new _ (.cells #[.int .i64 (m : Nat), .int .i64 (n : Nat), .bool false] 120))) (by simp [Value.oneCell']) (by unfold maxLen; omega) (by omega) (by simp; omega) ?_; intro v' w5 hown' hgrow _)
            go_roundw
            case rel => exact ⟨i + 1, by omega, by go_num, Lib.hid (HT.out.miss false (decide_eq_false c1) hlt HXM.out HH.out hown' hgrow)⟩
            case measure => simp [intOf]; omega
      · have hmb : ((m : Int) == first) = false := by simp [hm]
        have HH : Hid (hitD first runs (m, n) = false) := Lib.hid (by simp [hitD, hm])
        have hlen : ((parts.take i).filter (fun y => !hitD first runs y)).length ≤ 1000000 := Nat.le_trans (List.length_filter_le _ _) (by rw [List.length_take]; omega)
        have hszs := HT.out.2.2.1.size
        have hs2 := block_lt HT.out.2.2.2.2
        skip
        go_wp2_with (at_builtin; refine wpList_append_own _ rfl _ _ 113 rfl (w.heap.size + 2) 120 i0 (.agg #[.int .i64 0, .int .i64 0, .bool false]) 3 24 Tryd.underlying113 HI.out HZ0.out HZ1.out HZ2.out rfl (by decide) _ _ _ rfl (own_on HT.out.1 (below1 _ _)) ⟨_, 0, none⟩ 1 1 [.int .i64 (m : Nat), .int .i64 (n : Nat), .bool (decide (1 < n))] rfl rfl (World.news_of_block (heap_alloc_new _ (.cells #[.int .i64 (m : Nat), .int .i64 (n : Nat), .bool (decide (1 < n))] 120))) (by simp [Value.oneCell']) (by unfold maxLen; omega) (by omega) (by simp; omega) ?_; intro v' w5 hown' hgrow _)
        go_roundw
        case rel => exact ⟨i + 1, by omega, by go_num, Lib.hid (HT.out.miss (decide (1 < n)) rfl hlt HXM.out HH.out hown' hgrow)⟩
        case measure => simp [intOf]; omega
    · obtain rfl : i = parts.length := by omega
      obtain ⟨A8, c8, e8, hc8, -⟩ := own_slice dpEnc (0, 0) (fun _ => rfl) HT.out.1
      subst e8
      have hT := HT.out
      have hh2 := (H.out.on hT.2.2.1).head
      have r4 := hT.2.2.2.1
      have r5 := hT.2.2.2.2
      obtain ⟨a1, a2, a3, h6⟩ := dCells_three ((parts.take parts.length).any (hitD first runs)) m0 n0
      have hfin := hT.fin (X1 := .int .i64 a1) (X2 := .int .i64 a2) (X3 := .bool a3) H.out hbd
      rw [List.take_length] at hfin
      have HFIN := Lib.hid hfin
      have h7 := h6
      rw [List.take_length] at h7
      have HH7 := Lib.hid h7
      rw [h6] at r5
      have t2 := blk_thaw hh2 2
      have r0 := blk_thaw r4 0
      have r1 := blk_thaw r4 1
      have r2 := blk_thaw r4 2
      have y0 := (blk_cells r4 0).trans rfl
      have y1 := (blk_cells r4 1).trans rfl
      have y2 := (blk_cells r4 2).trans rfl
      have x0 := (blk_cells r5 0).trans rfl
      have x1 := (blk_cells r5 1).trans rfl
      have x2 := (blk_cells r5 2).trans rfl
      have n1 : ¬ D = w.heap.size := by have := HDL.out; omega
      have n2 : ¬ D = w.heap.size + 1 := by have := HDL.out; omega
      have n3 : ¬ w.heap.size = D := fun e => n1 e.symm
      have n4 : ¬ w.heap.size + 1 = D := fun e => n2 e.symm
      obtain rfl := hT.2.1
      clear hT hh2 r4 r5 h6 h7 hfin
      go_wp2
      refine bodyPost_ret (v := .tuple #[.agg #[.int .i64 a1, .int .i64 a2, .bool a3], .bool ((parts.take parts.length).any (hitD first runs))]) ?_ rfl ⟨by rw [HH7.out, List.take_length], HFIN.out⟩
      rw [results_cell_tmp rfl]
      go_simp
      try rfl
end
section
open Go.RowKit
set_option linter.unusedVariables false
set_option linter.unusedSimpArgs false
variable {w w' : World} {G Wg Og size D bd f : Nat} {W W' own own' : List Int} {u : Value} {parts : List (Nat × Nat)} {ow pr : Int}
theorem filter_cut {p : Nat × Nat → Bool} : ∀ (l : List (Nat × Nat)) (j : Nat), j < l.length → p (l.getD j (0, 0)) = true → (∀ i, i < l.length → i ≠ j → p (l.getD i (0, 0)) = false) → l.filter (fun y => !p y) = l.take j ++ l.drop (j + 1)
  | [], j, h, _, _ => absurd h (Nat.not_lt_zero _)
  | x :: l, 0, _, h1, h2 => by
    have e : p x = true := h1
    rw [List.filter_cons, if_neg (by simp [e]), List.filter_eq_self.2]
    · rfl
    · intro y hy
      obtain ⟨i, hi, rfl⟩ := List.mem_iff_getElem.1 hy
      have := h2 (i + 1) (by simp; omega) (by omega)
      simp [List.getD, hi] at this
      simp [this]
  | x :: l, j + 1, h, h1, h2 => by
    have e : p x = false := h2 0 (by simp) (by omega)
    have ih := filter_cut (p := p) l j (by simpa using h) (by simpa [List.getD] using h1) (fun i hi hij => by
      have := h2 (i + 1) (by simp; omega) (by omega)
      simpa [List.getD] using this)
    rw [List.filter_cons, if_pos (by simp [e]), ih]
    rfl
theorem dtake_hit (h : DocAt w D G bd ow u parts pr f) (hpl : parts.length ≤ 1000000) (runs : Bool) (j m n : Nat) (hjl : j < parts.length) (hx : parts.getD j (0, 0) = (m, n)) (hne : ∀ i, i < parts.length → i ≠ j → (parts.getD i (0, 0)).1 ≠ m) (hr : (decide (1 < n) || !runs) = true) (hbd : bd ≤ w.heap.size) :
    Calls Tryd.prog 85 #[.pointer (some ⟨D, 0, none⟩), .int .i64 m, .bool runs] w fun e w' => e = .returned (.tuple #[.agg #[.int .i64 m, .int .i64 n, .bool (decide (1 < n))], .bool true]) ∧ (∃ u', DocAt w' D G bd ow u' (parts.take j ++ parts.drop (j + 1)) pr f ∧ (∀ k, u'.ownBlock = some k → w.heap.size ≤ k)) ∧ Mod (fun k => k = D) w w' := by
  have hj : hitD (m : Int) runs (parts.getD j (0, 0)) = true := by rw [hx]; simp [hitD]; simpa using hr
  have hn : ∀ i, i < parts.length → i ≠ j → hitD (m : Int) runs (parts.getD i (0, 0)) = false := fun i hi hij => by
    have := hne i hi hij
    unfold hitD
    rw [decide_eq_false (by omega)]; rfl
  have hu : ∀ x ∈ parts, hitD (m : Int) runs x = true → x = (m, n) := fun x hxm hh => by
    obtain ⟨i, hi, rfl⟩ := List.mem_iff_getElem.1 hxm
    have e : parts.getD i (0, 0) = parts[i] := by simp [List.getD, hi]
    by_cases hij : i = j
    · subst hij; rw [← e, hx]
    · have := hn i hi hij
      rw [e, hh] at this; cases this
  have hany : parts.any (hitD (m : Int) runs) = true := by
    rw [List.any_eq_true]
    exact ⟨_, getD_mem j hjl, hj⟩
  have h1 := dtake_any h hpl (m : Int) runs m n hu hbd
  rw [hany, filter_cut parts j hjl hj hn] at h1
  exact h1
theorem dtake_no (h : DocAt w D G bd ow u parts pr f) (hpl : parts.length ≤ 1000000) (first : Int) (runs : Bool) (hno : ∀ x ∈ parts, hitD first runs x = false) (hbd : bd ≤ w.heap.size) :
    Calls Tryd.prog 85 #[.pointer (some ⟨D, 0, none⟩), .int .i64 first, .bool runs] w fun e w' => e = .returned (.tuple #[.agg #[.int .i64 0, .int .i64 0, .bool false], .bool false]) ∧ (∃ u', DocAt w' D G bd ow u' parts pr f ∧ (∀ k, u'.ownBlock = some k → w.heap.size ≤ k)) ∧ Mod (fun k => k = D) w w' := by
  have hany : parts.any (hitD first runs) = false := by
    rw [List.any_eq_false]
    exact fun x hx => by rw [hno x hx]; decide
  have h1 := dtake_any h hpl first runs 0 0 (fun x hx hh => by rw [hno x hx] at hh; cases hh) hbd
  rw [hany, List.filter_eq_self.2 (fun x hx => by rw [hno x hx]; rfl)] at h1
  exact h1
theorem ddrop_no (h : DocAt w D G bd ow u parts pr f) (hpl : parts.length ≤ 1000000) (first : Int) (hno : ∀ i, i < parts.length → ((parts.getD i (0, 0)).1 : Int) ≠ first) (hbd : bd ≤ w.heap.size) :
    Calls Tryd.prog 75 #[.pointer (some ⟨D, 0, none⟩), .int .i64 first] w fun e w' => e = .returned (.int .i64 6) ∧ (∃ u', DocAt w' D G bd ow u' parts pr f ∧ (∀ k, u'.ownBlock = some k → w.heap.size ≤ k)) ∧ Mod (fun k => k = D) w w' := by
  have HT := Lib.hid (dtake_no h hpl first false (fun x hx => by
    obtain ⟨i, hi, rfl⟩ := List.mem_iff_getElem.1 hx
    have := hno i hi
    have e : parts.getD i (0, 0) = parts[i] := by simp [List.getD, hi]
    rw [e] at this
    unfold hitD; rw [decide_eq_false this]; rfl) hbd)
  clear h hno
  go_enter Tryd.func75, Tryd.ntmps75
  go_wp2_with fail
  refine HT.out.mono ?_
  rintro e w1 ⟨rfl, ⟨u1, hD1, hf1⟩, hM1⟩
  have HD1 := Lib.hid hD1
  have HF1 := Lib.hid hf1
  have HM1 := Lib.hid hM1
  clear hD1 hf1 hM1 HT
  go_wp2
  go_ret
  exact ⟨rfl, ⟨u1, HD1.out.on (below1 _ _), HF1.out⟩, HM1.out.trans (.of_below (below1 _ _))⟩
/-- What the document's Drop turns. -/
def DDropS (Wg Og D : Nat) (k : Nat) : Prop := Two3 Wg Og k ∨ k = D
/-- Is the document's present chunk dropped? -/
def dropD (pr : Int) (m n : Nat) : Bool := decide (n = 1) && decide ((m : Int) = pr)
def DDropPost (w : World) (G Wg Og : Nat) (W : List Int) (size : Nat) (own : List Int) (D bd : Nat) (ow : Int) (parts : List (Nat × Nat)) (pr : Int) (f j m n : Nat) (e : Ending) (w' : World) : Prop :=
  e = .returned (.int .i64 0) ∧ (∃ u', DocAt w' D G bd ow u' (parts.take j ++ parts.drop (j + 1)) (if dropD pr m n then -1 else pr) (if dropD pr m n then 0 else f) ∧ (∀ k, u'.ownBlock = some k → w.heap.size ≤ k)) ∧ RefSt w' G Wg Og W size (fillO own m 0 n) ∧ Mod (DDropS Wg Og D) w w'
set_option maxRecDepth 100000 in
set_option maxHeartbeats 2000000 in
theorem ddrop_in (h : DocAt w D G bd ow u parts pr f) (hr : RefSt w G Wg Og W size own) (hpl : parts.length ≤ 1000000) (j m n : Nat) (hjl : j < parts.length) (hx : parts.getD j (0, 0) = (m, n)) (hn1 : 1 ≤ n) (hne : ∀ i, i < parts.length → i ≠ j → (parts.getD i (0, 0)).1 ≠ m) (ho : ∀ c, c < n → own.getD (m + c) 0 ≠ 0) (hol : m + n ≤ own.length) (hbd : bd ≤ w.heap.size) :
    Calls Tryd.prog 75 #[.pointer (some ⟨D, 0, none⟩), .int .i64 m] w (DDropPost w G Wg Og W size own D bd ow parts pr f j m n) := by
  have HT := Lib.hid (dtake_hit h hpl false j m n hjl hx hne (by simp) hbd)
  have HFAR := Lib.hid (h.far hr)
  have HR0 := Lib.hid hr
  have HO := Lib.hid ho
  have hol2 := hr.o2
  have HWL := Lib.hid (show ∀ k, Two3 Wg Og k → k < w.heap.size from fun k e => by
    rcases e with e | e
    · rw [e]; exact block_lt hr.body
    · rw [e]; exact block_lt hr.owners)
  have HDL := Lib.hid (block_lt h.head)
  clear h hr ho hx hne
  go_enter Tryd.func75, Tryd.ntmps75
  go_wp2_with fail
  refine HT.out.mono ?_
  rintro e w1 ⟨rfl, ⟨u1, hD1, hf1⟩, hM1⟩
  have hba := below1 w1 (.cells #[.int .i64 m, .int .i64 n, .bool (decide (1 < n))] 120)
  have hk := heap_alloc_new w1 (.cells #[.int .i64 m, .int .i64 n, .bool (decide (1 < n))] 120)
  have HF1 := Lib.hid hf1
  have hR1 : RefSt w1 G Wg Og W size own := HR0.out.mod hM1 (fun e => (HFAR.out _ (.inl rfl)).1 e) (fun e => (HFAR.out _ (.inr (.inl rfl))).1 e) (fun e => (HFAR.out _ (.inr (.inr rfl))).1 e)
  have hsz1 := hM1.size
  have HMA : Hid (Mod (DDropS Wg Og D) w (w1.alloc (.cells #[.int .i64 m, .int .i64 n, .bool (decide (1 < n))] 120))) := Lib.hid ((hM1.mono fun k _ e => .inr e).trans (.of_below hba))
  have HST : Hid (DocAt (w1.alloc (.cells #[.int .i64 m, .int .i64 n, .bool (decide (1 < n))] 120)) D G bd ow u1 (parts.take j ++ parts.drop (j + 1)) pr f ∧ RefSt (w1.alloc (.cells #[.int .i64 m, .int .i64 n, .bool (decide (1 < n))] 120)) G Wg Og W size own) := Lib.hid ⟨hD1.on hba, hR1.on hba⟩
  have HK := Lib.hid hk
  clear hba hk hf1 hM1 hD1 hR1 HT
  go_wp2_with fail
  go_loopw [7] (fun v7 wr => ∃ c : Nat, c ≤ n ∧ v7 = .int .i64 c ∧ Hid (DocAt wr D G bd ow u1 (parts.take j ++ parts.drop (j + 1)) pr f ∧ RefSt wr G Wg Og W size (fillO own m 0 c) ∧ Mod (DDropS Wg Og D) w wr ∧ wr.heap[w1.heap.size]? = some (.cells #[.int .i64 m, .int .i64 n, .bool (decide (1 < n))] 120 (0, 0)))) (fun v7 _ => n - (intOf v7).toNat)
  case atStart => exact ⟨0, by omega, rfl, Lib.hid ⟨HST.out.1, HST.out.2, HMA.out, HK.out⟩⟩
  case round =>
    obtain ⟨c, hc, rfl, HR⟩ := hrel
    have c0 := HR.out.1.c0
    have b0 := (blk_cells HR.out.2.2.2 0).trans rfl
    have b1 := (blk_cells HR.out.2.2.2 1).trans rfl
    by_cases hcn : c < n
    · have HRL : Hid (∀ Y, Below wr.heap.size wr Y → Calls Tryd.prog 64 #[.pointer (some ⟨G, 0, none⟩), .int .i64 ((m : Int) + (c : Int))] Y fun e w' => e = .returned (.int .i64 0) ∧ RefSt w' G Wg Og W size (fillO own m 0 (c + 1)) ∧ Mod (Two3 Wg Og) wr w') := Lib.hid (fun Y hY => by
        have h1 := rrelease_in (HR.out.2.1.on hY) (m + c) (by rw [fillO_length]; omega) (by rw [fillO_getD own m 0 _ c (by omega), if_neg (by omega)]; exact HO.out c hcn)
        rw [show ((m + c : Nat) : Int) = (m : Int) + (c : Int) by omega] at h1
        exact h1.mono fun e w' ⟨h2, h3, h4⟩ => ⟨h2, h3, (Mod.of_below hY).trans h4⟩)
      have q1 : IntKind.i64.wrap ((m : Int) + (c : Int)) = (m : Int) + (c : Int) := by rw [IntKind.wrap_i64]; omega
      go_wp2_with fail
      go_region_with (go_at_call 64; refine (HRL.out _ (Below.drew (Below.refl _ _))).mono ?_; rintro e w5 ⟨rfl, hS5, hM5⟩)
      all_goals
        have HR5 : Hid (DocAt w5 D G bd ow u1 (parts.take j ++ parts.drop (j + 1)) pr f ∧ RefSt w5 G Wg Og W size (fillO own m 0 (c + 1)) ∧ Mod (DDropS Wg Og D) w w5 ∧ w5.heap[w1.heap.size]? = some (.cells #[.int .i64 m, .int .i64 n, .bool (decide (1 < n))] 120 (0, 0))) := Lib.hid ⟨HR.out.1.two HR.out.2.1 hM5, hS5, HR.out.2.2.1.trans (hM5.mono fun k _ e => .inl e), hM5.keeps HR.out.2.2.2 (fun e => by have := HWL.out _ e; omega)⟩
        clear hS5 hM5 HRL
        go_wp2
        go_roundw
        case rel => exact ⟨c + 1, by omega, by go_num, HR5⟩
        case measure => simp [intOf]; omega
    · obtain rfl : n = c := by omega
      have b2 := (blk_cells HR.out.2.2.2 2).trans rfl
      have c3 := HR.out.1.c3
      by_cases c1 : 1 < n
      · have HDP : Hid (dropD pr m n = false) := Lib.hid (by unfold dropD; rw [decide_eq_false (by omega)]; rfl)
        replace b2 : wr.cell? ⟨w1.heap.size, 2, none⟩ = some (.bool true) := by rw [b2, decide_eq_true c1]; rfl
        go_wp2_with fail
        go_quiet (fail)
        go_wp2
        go_ret
        refine ⟨rfl, ⟨u1, ?_, HF1.out⟩, HR.out.2.1.on (below_drewN (Below.refl _ _) _), HR.out.2.2.1.trans (.of_below (below_drewN (Below.refl _ _) _))⟩
        rw [HDP.out]; exact HR.out.1.on (below_drewN (Below.refl _ _) _)
      · replace b2 : wr.cell? ⟨w1.heap.size, 2, none⟩ = some (.bool false) := by rw [b2, decide_eq_false c1]; rfl
        by_cases hp : (m : Int) = pr
        · have HDP : Hid (dropD pr m n = true) := Lib.hid (by unfold dropD; rw [decide_eq_true (show n = 1 by omega), decide_eq_true hp]; rfl)
          have f1 : ((m : Int) == pr) = true := by simp [hp]
          have t3 := blk_thaw HR.out.1.head 3
          have t4 := blk_thaw HR.out.1.head 4
          have c4 := HR.out.1.c4
          clear hp
          go_wp2_with fail
          go_quiet (fail)
          go_wp2
          go_ret
          have hY := HR.out.1.on (below_drewN (Below.refl _ _) nq)
          have hm : Mod (fun k => k = D) (wr.drewN nq) (((wr.drewN nq).setCell ⟨D, 3, none⟩ (.int .i64 (-1))).setCell ⟨D, 4, none⟩ (.int .i64 0)) := (Mod.setCell (fun k => k = D) _ ⟨D, 3, none⟩ _ rfl).trans (Mod.setCell (fun k => k = D) _ ⟨D, 4, none⟩ _ rfl)
          have hm0 : Mod (fun k => k = D) wr (((wr.drewN nq).setCell ⟨D, 3, none⟩ (.int .i64 (-1))).setCell ⟨D, 4, none⟩ (.int .i64 0)) := (Mod.of_below (below_drewN (Below.refl _ _) nq)).trans hm
          refine ⟨rfl, ⟨u1, ?_, HF1.out⟩, HR.out.2.1.mod hm0 (fun e => (HFAR.out _ (.inl rfl)).1 e) (fun e => (HFAR.out _ (.inr (.inl rfl))).1 e) (fun e => (HFAR.out _ (.inr (.inr rfl))).1 e), HR.out.2.2.1.trans (hm0.mono fun k _ e => .inr e)⟩
          rw [HDP.out]
          exact ⟨blk_set (blk_set hY.head 3 _) 4 _, own_mod hY.row hm (fun k hk e => hY.np (hk.trans (by rw [e]))), hY.pin, show (-1 : Int) ≤ -1 by decide, show (-1 : Int) ≤ 1024 by decide, show (0 : Nat) ≤ 1024 by decide⟩
        · have HDP : Hid (dropD pr m n = false) := Lib.hid (by unfold dropD; rw [decide_eq_false hp, Bool.and_false])
          have f1 : ((m : Int) == pr) = false := by simp [hp]
          clear hp
          go_wp2_with fail
          go_quiet (fail)
          go_wp2
          go_ret
          refine ⟨rfl, ⟨u1, ?_, HF1.out⟩, HR.out.2.1.on (below_drewN (Below.refl _ _) _), HR.out.2.2.1.trans (.of_below (below_drewN (Below.refl _ _) _))⟩
          rw [HDP.out]; exact HR.out.1.on (below_drewN (Below.refl _ _) _)
end
section
open Go.RowKit
set_option linter.unusedVariables false
set_option linter.unusedSimpArgs false
variable {w w' : World} {G Wg Og size D E bd f f2 : Nat} {W W' own own' : List Int} {u u2 : Value} {parts parts2 : List (Nat × Nat)} {ow pr ow2 pr2 : Int}
theorem dhand_no (h : DocAt w D G bd ow u parts pr f) (hpl : parts.length ≤ 1000000) (E : Nat) (first : Int) (hno : ∀ i, i < parts.length → ((parts.getD i (0, 0)).1 : Int) = first → (parts.getD i (0, 0)).2 ≤ 1) (hbd : bd ≤ w.heap.size) :
    Calls Tryd.prog 74 #[.pointer (some ⟨D, 0, none⟩), .pointer (some ⟨E, 0, none⟩), .int .i64 first] w fun e w' => e = .returned (.int .i64 6) ∧ (∃ u', DocAt w' D G bd ow u' parts pr f ∧ (∀ k, u'.ownBlock = some k → w.heap.size ≤ k)) ∧ Mod (fun k => k = D) w w' := by
  have HT := Lib.hid (dtake_no h hpl first true (fun x hx => by
    obtain ⟨i, hi, rfl⟩ := List.mem_iff_getElem.1 hx
    have := hno i hi
    have e : parts.getD i (0, 0) = parts[i] := by simp [List.getD, hi]
    rw [e] at this
    unfold hitD
    by_cases g : ((parts[i]).1 : Int) = first
    · have := this g
      rw [decide_eq_false (show ¬ 1 < (parts[i]).2 by omega)]; simp
    · rw [decide_eq_false g]; rfl) hbd)
  clear h hno
  go_enter Tryd.func74, Tryd.ntmps74
  go_wp2_with fail
  refine HT.out.mono ?_
  rintro e w1 ⟨rfl, ⟨u1, hD1, hf1⟩, hM1⟩
  have HD1 := Lib.hid hD1
  have HF1 := Lib.hid hf1
  have HM1 := Lib.hid hM1
  clear hD1 hf1 hM1 HT
  go_wp2
  go_ret
  exact ⟨rfl, ⟨u1, HD1.out.on (below1 _ _), HF1.out⟩, HM1.out.trans (.of_below (below1 _ _))⟩
/-- A space's slot set to its row, grown. -/
theorem DocAt.grow {w5 Y w6 : World} {v' : Value} {ys : List (Nat × Nat)} (h : DocAt w5 E G bd ow2 u2 parts2 pr2 f2) (hb : Below w5.heap.size w5 Y) (hg : Y.grownBy w6 u2.ownBlock) (hr : w6.ownsRow bd 120 3 v' (parts2 ++ ys).length ((parts2 ++ ys).flatMap dpEnc)) (hat : ∀ k, v'.ownBlock = some k → u2.ownBlock = some k ∨ k = Y.heap.size) (hp : ∀ x ∈ ys, x.1 + x.2 ≤ 1024) :
    DocAt (w6.setCell ⟨E, 2, none⟩ v') E G bd ow2 v' (parts2 ++ ys) pr2 f2 ∧ Mod (fun k => k = E ∨ u2.ownBlock = some k) w5 (w6.setCell ⟨E, 2, none⟩ v') := by
  have hE := block_lt h.head
  have hs := hb.size
  have m1 : Mod (fun k => u2.ownBlock = some k) Y w6 := ⟨hg.os, hg.tape, hg.output, hg.size, fun j hj hn => hg.block j hj (fun e => hn e.symm)⟩
  have m2 : Mod (fun k => k = E) w6 (w6.setCell ⟨E, 2, none⟩ v') := Mod.setCell _ _ _ _ rfl
  have m0 : Mod (fun k => u2.ownBlock = some k) w5 w6 := (Mod.of_below hb).trans m1
  have hnp := h.np
  refine ⟨⟨blk_set (m0.keeps h.head hnp) 2 _, own_mod hr m2 (fun k hk e => ?_), fun x hx => ?_, h.p1, h.p2, h.f1⟩, (m0.mono fun k _ e => .inr e).trans (m2.mono fun k _ e => .inl e)⟩
  · subst e
    rcases hat _ hk with g | g
    · exact hnp g
    · omega
  · rcases List.mem_append.1 hx with g | g
    · exact h.pin x g
    · exact hp x g
/-- What the document's Hand and Join turn. -/
def DHandS (Wg Og D E : Nat) (u : Value) (k : Nat) : Prop := Two3 Wg Og k ∨ k = D ∨ k = E ∨ u.ownBlock = some k
def DHandPost (w : World) (G Wg Og : Nat) (W : List Int) (size : Nat) (own : List Int) (D E bd : Nat) (ow ow2 : Int) (u2 : Value) (parts parts2 : List (Nat × Nat)) (pr pr2 : Int) (f f2 j m n : Nat) (e : Ending) (w' : World) : Prop :=
  e = .returned (.int .i64 0) ∧ (∃ u' u2', DocAt w' D G bd ow u' (parts.take j ++ parts.drop (j + 1)) pr f ∧ DocAt w' E G bd ow2 u2' (parts2 ++ [(m, n)]) pr2 f2 ∧ (∀ k, u'.ownBlock = some k → u2'.ownBlock ≠ some k)) ∧ RefSt w' G Wg Og W size (fillO own m ow2 n) ∧ Mod (DHandS Wg Og D E u2) w w'
set_option maxRecDepth 100000 in
set_option maxHeartbeats 2000000 in
theorem dhand_in (h : DocAt w D G bd ow u parts pr f) (h2 : DocAt w E G bd ow2 u2 parts2 pr2 f2) (hr : RefSt w G Wg Og W size own) (hDE : D ≠ E) (ho2 : 1 ≤ ow2) (hpl : parts.length ≤ 1000000) (hpl2 : parts2.length ≤ 1000000) (j m n : Nat) (hjl : j < parts.length) (hx : parts.getD j (0, 0) = (m, n)) (hn1 : 1 < n) (hne : ∀ i, i < parts.length → i ≠ j → (parts.getD i (0, 0)).1 ≠ m) (ho : ∀ c, c < n → own.getD (m + c) 0 ≠ 0) (hol : m + n ≤ own.length) (hbd : bd ≤ w.heap.size) :
    Calls Tryd.prog 74 #[.pointer (some ⟨D, 0, none⟩), .pointer (some ⟨E, 0, none⟩), .int .i64 m] w (DHandPost w G Wg Og W size own D E bd ow ow2 u2 parts parts2 pr pr2 f f2 j m n) := by
  obtain ⟨i0, hi, hz0, hz1, hz2⟩ := info_parts infoDP
  have HI := Lib.hid hi
  have HZ0 := Lib.hid hz0
  have HZ1 := Lib.hid hz1
  have HZ2 := Lib.hid hz2
  clear hi hz0 hz1 hz2
  have HT := Lib.hid (dtake_hit h hpl true j m n hjl hx hne (by simp [hn1]) hbd)
  have HFAR := Lib.hid (h.far hr)
  have HFAR2 := Lib.hid (h2.far hr)
  have HR0 := Lib.hid hr
  have H2 := Lib.hid h2
  have HO := Lib.hid ho
  have hol2 := hr.o2
  have HWL := Lib.hid (show ∀ k, Two3 Wg Og k → k < w.heap.size from fun k e => by
    rcases e with e | e
    · rw [e]; exact block_lt hr.body
    · rw [e]; exact block_lt hr.owners)
  have HDL := Lib.hid (block_lt h.head)
  have HEL := Lib.hid (block_lt h2.head)
  have HU2D : Hid (u2.ownBlock ≠ some D) := Lib.hid (own_type h2.row h.head (by decide))
  have hd : decide (1 < n) = true := decide_eq_true hn1
  rw [hd] at HT
  clear h hr ho hx hne h2 hd
  go_enter Tryd.func74, Tryd.ntmps74
  go_wp2_with fail
  refine HT.out.mono ?_
  rintro e w1 ⟨rfl, ⟨u1, hD1, hf1⟩, hM1⟩
  have hba := below1 w1 (.cells #[.int .i64 m, .int .i64 n, .bool true] 120)
  have hk := heap_alloc_new w1 (.cells #[.int .i64 m, .int .i64 n, .bool true] 120)
  have HF1 := Lib.hid hf1
  have hR1 : RefSt w1 G Wg Og W size own := HR0.out.mod hM1 (fun e => (HFAR.out _ (.inl rfl)).1 e) (fun e => (HFAR.out _ (.inr (.inl rfl))).1 e) (fun e => (HFAR.out _ (.inr (.inr rfl))).1 e)
  have hE1 : DocAt w1 E G bd ow2 u2 parts2 pr2 f2 := H2.out.mod hM1 (fun e => hDE e.symm) (fun k hk e => HU2D.out (hk.trans (by rw [e])))
  have hsz1 := hM1.size
  have HL1 := Lib.hid hD1.row.lt
  have HMA : Hid (Mod (fun k => k = D) w (w1.alloc (.cells #[.int .i64 m, .int .i64 n, .bool true] 120))) := Lib.hid (hM1.trans (.of_below hba))
  have HD1 := Lib.hid (hD1.on hba)
  have HE1 := Lib.hid (hE1.on hba)
  have HR1 := Lib.hid (hR1.on hba)
  have k0 := (blk_cells hk 0).trans rfl
  have k1 := (blk_cells hk 1).trans rfl
  have k2 := (blk_cells hk 2).trans rfl
  have e1 := (hE1.on hba).c1
  have HK := Lib.hid hk
  have HG : Hid (∀ Y, Below (w1.alloc (.cells #[.int .i64 m, .int .i64 n, .bool true] 120)).heap.size (w1.alloc (.cells #[.int .i64 m, .int .i64 n, .bool true] 120)) Y → Calls Tryd.prog 84 #[.pointer (some ⟨D, 0, none⟩), .agg #[.int .i64 m, .int .i64 n, .bool true], .int .i64 ow2] Y fun e w' => e = .returned (.tuple #[]) ∧ RefSt w' G Wg Og W size (fillO own m ow2 n) ∧ Mod (Two3 Wg Og) (w1.alloc (.cells #[.int .i64 m, .int .i64 n, .bool true] 120)) w') := Lib.hid (fun Y hY => (dgive_in (HD1.out.on hY) (HR1.out.on hY) m n true ow2 ho2 HO.out hol).mono fun e w' ⟨a1, a2, a3⟩ => ⟨a1, a2, (Mod.of_below hY).trans a3⟩)
  clear hba hk hf1 hM1 hD1 hR1 HT hE1
  go_wp2_with fail
  go_region_with (go_at_call 84; refine (HG.out _ (Below.drew (Below.refl _ _))).mono ?_; rintro e w5 ⟨rfl, hS5, hM5⟩)
  all_goals
    have HS5 := Lib.hid hS5
    have HM5 := Lib.hid hM5
    have hE5 := HE1.out.two HR1.out hM5
    have HE5 := Lib.hid hE5
    have HD5 := Lib.hid (HD1.out.two HR1.out hM5)
    have hK5 := hM5.keeps HK.out (fun e => by have := HWL.out _ e; omega)
    have k0 := (blk_cells hK5 0).trans rfl
    have k1 := (blk_cells hK5 1).trans rfl
    have k2 := (blk_cells hK5 2).trans rfl
    have q2 := hE5.c2
    have hltE := block_lt hE5.head
    have hbd5 : bd ≤ w5.heap.size := by have := hM5.size; simp at this; omega
    have hnp : some E ≠ u2.ownBlock := fun e => hE5.np e.symm
    clear hS5 hM5 HG hK5
    obtain ⟨A2, c2, rfl, hc2, -⟩ := own_slice dpEnc (0, 0) (fun _ => rfl) hE5.row
    go_wp2_with fail
    go_region_law (refine step_append_lies _ rfl (.tmp 28) (.tmp 30) 113 rfl bd 120 i0 (.agg #[.int .i64 0, .int .i64 0, .bool false]) 3 24 Tryd.underlying113 HI.out HZ0.out HZ1.out HZ2.out rfl (by decide) (.slice A2 parts2.length c2) _ _ rfl (own_on HE5.out.row ((Below.drew (Below.refl _ _)).on (below1 _ _))) ⟨w5.heap.size, 0, none⟩ 1 1 [.int .i64 m, .int .i64 n, .bool true] rfl rfl (World.news_of_block (cs := #[.int .i64 m, .int .i64 n, .bool true]) (t := 120) (fr := (0, 0)) (heap_alloc_new w5.drew _)) (by simp [Value.oneCell']) (by decide) (by unfold maxLen; omega) (by omega) (by simp; omega) _ rfl ?_; intro g cap w6 hown' hgrow hat hlt; have K6 := (hgrow.block E (Nat.lt_of_lt_of_le hltE (by simp)) hnp).trans ((Below.heap_alloc w5.drew _ _ hltE).trans HE5.out.head); have p2 := (blk_cells K6 2).trans rfl; have pt := blk_thaw K6 2)
    all_goals
      have HO6 := Lib.hid hown'
      have HG6 := Lib.hid hgrow
      have HA6 := Lib.hid hat
      clear hown' hgrow hat K6
      go_wp2
      go_ret
      have hv : parts2.length + 1 = (parts2 ++ [(m, n)]).length := by simp
      have ho6 := HO6.out
      rw [hv] at ho6 ⊢
      obtain ⟨g1, g2⟩ := HE5.out.grow (v' := .slice (some ⟨g, 0, none⟩) (parts2 ++ [(m, n)]).length cap) (ys := [(m, n)]) ((Below.drew (Below.refl _ _)).on (below1 _ _)) HG6.out (by simpa [dpEnc, hn1] using ho6) (fun k hk => by
        injection hk with hk
        subst hk
        exact HA6.out) (fun x hx => by rw [List.mem_singleton.1 hx]; show m + n ≤ 1024; omega)
      have hz5 := HM5.out.size
      have hz6 : (w5.drew.alloc (.cells #[.int .i64 m, .int .i64 n, .bool true] 120)).heap.size = w5.heap.size + 1 := World.size_alloc _ _
      simp only [World.size_alloc] at hz5
      have h2lo : ∀ k, (Value.slice A2 parts2.length c2).ownBlock = some k → k < w.heap.size := fun k hk => (H2.out.row.lt k hk).2
      refine ⟨rfl, ⟨u1, _, HD5.out.mod g2 (fun e => ?_) (fun k hk e => ?_), g1, fun k hk e => ?_⟩, HS5.out.mod g2 (fun e => ?_) (fun e => ?_) (fun e => ?_), (HMA.out.mono fun k _ e => .inr (.inl e)).trans ((HM5.out.mono fun k _ e => .inl e).trans (g2.mono fun k _ e => .inr (.inr e)))⟩
      · rcases e with e | e
        · exact hDE e
        · exact HU2D.out e
      · have h3 := HF1.out k hk
        rcases e with e | e
        · have := HEL.out; omega
        · have := h2lo k e; omega
      · have h3 := HF1.out k hk
        have h4 := (HL1.out k hk).2
        obtain rfl : g = k := by injection e
        rcases HA6.out with e | e
        · have := h2lo _ e; omega
        · have hz7 : (w5.alloc (.cells #[.int .i64 m, .int .i64 n, .bool true] 120)).drew.heap.size = w5.heap.size + 1 := World.size_alloc _ _
          omega
      · rcases e with e | e
        · exact (HFAR2.out _ (.inl rfl)).1 e
        · exact (HFAR2.out _ (.inl rfl)).2 e
      · rcases e with e | e
        · exact (HFAR2.out _ (.inr (.inl rfl))).1 e
        · exact (HFAR2.out _ (.inr (.inl rfl))).2 e
      · rcases e with e | e
        · exact (HFAR2.out _ (.inr (.inr rfl))).1 e
        · exact (HFAR2.out _ (.inr (.inr rfl))).2 e
end
end Go.Proofs.YtkaflgbipjppmaaDoor
