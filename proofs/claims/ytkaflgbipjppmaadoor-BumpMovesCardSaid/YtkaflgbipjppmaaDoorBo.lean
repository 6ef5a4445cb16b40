/- other, find; Join, Hand, Drop, Clear where they do nothing: walks. -/
import Derived.Test.YtkaflgbipjppmaaDoorAl9
import Derived.Laws.ResultCell
import Derived.LaidEqlPtr
import Derived.Lib.Builder
namespace Go.Proofs.YtkaflgbipjppmaaDoor
open Go.RowKit
set_option linter.unusedVariables false
set_option linter.unusedSimpArgs false
variable {w w' : World} {B B2 Wb Ob p q size Pb Qb bd at_ end_ at2 end2 : Nat} {W own : List Int} {v v2 : Value} {parts parts2 : List (Nat × Nat)} {ow ow2 : Int}
theorem sz_space : (Tryd.prog.info? 91).map (·.size) = some 5 := by kernel_rfl
theorem sz_store : (Tryd.prog.info? 96).map (fun i => i.size != 0) = some true := by kernel_rfl
theorem und_space : Tryd.prog.underlying 24 = some (.pointer 91) := by kernel_rfl
theorem und_store : Tryd.prog.underlying 23 = some (.pointer 96) := by kernel_rfl
theorem eql_space_same (Pb : Nat) (w : World) : (Go.binOp .eql 24 (.pointer (some ⟨Pb, 0, none⟩)) (.pointer (some ⟨Pb, 0, none⟩))).run Tryd.prog w = .ok (.bool true) w := by
  obtain ⟨j, hj, hjs⟩ := Option.map_eq_some_iff.1 sz_space
  exact run_eql_ptr_same w _ und_space hj
theorem eql_space_other {Pb Qb : Nat} {w : World} {ca cb : Array Value} {ta tb : TypeId} (hne : Pb ≠ Qb) (ha : w.heap[Pb]? = some (.cells ca ta (0, 0))) (hb : w.heap[Qb]? = some (.cells cb tb (0, 0))) : (Go.binOp .eql 24 (.pointer (some ⟨Pb, 0, none⟩)) (.pointer (some ⟨Qb, 0, none⟩))).run Tryd.prog w = .ok (.bool false) w := by
  obtain ⟨j, hj, hjs⟩ := Option.map_eq_some_iff.1 sz_space
  exact run_eql_ptr_other w und_space hj (by rw [hjs]; decide) (fun e => hne (by injection e)) ha hb
theorem neq_store_same (Pb : Nat) (w : World) : (Go.binOp .neq 23 (.pointer (some ⟨Pb, 0, none⟩)) (.pointer (some ⟨Pb, 0, none⟩))).run Tryd.prog w = .ok (.bool false) w := by
  obtain ⟨j, hj, hjs⟩ := Option.map_eq_some_iff.1 sz_store
  exact Lib.run_neq_ptr_same w _ und_store hj
theorem neq_store_other {Pb Qb : Nat} {w : World} {ca cb : Array Value} {ta tb : TypeId} (hne : Pb ≠ Qb) (ha : w.heap[Pb]? = some (.cells ca ta (0, 0))) (hb : w.heap[Qb]? = some (.cells cb tb (0, 0))) : (Go.binOp .neq 23 (.pointer (some ⟨Pb, 0, none⟩)) (.pointer (some ⟨Qb, 0, none⟩))).run Tryd.prog w = .ok (.bool true) w := by
  obtain ⟨j, hj, hjs⟩ := Option.map_eq_some_iff.1 sz_store
  have hsz : j.size ≠ 0 := by simpa using hjs
  have h : ∀ d : Nat, (Op.equalIn (d + 1) 23 (.pointer (some ⟨Pb, 0, none⟩)) (.pointer (some ⟨Qb, 0, none⟩))).run Tryd.prog w = .ok false w := fun d => by
    simp [Op.equalIn, run_underlying und_store, sizeOf, typeInfo, hj, hsz, run_sameAddr_other w (a := ⟨Pb, 0, none⟩) (b := ⟨Qb, 0, none⟩) (fun e => hne (by injection e)) ha hb]
  simp only [Go.binOp]
  simp [Op.equal, Op.maxDepth, h 9999]
theorem other_none (o : Value) (w : World) : Calls Tryd.prog 70 #[.pointer none, o] w fun e w' => e = .returned (.int .i64 1) ∧ w = w' := by
  go_enter Tryd.func70, Tryd.ntmps70
  go_wp2
  go_ret
  exact ⟨rfl, rfl⟩
theorem other_nil (Pb : Nat) (w : World) : Calls Tryd.prog 70 #[.pointer (some ⟨Pb, 0, none⟩), .pointer none] w fun e w' => e = .returned (.int .i64 2) ∧ Below w.heap.size w w' := by
  go_enter Tryd.func70, Tryd.ntmps70
  go_wp2_with fail
  go_quiet (fail)
  go_wp2
  go_ret
  exact ⟨rfl, below_drewN (Below.refl _ _) _⟩
theorem other_self (Pb : Nat) (w : World) : Calls Tryd.prog 70 #[.pointer (some ⟨Pb, 0, none⟩), .pointer (some ⟨Pb, 0, none⟩)] w fun e w' => e = .returned (.int .i64 2) ∧ Below w.heap.size w w' := by
  have q1 := eql_space_same Pb
  go_enter Tryd.func70, Tryd.ntmps70
  go_wp2_with fail
  go_quiet (fail)
  go_wp2
  go_ret
  exact ⟨rfl, below_drewN (Below.refl _ _) _⟩
theorem other_far (h : SpaceAt w Pb B bd ow v parts at_ end_) (h2 : SpaceAt w Qb B2 bd ow2 v2 parts2 at2 end2) {ca cb : Array Value} {ta tb : TypeId} (hne : Pb ≠ Qb) (hB : B ≠ B2) (hs1 : w.heap[B]? = some (.cells ca ta (0, 0))) (hs2 : w.heap[B2]? = some (.cells cb tb (0, 0))) : Calls Tryd.prog 70 #[.pointer (some ⟨Pb, 0, none⟩), .pointer (some ⟨Qb, 0, none⟩)] w fun e w' => e = .returned (.int .i64 2) ∧ Below w.heap.size w w' := by
  have c0 := h.c0
  have d0 := h2.c0
  have q1 : ∀ n, (Go.binOp .eql 24 (.pointer (some ⟨Qb, 0, none⟩)) (.pointer (some ⟨Pb, 0, none⟩))).run Tryd.prog (w.drewN n) = .ok (.bool false) (w.drewN n) := fun n => eql_space_other (fun e => hne e.symm) h2.head h.head
  have q2 : ∀ n, (Go.binOp .neq 23 (.pointer (some ⟨B2, 0, none⟩)) (.pointer (some ⟨B, 0, none⟩))).run Tryd.prog (w.drewN n) = .ok (.bool true) (w.drewN n) := fun n => neq_store_other (fun e => hB e.symm) hs2 hs1
  clear h h2 hne hB hs1 hs2
  go_enter Tryd.func70, Tryd.ntmps70
  go_wp2_with fail
  go_quiet (fail)
  go_wp2
  go_ret
  exact ⟨rfl, below_drewN (Below.refl _ _) _⟩
theorem other_ok (h : SpaceAt w Pb B bd ow v parts at_ end_) (h2 : SpaceAt w Qb B bd ow2 v2 parts2 at2 end2) (hne : Pb ≠ Qb) : Calls Tryd.prog 70 #[.pointer (some ⟨Pb, 0, none⟩), .pointer (some ⟨Qb, 0, none⟩)] w fun e w' => e = .returned (.int .i64 0) ∧ Below w.heap.size w w' := by
  have c0 := h.c0
  have d0 := h2.c0
  have q1 : ∀ n, (Go.binOp .eql 24 (.pointer (some ⟨Qb, 0, none⟩)) (.pointer (some ⟨Pb, 0, none⟩))).run Tryd.prog (w.drewN n) = .ok (.bool false) (w.drewN n) := fun n => eql_space_other (fun e => hne e.symm) h2.head h.head
  have q2 := neq_store_same B
  clear h h2 hne
  go_enter Tryd.func70, Tryd.ntmps70
  go_wp2_with fail
  go_quiet (fail)
  go_wp2
  go_ret
  exact ⟨rfl, below_drewN (Below.refl _ _) _⟩
theorem join_none (o : Value) (w : World) : Calls Tryd.prog 43 #[.pointer none, o] w fun e w' => e = .returned (.int .i64 1) ∧ w = w' := by
  go_enter Tryd.func43, Tryd.ntmps43
  go_wp2_with fail
  refine (other_none _ _).mono ?_
  rintro e w1 ⟨rfl, rfl⟩
  go_wp2
  go_ret
  exact ⟨rfl, rfl⟩
theorem hand_none (o : Value) (f : Int) (w : World) : Calls Tryd.prog 44 #[.pointer none, o, .int .i64 f] w fun e w' => e = .returned (.int .i64 1) ∧ w = w' := by
  go_enter Tryd.func44, Tryd.ntmps44
  go_wp2_with fail
  refine (other_none _ _).mono ?_
  rintro e w1 ⟨rfl, rfl⟩
  go_wp2
  go_ret
  exact ⟨rfl, rfl⟩
theorem drop_none (f : Int) (w : World) : Calls Tryd.prog 34 #[.pointer none, .int .i64 f] w fun e w' => e = .returned (.int .i64 1) ∧ w = w' := by
  go_enter Tryd.func34, Tryd.ntmps34
  go_wp2
  go_ret
  exact ⟨rfl, rfl⟩
theorem clear_none (w : World) : Calls Tryd.prog 41 #[.pointer none] w fun e w' => e = .returned (.tuple #[]) ∧ w = w' := by
  go_enter Tryd.func41, Tryd.ntmps41
  go_wp2_with fail
  refine (chunks_nil _).mono ?_
  rintro e w1 ⟨rfl, rfl⟩
  go_wp2
  go_loopw [7] (fun v7 wr => v7 = .int .i64 0 ∧ wr = w) (fun _ _ => 0)
  case atStart => exact ⟨rfl, rfl⟩
  case round =>
    obtain ⟨rfl, rfl⟩ := hrel
    go_wp2
    exact bodyPost_end (results_none rfl _ _ _) rfl ⟨rfl, rfl⟩
theorem alloc_none (n : Int) (w : World) : Calls Tryd.prog 18 #[.pointer none, .int .i64 n] w fun e w' => e = .returned (.tuple #[.int .i64 0, .int .i64 1]) ∧ w = w' := by
  go_enter Tryd.func18, Tryd.ntmps18
  go_wp2
  go_ret2
  exact ⟨rfl, rfl⟩
theorem join_bad {x o : Value} (h : Calls Tryd.prog 70 #[x, o] w fun e w' => e = .returned (.int .i64 2) ∧ Below w.heap.size w w') : Calls Tryd.prog 43 #[x, o] w fun e w' => e = .returned (.int .i64 2) ∧ Below w.heap.size w w' := by
  have H := Lib.hid h
  clear h
  go_enter Tryd.func43, Tryd.ntmps43
  go_wp2_with fail
  refine H.out.mono ?_
  rintro e w1 ⟨rfl, hb⟩
  go_wp2
  go_ret
  exact ⟨rfl, hb⟩
theorem hand_bad {x o : Value} (f : Int) (h : Calls Tryd.prog 70 #[x, o] w fun e w' => e = .returned (.int .i64 2) ∧ Below w.heap.size w w') : Calls Tryd.prog 44 #[x, o, .int .i64 f] w fun e w' => e = .returned (.int .i64 2) ∧ Below w.heap.size w w' := by
  have H := Lib.hid h
  clear h
  go_enter Tryd.func44, Tryd.ntmps44
  go_wp2_with fail
  refine H.out.mono ?_
  rintro e w1 ⟨rfl, hb⟩
  go_wp2
  go_ret
  exact ⟨rfl, hb⟩
/-- find where there are no parts. -/
theorem find_empty (h : SpaceAt w Pb B bd ow (.slice none 0 0) [] at_ end_) (f : Int) : Calls Tryd.prog 61 #[.pointer (some ⟨Pb, 0, none⟩), .int .i64 f] w fun e w' => e = .returned (.tuple #[.agg #[.int .i64 0, .int .i64 0], .bool false]) ∧ Below w.heap.size w w' := by
  have hb := below1 w (.cells #[.int .i64 0, .int .i64 0] 93)
  have hk := heap_alloc_new w (.cells #[.int .i64 0, .int .i64 0] 93)
  have t0 := blk_thaw hk 0
  have t1 := blk_thaw hk 1
  have hh := block_lt h.head
  have c2 : (w.alloc (.cells #[.int .i64 0, .int .i64 0] 93)).cell? ⟨Pb, 2, none⟩ = some (.slice none 0 0) := (h.on hb).c2
  have HB := Lib.hid hb
  have HK := Lib.hid hk
  clear h hb hk
  go_enter Tryd.func61, Tryd.ntmps61
  go_wp2
  go_loopw [13] (fun v13 wr => v13 = .int .i64 0 ∧ wr = w.alloc (.cells #[.int .i64 0, .int .i64 0] 93)) (fun _ _ => 0)
  case atStart => exact ⟨rfl, rfl⟩
  case round =>
    obtain ⟨rfl, rfl⟩ := hrel
    go_wp2
    have hX := HK.out
    have x0 := (blk_cells hX 0).trans rfl
    have x1 := (blk_cells hX 1).trans rfl
    refine bodyPost_ret (v := .tuple #[.agg #[.int .i64 0, .int .i64 0], .bool false]) ?_ rfl ⟨rfl, HB.out⟩
    rw [results_cell_tmp rfl]
    go_simp
    try rfl
theorem hand_empty (h : SpaceAt w Pb B bd ow (.slice none 0 0) [] at_ end_) (h2 : SpaceAt w Qb B bd ow2 v2 parts2 at2 end2) (hne : Pb ≠ Qb) (f : Int) : Calls Tryd.prog 44 #[.pointer (some ⟨Pb, 0, none⟩), .pointer (some ⟨Qb, 0, none⟩), .int .i64 f] w fun e w' => e = .returned (.int .i64 6) ∧ Below w.heap.size w w' := by
  have H := Lib.hid (other_ok h h2 hne)
  have HF := Lib.hid h
  clear h h2 hne
  go_enter Tryd.func44, Tryd.ntmps44
  go_wp2_with fail
  refine H.out.mono ?_
  rintro e w1 ⟨rfl, hb⟩
  have HE := Lib.hid (find_empty (HF.out.on hb) f)
  have HB := Lib.hid hb
  clear hb
  go_wp2_with fail
  refine HE.out.mono ?_
  rintro e w2 ⟨rfl, hb2⟩
  have HB2 : Hid (Below w.heap.size w w2) := Lib.hid (HB.out.on hb2)
  clear hb2
  go_wp2
  go_ret
  exact ⟨rfl, HB2.out.on (below1 _ _)⟩
theorem drop_empty (h : SpaceAt w Pb B bd ow (.slice none 0 0) [] at_ end_) (f : Int) : Calls Tryd.prog 34 #[.pointer (some ⟨Pb, 0, none⟩), .int .i64 f] w fun e w' => e = .returned (.int .i64 6) ∧ Below w.heap.size w w' := by
  have HE := Lib.hid (find_empty h f)
  clear h
  go_enter Tryd.func34, Tryd.ntmps34
  go_wp2_with fail
  refine HE.out.mono ?_
  rintro e w2 ⟨rfl, hb2⟩
  have HB2 := Lib.hid hb2
  clear hb2
  go_wp2
  go_ret
  exact ⟨rfl, HB2.out.on (below1 _ _)⟩
end Go.Proofs.YtkaflgbipjppmaaDoor
