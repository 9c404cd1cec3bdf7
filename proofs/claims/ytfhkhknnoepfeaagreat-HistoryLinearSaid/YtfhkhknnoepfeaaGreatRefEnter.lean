/- Machines of deques and bits run no other machine. -/
import Derived.Test.YtfhkhknnoepfeaaGreatMgC
namespace Go.Proofs.YtfhkhknnoepfeaaGreat
open Go.RowKit
set_option linter.unusedVariables false
set_option linter.unusedSimpArgs false

def frm0 : List Value := [.int .i64 0, .int .i64 0, .int .i64 0, .int .i64 0, .int .i64 0, .int .i64 0, .int .i64 0, .int .i64 0, .int .i64 0, .int .i64 0, .int .i64 0, .int .i64 0, .int .i64 0, .int .u64 0, .int .u64 0, .int .u64 0, .int .u64 0, .slice none 0 0]

theorem infoFrm : (Tryz.prog.info? 115).map (·.size) = some 18 := by kernel_rfl

set_option maxRecDepth 100000 in
set_option maxHeartbeats 1000000 in
theorem enter_0 (w : World) (fb r : Nat) (hlt : fb < w.heap.size) (c0 : w.cell? ⟨fb, 0, none⟩ = some (.int .i64 0)) :
    Calls Tryz.prog 41 #[.pointer (some ⟨r, 0, none⟩), .pointer (some ⟨fb, 0, none⟩)] w fun e w' => e = .returned (.tuple #[.agg frm0.toArray, .bool false]) ∧ Only [] w w' := by
  go_enter Tryz.func41, Tryz.ntmps41
  go_wp2_with (with_reducible refine wpList_store_agg rfl 115 (.tmp 4) (.tmp 255) rfl w.heap.size frm0 rfl rfl 18 rfl frm0.toArray 115 (blk_alloc_new _ _) rfl infoFrm rfl ?_)
  intro w1 hst
  obtain ⟨o1, tb⟩ := hst
  have tb := tb _ _ (blk_alloc_new _ _) rfl
  have O1 : Hid (Only [] w w1) := Lib.hid (((Only.refl [] w).alloc _).thenN o1 (Nat.le_refl _))
  have RA := Lib.hid (rangeAt_blk tb)
  clear tb o1 c0
  go_wp2_with fail
  refine bodyPost_ret (v := .tuple #[.agg frm0.toArray, .bool false]) ?_ rfl ⟨rfl, O1.out⟩
  exact run_results_cell_tmp 4 5 115 Tryz.results41 rfl (run_loadVar_mid w1 w.heap.size 0 115 frm0 _ RA.out Tryz.underlying115 rfl infoFrm) rfl

set_option maxRecDepth 100000 in
set_option maxHeartbeats 1000000 in
theorem enter_1 (w : World) (fb r : Nat) (hlt : fb < w.heap.size) (c0 : w.cell? ⟨fb, 0, none⟩ = some (.int .i64 1)) :
    Calls Tryz.prog 41 #[.pointer (some ⟨r, 0, none⟩), .pointer (some ⟨fb, 0, none⟩)] w fun e w' => e = .returned (.tuple #[.agg frm0.toArray, .bool false]) ∧ Only [] w w' := by
  go_enter Tryz.func41, Tryz.ntmps41
  go_wp2_with (with_reducible refine wpList_store_agg rfl 115 (.tmp 4) (.tmp 255) rfl w.heap.size frm0 rfl rfl 18 rfl frm0.toArray 115 (blk_alloc_new _ _) rfl infoFrm rfl ?_)
  intro w1 hst
  obtain ⟨o1, tb⟩ := hst
  have tb := tb _ _ (blk_alloc_new _ _) rfl
  have O1 : Hid (Only [] w w1) := Lib.hid (((Only.refl [] w).alloc _).thenN o1 (Nat.le_refl _))
  have RA := Lib.hid (rangeAt_blk tb)
  clear tb o1 c0
  go_wp2_with fail
  refine bodyPost_ret (v := .tuple #[.agg frm0.toArray, .bool false]) ?_ rfl ⟨rfl, O1.out⟩
  exact run_results_cell_tmp 4 5 115 Tryz.results41 rfl (run_loadVar_mid w1 w.heap.size 0 115 frm0 _ RA.out Tryz.underlying115 rfl infoFrm) rfl

set_option maxRecDepth 100000 in
set_option maxHeartbeats 1000000 in
theorem enter_2 (w : World) (fb r : Nat) (hlt : fb < w.heap.size) (c0 : w.cell? ⟨fb, 0, none⟩ = some (.int .i64 2)) :
    Calls Tryz.prog 41 #[.pointer (some ⟨r, 0, none⟩), .pointer (some ⟨fb, 0, none⟩)] w fun e w' => e = .returned (.tuple #[.agg frm0.toArray, .bool false]) ∧ Only [] w w' := by
  go_enter Tryz.func41, Tryz.ntmps41
  go_wp2_with (with_reducible refine wpList_store_agg rfl 115 (.tmp 4) (.tmp 255) rfl w.heap.size frm0 rfl rfl 18 rfl frm0.toArray 115 (blk_alloc_new _ _) rfl infoFrm rfl ?_)
  intro w1 hst
  obtain ⟨o1, tb⟩ := hst
  have tb := tb _ _ (blk_alloc_new _ _) rfl
  have O1 : Hid (Only [] w w1) := Lib.hid (((Only.refl [] w).alloc _).thenN o1 (Nat.le_refl _))
  have RA := Lib.hid (rangeAt_blk tb)
  clear tb o1 c0
  go_wp2_with fail
  refine bodyPost_ret (v := .tuple #[.agg frm0.toArray, .bool false]) ?_ rfl ⟨rfl, O1.out⟩
  exact run_results_cell_tmp 4 5 115 Tryz.results41 rfl (run_loadVar_mid w1 w.heap.size 0 115 frm0 _ RA.out Tryz.underlying115 rfl infoFrm) rfl

set_option maxRecDepth 100000 in
set_option maxHeartbeats 1000000 in
theorem enter_3 (w : World) (fb r : Nat) (hlt : fb < w.heap.size) (c0 : w.cell? ⟨fb, 0, none⟩ = some (.int .i64 3)) :
    Calls Tryz.prog 41 #[.pointer (some ⟨r, 0, none⟩), .pointer (some ⟨fb, 0, none⟩)] w fun e w' => e = .returned (.tuple #[.agg frm0.toArray, .bool false]) ∧ Only [] w w' := by
  go_enter Tryz.func41, Tryz.ntmps41
  go_wp2_with (with_reducible refine wpList_store_agg rfl 115 (.tmp 4) (.tmp 255) rfl w.heap.size frm0 rfl rfl 18 rfl frm0.toArray 115 (blk_alloc_new _ _) rfl infoFrm rfl ?_)
  intro w1 hst
  obtain ⟨o1, tb⟩ := hst
  have tb := tb _ _ (blk_alloc_new _ _) rfl
  have O1 : Hid (Only [] w w1) := Lib.hid (((Only.refl [] w).alloc _).thenN o1 (Nat.le_refl _))
  have RA := Lib.hid (rangeAt_blk tb)
  clear tb o1 c0
  go_wp2_with fail
  refine bodyPost_ret (v := .tuple #[.agg frm0.toArray, .bool false]) ?_ rfl ⟨rfl, O1.out⟩
  exact run_results_cell_tmp 4 5 115 Tryz.results41 rfl (run_loadVar_mid w1 w.heap.size 0 115 frm0 _ RA.out Tryz.underlying115 rfl infoFrm) rfl

set_option maxRecDepth 100000 in
set_option maxHeartbeats 1000000 in
theorem enter_4 (w : World) (fb r : Nat) (hlt : fb < w.heap.size) (c0 : w.cell? ⟨fb, 0, none⟩ = some (.int .i64 4)) :
    Calls Tryz.prog 41 #[.pointer (some ⟨r, 0, none⟩), .pointer (some ⟨fb, 0, none⟩)] w fun e w' => e = .returned (.tuple #[.agg frm0.toArray, .bool false]) ∧ Only [] w w' := by
  go_enter Tryz.func41, Tryz.ntmps41
  go_wp2_with (with_reducible refine wpList_store_agg rfl 115 (.tmp 4) (.tmp 255) rfl w.heap.size frm0 rfl rfl 18 rfl frm0.toArray 115 (blk_alloc_new _ _) rfl infoFrm rfl ?_)
  intro w1 hst
  obtain ⟨o1, tb⟩ := hst
  have tb := tb _ _ (blk_alloc_new _ _) rfl
  have O1 : Hid (Only [] w w1) := Lib.hid (((Only.refl [] w).alloc _).thenN o1 (Nat.le_refl _))
  have RA := Lib.hid (rangeAt_blk tb)
  clear tb o1 c0
  go_wp2_with fail
  refine bodyPost_ret (v := .tuple #[.agg frm0.toArray, .bool false]) ?_ rfl ⟨rfl, O1.out⟩
  exact run_results_cell_tmp 4 5 115 Tryz.results41 rfl (run_loadVar_mid w1 w.heap.size 0 115 frm0 _ RA.out Tryz.underlying115 rfl infoFrm) rfl

theorem enter_any (w : World) (fb r : Nat) (k : K) (hk : k.kind ≤ 4) (hF : w.heap[fb]? = some (frmO k)) :
    Calls Tryz.prog 41 #[.pointer (some ⟨r, 0, none⟩), .pointer (some ⟨fb, 0, none⟩)] w fun e w' => e = .returned (.tuple #[.agg frm0.toArray, .bool false]) ∧ Only [] w w' := by
  have hlt := lt_of_blk hF
  have c0 := cell_blk hF 0
  simp [frmC] at c0
  rcases (show k.kind = 0 ∨ k.kind = 1 ∨ k.kind = 2 ∨ k.kind = 3 ∨ k.kind = 4 from by omega) with e | e | e | e | e
  · exact enter_0 w fb r hlt (by rw [c0, e]; rfl)
  · exact enter_1 w fb r hlt (by rw [c0, e]; rfl)
  · exact enter_2 w fb r hlt (by rw [c0, e]; rfl)
  · exact enter_3 w fb r hlt (by rw [c0, e]; rfl)
  · exact enter_4 w fb r hlt (by rw [c0, e]; rfl)

end Go.Proofs.YtfhkhknnoepfeaaGreat
