/- WordsEarlier: keys are ordered as their numbers are. -/
import Derived.Test.YtdbbnoffoaldfaaDoorLawLaidE
import Derived.Test.YtdbbnoffoaldfaaDoorLawArr
import Derived.ChangeKeysEq
namespace Go.Proofs.YtdbbnoffoaldfaaDoor
open Go.ChangeShapes Go.WideShapes Go.ChangeAt Go.RowKit
set_option linter.unusedVariables false

/-- A number as the law reduces it. -/
def redI (x n : Int) : Int := x.tmod n % n
theorem redI_bd (x : Int) {n : Int} (h : 0 < n) : 0 ≤ redI x n ∧ redI x n < n := ⟨Int.emod_nonneg _ (by omega), Int.emod_lt_of_pos _ h⟩

theorem info3 : ∃ i : TypeInfo, Tryd.prog.info? 3 = some i := by
  obtain ⟨i, h, _⟩ := info_parts (show (Tryd.prog.info? 3).map (fun i => (i.zero, i.size, i.bytes)) = some (some (.int .i64 0), 1, 8) by kernel_rfl)
  exact ⟨i, h⟩
theorem eq3 (w : World) (a b c d e f : Int) : (Op.equalIn 10000 22 (.agg #[.int .i64 a, .int .i64 b, .int .i64 c]) (.agg #[.int .i64 d, .int .i64 e, .int .i64 f])).run Tryd.prog w = .ok (decide (a = d ∧ b = e ∧ c = f)) w := by
  obtain ⟨i, hi⟩ := info3
  rw [run_equalIn_array w 9999 _ _ Tryd.underlying22 hi]
  have hc : Tryd.prog.cellsOf 3 = 1 := by kernel_rfl
  have q := fun (x y : Int) (w : World) => run_equalIn_int (P := Tryd.prog) w 9998 3 .i64 .i64 x y Tryd.underlying3
  have e3 : List.range 3 = [0, 1, 2] := rfl
  rw [hc, e3]
  simp only [Op.eqItems, Sem.run_bind]
  simp [part, isAgg, run_underlying Tryd.underlying3, q]
  by_cases h1 : a = d
  · by_cases h2 : b = e
    · by_cases h3 : c = f
      · simp [h1, h2, h3]
      · simp [h1, h2, h3]
    · simp [h1, h2]
  · simp [h1]

/-- The three numbers, of which the first i have been reduced. -/
def rowE (i : Nat) (x0 x1 x2 : Int) : Obj := .cells #[.int .i64 (if 0 < i then redI x0 16777216 else x0), .int .i64 (if 1 < i then redI x1 16777216 else x1), .int .i64 (if 2 < i then redI x2 65536 else x2)] 22 (0, 0)

set_option maxRecDepth 100000 in
set_option maxHeartbeats 1600000 in
theorem WordsEarlier_any (w : World) (xs : List Int) (hx : xs.length = 3) (ys : List Int) (hy : ys.length = 3) (hT : TabAt w) :
    Calls Tryd.prog 3 #[.agg (xs.map (.int .i64)).toArray, .agg (ys.map (.int .i64)).toArray] w fun e w' => e = .returned (.bool true) ∧ Only [] w w' := by
  obtain ⟨x0, x1, x2, rfl⟩ : ∃ a b c, xs = [a, b, c] := by match xs, hx with | [a, b, c], _ => exact ⟨a, b, c, rfl⟩
  obtain ⟨y0, y1, y2, rfl⟩ : ∃ a b c, ys = [a, b, c] := by match ys, hy with | [a, b, c], _ => exact ⟨a, b, c, rfl⟩
  simp only [List.map_cons, List.map_nil]
  have HT := Lib.hid hT
  clear hT hx hy
  go_enter Tryd.func3, Tryd.ntmps3
  go_wp2_with fail
  go_loopw [5] (fun vi wr => ∃ i : Nat, vi = .int .i64 i ∧ i ≤ 3 ∧ wr.heap[w.heap.size]? = some (rowE i x0 x1 x2) ∧ wr.heap[w.heap.size + 1]? = some (rowE i y0 y1 y2) ∧ Only [] w wr) (fun i _ => 3 - (intOf i).toNat)
  case atStart =>
    refine ⟨0, rfl, by omega, ?_, ?_, ((Only.refl [] w).alloc _).alloc _⟩
    · rw [blk_alloc_old (by simp)]; exact blk_alloc_new _ _
    · have := blk_alloc_new (w.alloc (rowE 0 x0 x1 x2)) (rowE 0 y0 y1 y2)
      rwa [show (w.alloc (rowE 0 x0 x1 x2)).heap.size = w.heap.size + 1 from by simp] at this
  case round =>
    obtain ⟨i, rfl, hi, hA, hB, hO⟩ := hrel
    have a0 := cell_blk hA 0
    have a1 := cell_blk hA 1
    have a2 := cell_blk hA 2
    have b0 := cell_blk hB 0
    have b1 := cell_blk hB 1
    have b2 := cell_blk hB 2
    have fa := free_blk hA
    have fb := free_blk hB
    have HA := Lib.hid hA
    have HB := Lib.hid hB
    have HO := Lib.hid hO
    clear hA hB hO
    rcases (show i = 0 ∨ i = 1 ∨ i = 2 ∨ i = 3 from by omega) with rfl | rfl | rfl | rfl
    · simp at a0 b0
      have fa := fa 0
      have fb := fb 0
      have t1 := tmod_bd x0 (n := 16777216) (by omega)
      have t2 := tmod_bd y0 (n := 16777216) (by omega)
      clear a1 a2 b1 b2
      go_wp2_with fail
      go_region
      go_wp2_with fail
      go_roundw
      case rel =>
        refine ⟨1, by go_num, by omega, ?_, ?_, ((HO.out.setCell (.inr (Nat.le_refl _)) _).setCell (.inr (by simp)) _).drew⟩
        · rw [heap_drew, blk_setCell_ne (by simp)]
          have := blk_setCell HA.out 0 (.int .i64 (redI x0 16777216))
          exact Eq.trans this (by simp [rowE])
        · have h1 : (wr.setCell ⟨w.heap.size, 0, none⟩ (.int .i64 (redI x0 16777216))).heap[w.heap.size + 1]? = some (rowE 0 y0 y1 y2) := by rw [blk_setCell_ne (by simp)]; exact HB.out
          have := blk_setCell h1 0 (.int .i64 (redI y0 16777216))
          exact Eq.trans this (by simp [rowE])
      case measure => simp [intOf]
    · simp at a1 b1
      have fa := fa 1
      have fb := fb 1
      have t1 := tmod_bd x1 (n := 16777216) (by omega)
      have t2 := tmod_bd y1 (n := 16777216) (by omega)
      clear a0 a2 b0 b2
      go_wp2_with fail
      go_region
      go_wp2_with fail
      go_roundw
      case rel =>
        refine ⟨2, by go_num, by omega, ?_, ?_, ((HO.out.setCell (.inr (Nat.le_refl _)) _).setCell (.inr (by simp)) _).drew⟩
        · rw [heap_drew, blk_setCell_ne (by simp)]
          have := blk_setCell HA.out 1 (.int .i64 (redI x1 16777216))
          exact Eq.trans this (by simp [rowE])
        · have h1 : (wr.setCell ⟨w.heap.size, 1, none⟩ (.int .i64 (redI x1 16777216))).heap[w.heap.size + 1]? = some (rowE 1 y0 y1 y2) := by rw [blk_setCell_ne (by simp)]; exact HB.out
          have := blk_setCell h1 1 (.int .i64 (redI y1 16777216))
          exact Eq.trans this (by simp [rowE])
      case measure => simp [intOf]
    · simp at a2 b2
      have fa := fa 2
      have fb := fb 2
      have t1 := tmod_bd x2 (n := 65536) (by omega)
      have t2 := tmod_bd y2 (n := 65536) (by omega)
      clear a0 a1 b0 b1
      go_wp2_with fail
      go_region
      go_wp2_with fail
      go_roundw
      case rel =>
        refine ⟨3, by go_num, by omega, ?_, ?_, ((HO.out.setCell (.inr (Nat.le_refl _)) _).setCell (.inr (by simp)) _).drew⟩
        · rw [heap_drew, blk_setCell_ne (by simp)]
          have := blk_setCell HA.out 2 (.int .i64 (redI x2 65536))
          exact Eq.trans this (by simp [rowE])
        · have h1 : (wr.setCell ⟨w.heap.size, 2, none⟩ (.int .i64 (redI x2 65536))).heap[w.heap.size + 1]? = some (rowE 2 y0 y1 y2) := by rw [blk_setCell_ne (by simp)]; exact HB.out
          have := blk_setCell h1 2 (.int .i64 (redI y2 65536))
          exact Eq.trans this (by simp [rowE])
      case measure => simp [intOf]
    · simp [rowE] at a0 a1 a2 b0 b1 b2
      have p0 := redI_bd x0 (n := 16777216) (by omega)
      have p1 := redI_bd x1 (n := 16777216) (by omega)
      have p2 := redI_bd x2 (n := 65536) (by omega)
      have q0 := redI_bd y0 (n := 16777216) (by omega)
      have q1 := redI_bd y1 (n := 16777216) (by omega)
      have q2 := redI_bd y2 (n := 65536) (by omega)
      generalize redI x0 16777216 = X0 at a0 p0
      generalize redI x1 16777216 = X1 at a1 p1
      generalize redI x2 65536 = X2 at a2 p2
      generalize redI y0 16777216 = Y0 at b0 q0
      generalize redI y1 16777216 = Y1 at b1 q1
      generalize redI y2 65536 = Y2 at b2 q2
      have PX := Lib.hid (pack_any X0 X1 X2 wr (by unfold PackOk; omega))
      have PY := Lib.hid (pack_any Y0 Y1 Y2 wr (by unfold PackOk; omega))
      have AW := Lib.hid (awake_any wr (HT.out.keep HO.out))
      obtain ⟨kx, hkx⟩ : ∃ z, z = packI X0 X1 X2 := ⟨_, rfl⟩
      obtain ⟨ky, hky⟩ : ∃ z, z = packI Y0 Y1 Y2 := ⟨_, rfl⟩
      rw [← hkx] at PX
      rw [← hky] at PY
      have HX := Lib.hid (show kx = X0 * 1099511627776 + X1 * 65536 + X2 from hkx)
      have HY := Lib.hid (show ky = Y0 * 1099511627776 + Y1 * 65536 + Y2 from hky)
      have HP := Lib.hid (And.intro p0 (And.intro p1 (And.intro p2 (And.intro q0 (And.intro q1 q2)))))
      clear hkx hky fa fb HA HB p0 p1 p2 q0 q1 q2 hi HT
      have three : Hid ((X0 < Y0 ∧ ¬ X0 = Y0 ∧ kx < ky ∧ ¬ kx = ky) ∨ (Y0 < X0 ∧ ¬ X0 = Y0 ∧ ¬ kx < ky ∧ ¬ kx = ky) ∨ (X0 = Y0 ∧ X1 < Y1 ∧ ¬ X1 = Y1 ∧ kx < ky ∧ ¬ kx = ky) ∨ (X0 = Y0 ∧ Y1 < X1 ∧ ¬ X1 = Y1 ∧ ¬ kx < ky ∧ ¬ kx = ky) ∨ (X0 = Y0 ∧ X1 = Y1 ∧ X2 < Y2 ∧ ¬ X2 = Y2 ∧ kx < ky ∧ ¬ kx = ky) ∨ (X0 = Y0 ∧ X1 = Y1 ∧ Y2 < X2 ∧ ¬ X2 = Y2 ∧ ¬ kx < ky ∧ ¬ kx = ky) ∨ (X0 = Y0 ∧ X1 = Y1 ∧ X2 = Y2 ∧ ¬ kx < ky ∧ kx = ky)) := Lib.hid (by
        have := HX.out
        have := HY.out
        have := HP.out
        omega)
      clear HX HY HP
      go_wp2_with fail
      refine PX.out.mono ?_; rintro e w1 ⟨rfl, rfl⟩
      go_wp2_with fail
      refine PY.out.mono ?_; rintro e w1 ⟨rfl, rfl⟩
      clear PX PY
      rcases three.out with ⟨h0, h1, h8, h9⟩ | ⟨h0, h1, h8, h9⟩ | ⟨rfl, h2, h3, h8, h9⟩ | ⟨rfl, h2, h3, h8, h9⟩ | ⟨rfl, rfl, h4, h5, h8, h9⟩ | ⟨rfl, rfl, h4, h5, h8, h9⟩ | ⟨rfl, rfl, rfl, h8, rfl⟩
      all_goals
        clear three
        go_wp2_with fail
        refine AW.out.mono ?_; rintro e w1 ⟨rfl, rfl⟩
        clear AW
        have EQ := eq3 wr
        go_wp2_with fail
        go_ret
        exact ⟨ret_bool (by simp [*]), HO.out⟩
end Go.Proofs.YtdbbnoffoaldfaaDoor
