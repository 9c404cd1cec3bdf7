/- The sanity check of chapter 12, walked. (Written by wip/gen_bit.py.) -/
import Derived.Test.YtlklfpbimoolbaaGreatThfAwake
namespace Go.Proofs.YtlklfpbimoolbaaGreat
open Go.RowKit
set_option linter.unusedVariables false

theorem q0_clear (c : Nat) : -1 ≤ (q0 c).ring ∧ (q0 c).ring ≤ 1000000 := by simp [q0]
theorem aw12_0 : bareMS [0, 0, 0, 0] = ⟨[0, 0, 0, 0], 2, 3, 0, 0, 4⟩ := by kernel_rfl
theorem aw12_1 : alone 9 (newSet 3 5) ⟨[0, 0, 0, 0], 2, 3, 0, 0, 4⟩ = (0, 0, 1, ⟨[0, 0, 0, 32], 4, 3, 0, 32, 5⟩) := by kernel_rfl
theorem aw12_2 : alone 9 (newClear 3 5 (q0 1)) ⟨[0, 0, 0, 32], 4, 3, 0, 32, 5⟩ = (2, 0, 3, ⟨[0, 0, 0, 0], 1, 0, 0, 0, 8⟩) := by kernel_rfl
theorem aw12_3 : alone 9 (newClear 3 5 (q0 1)) ⟨[0, 1, 0, 0], 2, 1, 0, 1, 9⟩ = (1, 0, 4, ⟨[0, 1, 0, 32], 4, 3, 0, 32, 13⟩) := by kernel_rfl

set_option maxRecDepth 100000 in
set_option maxHeartbeats 2000000 in
theorem awake12_any (w : World) : Calls Tryz.prog 25 #[] w fun e w' => e = .returned (.bool true) ∧ Only [] w w' := by
  go_enter Tryz.func25, Tryz.ntmps25
  go_wp2_with fail
  refine (queue_any _ 1).mono ?_; rintro e u0 ⟨rfl, o0⟩
  simp only [Q4.v]
  have U0 := Lib.hid o0
  clear o0
  go_wp2_with fail
  obtain ⟨qb, hqb⟩ : ∃ qb, qb = u0.heap.size := ⟨_, rfl⟩
  obtain ⟨wq, hwq⟩ : ∃ wq, wq = (u0.alloc (.cells #[.int .i64 0, .int .i64 1, .int .i64 2, .int .i64 1] 27)).alloc (.cells #[.int .u64 0, .int .u64 0, .int .u64 0, .int .u64 0] 40) := ⟨_, rfl⟩
  rw [← hqb, ← hwq]
  have ow : Only [] u0 wq := by rw [hwq]; exact ((Only.refl _ _).alloc _).alloc _
  have QBq : Hid (wq.heap[qb]? = some (.cells #[.int .i64 0, .int .i64 1, .int .i64 2, .int .i64 1] 27 (0, 0))) := Lib.hid (by rw [hwq, hqb, blk_alloc_old (by simp)]; exact blk_alloc_new _ _)
  have CB : Hid (CellsAt wq (some ⟨qb + 1, 0, none⟩) (([0, 0, 0, 0] : List Int).map (.int .u64))) := Lib.hid (cellsAt_blk (by
    rw [hwq, hqb]
    have h := blk_alloc_new (u0.alloc (.cells #[.int .i64 0, .int .i64 1, .int .i64 2, .int .i64 1] 27)) (.cells #[.int .u64 0, .int .u64 0, .int .u64 0, .int .u64 0] 40)
    rw [show (u0.alloc (.cells #[.int .i64 0, .int .i64 1, .int .i64 2, .int .i64 1] 27)).heap.size = u0.heap.size + 1 from by simp] at h
    exact h))
  have Oq := Lib.hid (U0.out.then0 ow)
  have qlt := lt_of_blk QBq.out
  clear hwq hqb ow
  go_wp2_with fail
  refine (bare_any wq _ 4 4 [0, 0, 0, 0] CB.out rfl (by omega)).mono ?_; rintro e w2 ⟨en, m, bc, ck, r, rc, rfl, o2, hB, lo, hi'⟩
  have E0 : Hid (EnvAt w2 en m bc ck (bareMS [0, 0, 0, 0]) 0) := Lib.hid hB.ee
  have O0 := Lib.hid (Oq.out.then0 o2)
  have s2 := o2.size
  obtain ⟨lo1, lo2, lo3, lo4, lo5, lo6⟩ := lo
  obtain ⟨hi1, hi2, hi3, hi4, hi5, hi6⟩ := hi'
  have so := Oq.out.size
  have hb0 : bc < w2.heap.size := hi3
  rw [aw12_0] at E0
  have QX0 := Lib.hid (o2.keep QBq.out (by simp))
  have q2 : qb ≠ m ∧ qb ≠ bc := by omega
  clear o2 hB
  go_wp2_with fail
  refine (set_new _ 3 5).mono ?_; rintro e v1 ⟨p1, rfl, a1, b1, c1, d1⟩
  have X1 := Lib.hid (apart_new E0.out hb0 c1)
  have F1 := Lib.hid (E0.out.keep0 a1)
  have BB1 := Lib.hid b1
  have A1 := Lib.hid a1
  have z1 := a1.size
  have QA1 := Lib.hid (a1.keep QX0.out (by simp))
  clear a1 b1
  go_wp2_with fail
  refine (alone_is v1 p1 en m bc ck (newSet 3 5) _ 0 9 (by omega) 3 rfl rfl (newSet_ok 3 5) (by decide) F1.out X1.out.1 X1.out.2 BB1.out (by simp) aw12_1).mono ?_; rintro e x1 ⟨rfl, o1, e1⟩
  have E1 := Lib.hid e1
  have O1 : Hid (Only [] w x1) := Lib.hid ((O0.out.then0 A1.out).trans o1 (by have := O0.out.size; simp; omega))
  have y1 := o1.size
  have hb1 : bc < x1.heap.size := by omega
  have QX1 := Lib.hid (o1.keep QA1.out (by simp; omega))
  clear o1 e1
  have ql1 := lt_of_blk QX0.out
  have g0 := cell_blk QX1.out 0
  have g1 := cell_blk QX1.out 1
  have g2 := cell_blk QX1.out 2
  have g3 := cell_blk QX1.out 3
  simp at g0 g1 g2 g3
  go_wp2_with fail
  refine (clear_new _ 3 5 (q0 1)).mono ?_; rintro e v2 ⟨p2, rfl, a2, b2, c2, d2⟩
  have X2 := Lib.hid (apart_new E1.out hb1 c2)
  have F2 := Lib.hid (E1.out.keep0 a2)
  have BB2 := Lib.hid b2
  have A2 := Lib.hid a2
  have z2 := a2.size
  have QA2 := Lib.hid (a2.keep QX1.out (by simp))
  clear a2 b2
  go_wp2_with fail
  refine (alone_is v2 p2 en m bc ck (newClear 3 5 (q0 1)) _ 0 9 (by omega) 4 rfl rfl (newClear_ok 3 5 (q0 1) (q0_clear 1)) (by decide) F2.out X2.out.1 X2.out.2 BB2.out (by simp) aw12_2).mono ?_; rintro e x2 ⟨rfl, o2, e2⟩
  have E2 := Lib.hid e2
  have O2 : Hid (Only [] w x2) := Lib.hid ((O1.out.then0 A2.out).trans o2 (by have := O1.out.size; simp; omega))
  have y2 := o2.size
  have hb2 : bc < x2.heap.size := by omega
  have QX2 := Lib.hid (o2.keep QA2.out (by simp; omega))
  clear o2 e2
  have e22 := E2.out.mem
  clear g0 g1 g2 g3
  go_wp2_with fail
  refine (peek_any x2 m bc _ 3 E2.out.mm).mono ?_; rintro e x3 ⟨rfl, rfl⟩
  rw [show (⟨[0, 0, 0, 0], 1, 0, 0, 0, 8⟩ : MS).at 3 = 0 from by kernel_rfl]
  go_wp2_with fail
  refine (st_any x2 m bc _ 1 1 E2.out.mm (by simp)).mono ?_; rintro e x3 ⟨rfl, o3, h3⟩
  have h3' : MemAt x3 m bc ⟨[0, 1, 0, 0], 2, 1, 0, 1, 9⟩ := h3
  have E3 : Hid (EnvAt x3 en m bc ck ⟨[0, 1, 0, 0], 2, 1, 0, 1, 9⟩ 0) := Lib.hid ⟨o3.keep E2.out.e (by have := E2.out.em; have := E2.out.ec; simp; omega), o3.keep E2.out.c (by have := E2.out.km; have := E2.out.kc; simp; omega), h3', E2.out.em, E2.out.ec, E2.out.ek, E2.out.km, E2.out.kc⟩
  have O3 : Hid (Only [] w x3) := Lib.hid (O2.out.trans o3 (by simp; omega))
  have QX3 := Lib.hid (o3.keep QX2.out (by simp; omega))
  have y3 := o3.size
  have hb3 : bc < x3.heap.size := by omega
  clear o3 h3 h3' e22
  have g0 := cell_blk QX3.out 0
  have g1 := cell_blk QX3.out 1
  have g2 := cell_blk QX3.out 2
  have g3 := cell_blk QX3.out 3
  simp at g0 g1 g2 g3
  go_wp2_with fail
  refine (clear_new _ 3 5 (q0 1)).mono ?_; rintro e v4 ⟨p4, rfl, a4, b4, c4, d4⟩
  have X4 := Lib.hid (apart_new E3.out hb3 c4)
  have F4 := Lib.hid (E3.out.keep0 a4)
  have BB4 := Lib.hid b4
  have A4 := Lib.hid a4
  have z4 := a4.size
  have QA4 := Lib.hid (a4.keep QX3.out (by simp))
  clear a4 b4
  go_wp2_with fail
  refine (alone_is v4 p4 en m bc ck (newClear 3 5 (q0 1)) _ 0 9 (by omega) 4 rfl rfl (newClear_ok 3 5 (q0 1) (q0_clear 1)) (by decide) F4.out X4.out.1 X4.out.2 BB4.out (by simp) aw12_3).mono ?_; rintro e x4 ⟨rfl, o4, e4⟩
  have E4 := Lib.hid e4
  have O4 : Hid (Only [] w x4) := Lib.hid ((O3.out.then0 A4.out).trans o4 (by have := O3.out.size; simp; omega))
  have y4 := o4.size
  have hb4 : bc < x4.heap.size := by omega
  have QX4 := Lib.hid (o4.keep QA4.out (by simp; omega))
  clear o4 e4
  have e22 := E4.out.mem
  clear g0 g1 g2 g3
  go_wp2_with fail
  refine (peek_any x4 m bc _ 3 E4.out.mm).mono ?_; rintro e x5 ⟨rfl, rfl⟩
  rw [show (⟨[0, 1, 0, 32], 4, 3, 0, 32, 13⟩ : MS).at 3 = 32 from by kernel_rfl]
  go_wp2_with fail
  go_ret
  exact ⟨rfl, O4.out⟩
end Go.Proofs.YtlklfpbimoolbaaGreat
