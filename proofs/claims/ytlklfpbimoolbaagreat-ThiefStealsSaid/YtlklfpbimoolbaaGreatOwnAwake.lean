/- The sanity check of chapter 9, walked. (Written by wip/gen_law09.py.) -/
import Derived.Test.YtlklfpbimoolbaaGreatAlone
import Derived.Test.YtlklfpbimoolbaaGreatDqStart
namespace Go.Proofs.YtlklfpbimoolbaaGreat
open Go.RowKit
set_option linter.unusedVariables false

theorem apart_new {w : World} {p en m bc ck : Nat} {s : MS} {now : Int} (h : EnvAt w en m bc ck s now) (hb : bc < w.heap.size) (hp : w.heap.size ≤ p) : Apart p en m bc ∧ ck ≠ p := by
  have h1 := lt_of_blk h.e
  have h2 := lt_of_blk h.c
  have h3 := h.mm.lt
  exact ⟨⟨by omega, by omega, by omega, h.em, h.ec⟩, by omega⟩

instance (s : MS) : Decidable s.ok := inferInstanceAs (Decidable (∀ x ∈ s.cells, 0 ≤ x ∧ x ≤ 18446744073709551615))

theorem alone_is (w : World) (p en m bc ck : Nat) (k : K) (s : MS) (now : Int) (most : Nat) (hm : most ≤ 1000) (kd : Nat) (hkd : k.kind = kd) (ho : k.over = false) (hok : k.ok) (hs : s.ok) (hE : EnvAt w en m bc ck s now) (hA : Apart p en m bc) (hck : ck ≠ p)
    (hP : w.heap[p]? = some (machO k)) (hn : s.count ≤ 3000000000000000000) {c v : Int} {n : Nat} {s' : MS} (h : alone most k s = (c, v, n, s')) (hkd4 : kd ≤ 4 := by omega) :
    Calls Tryz.prog 42 #[.pointer (some ⟨en, 0, none⟩), ifc kd p, .int .i64 most] w fun e w' => e = .returned (.tuple #[.int .i64 c, .int .i64 v, .int .i64 n]) ∧ Only [p, m, bc] w w' ∧ EnvAt w' en m bc ck s' now := by
  subst hkd
  have := alone_any w p en m bc ck k s now most hm hkd4 ho hok hs hE hA hck hP hn
  rw [h] at this
  exact this

theorem aw09_1 : alone 20 (newPush (q0 2) 5) ⟨zeros 4, 0, 0, 0, 0, 0⟩ = (0, 0, 4, ⟨[0, 1, 5, 0], 2, 1, 0, 1, 4⟩) := by kernel_rfl
theorem aw09_2 : alone 20 (newPush (q0 2) 6) ⟨[0, 1, 5, 0], 2, 1, 0, 1, 4⟩ = (0, 0, 4, ⟨[0, 2, 5, 6], 2, 1, 1, 2, 8⟩) := by kernel_rfl
theorem aw09_3 : alone 20 (newPush (q0 2) 7) ⟨[0, 2, 5, 6], 2, 1, 1, 2, 8⟩ = (3, 0, 2, ⟨[0, 2, 5, 6], 1, 0, 0, 0, 10⟩) := by kernel_rfl
theorem aw09_4 : alone 20 (newPop (q0 2)) ⟨[0, 2, 5, 6], 1, 0, 0, 0, 10⟩ = (1, 6, 5, ⟨[0, 1, 5, 6], 1, 3, 6, 6, 15⟩) := by kernel_rfl
theorem aw09_5 : alone 20 (newPop (q0 2)) ⟨[0, 1, 5, 6], 1, 3, 6, 6, 15⟩ = (1, 5, 7, ⟨[1, 1, 5, 6], 1, 2, 5, 5, 22⟩) := by kernel_rfl
theorem aw09_6 : alone 20 (newPop (q0 2)) ⟨[1, 1, 5, 6], 1, 2, 5, 5, 22⟩ = (2, 0, 2, ⟨[1, 1, 5, 6], 1, 0, 1, 1, 24⟩) := by kernel_rfl

set_option maxRecDepth 100000 in
set_option maxHeartbeats 2000000 in
theorem awake09_any (w : World) : Calls Tryz.prog 15 #[] w fun e w' => e = .returned (.bool true) ∧ Only [] w w' := by
  go_enter Tryz.func15, Tryz.ntmps15
  go_wp2_with fail
  refine (machBare_any _ 4 4 rfl (by omega)).mono ?_; rintro e w0 ⟨en, m, bc, ck, rfl, o0, e0, l1, l2, l3, l4, l5, l6, l7, l8⟩
  have O0 := Lib.hid o0
  have E0' := Lib.hid e0
  have e22 := e0.mem
  clear o0 e0
  go_wp2_with fail
  refine (queue_any _ 2).mono ?_; rintro e u0 ⟨rfl, o0⟩
  simp only [Q4.v]
  have U0 := Lib.hid (O0.out.then0 o0)
  have EU := Lib.hid (E0'.out.keep0 o0)
  have su := o0.size
  clear o0 e22
  go_wp2_with fail
  obtain ⟨wq, hwq⟩ : ∃ wq, wq = u0.alloc (.cells #[.int .i64 0, .int .i64 1, .int .i64 2, .int .i64 2] 27) := ⟨_, rfl⟩
  rw [← hwq]
  obtain ⟨qb, hqb⟩ : ∃ qb, qb = u0.heap.size := ⟨_, rfl⟩
  rw [← hqb]
  have ow : Only [] u0 wq := by rw [hwq]; exact (Only.refl _ _).alloc _
  have E0 := Lib.hid (EU.out.keep0 ow)
  have QB0 : Hid (wq.heap[qb]? = some (.cells #[.int .i64 0, .int .i64 1, .int .i64 2, .int .i64 2] 27 (0, 0))) := Lib.hid (by rw [hwq, hqb]; exact blk_alloc_new _ _)
  have hb0 : bc < wq.heap.size := by have := ow.size; omega
  have qlt0 : qb < wq.heap.size := lt_of_blk QB0.out
  have q2 : qb ≠ m ∧ qb ≠ bc := by have := EU.out.mm.lt; omega
  have O0 : Hid (Only [] w wq) := Lib.hid (U0.out.then0 ow)
  have g0 := cell_blk QB0.out 0
  have g1 := cell_blk QB0.out 1
  have g2 := cell_blk QB0.out 2
  have g3 := cell_blk QB0.out 3
  simp at g0 g1 g2 g3
  have q1 : w.heap.size ≤ qb := by have := U0.out.size; omega
  clear hwq hqb ow
  go_wp2_with fail
  refine (push_new _ (q0 2) 5).mono ?_; rintro e v1 ⟨p1, rfl, a1, b1, c1, d1⟩
  have A1 := Lib.hid a1
  have X1 := Lib.hid (apart_new E0.out hb0 c1)
  have F1 := Lib.hid (E0.out.keep0 a1)
  have B1 := Lib.hid b1
  have Q1 := Lib.hid (a1.keep QB0.out (by simp))
  have z1 := a1.size
  clear a1 b1
  go_wp2_with fail
  refine (alone_is v1 p1 en m bc ck (newPush (q0 2) 5) _ 0 20 (by omega) 0 rfl rfl (newPush_ok 2 5 (by omega)) (by decide) F1.out X1.out.1 X1.out.2 B1.out (by simp) aw09_1).mono ?_; rintro e w1 ⟨rfl, o1, e1⟩
  have E1 := Lib.hid e1
  have QB1 := Lib.hid (o1.keep Q1.out (by have := qlt0; have := q2; simp; omega))
  have O1 : Hid (Only [] w w1) := Lib.hid ((O0.out.then0 A1.out).trans o1 (by have := O0.out.size; simp; omega))
  have y1 := o1.size
  have hb1 : bc < w1.heap.size := by omega
  have qlt1 : qb < w1.heap.size := by omega
  have g0 := cell_blk QB1.out 0
  have g1 := cell_blk QB1.out 1
  have g2 := cell_blk QB1.out 2
  have g3 := cell_blk QB1.out 3
  simp at g0 g1 g2 g3
  clear o1 e1
  go_wp2_with fail
  clear g0 g1 g2 g3
  refine (push_new _ (q0 2) 6).mono ?_; rintro e v2 ⟨p2, rfl, a2, b2, c2, d2⟩
  have A2 := Lib.hid a2
  have X2 := Lib.hid (apart_new E1.out hb1 c2)
  have F2 := Lib.hid (E1.out.keep0 a2)
  have B2 := Lib.hid b2
  have Q2 := Lib.hid (a2.keep QB1.out (by simp))
  have z2 := a2.size
  clear a2 b2
  go_wp2_with fail
  refine (alone_is v2 p2 en m bc ck (newPush (q0 2) 6) _ 0 20 (by omega) 0 rfl rfl (newPush_ok 2 6 (by omega)) (by decide) F2.out X2.out.1 X2.out.2 B2.out (by simp) aw09_2).mono ?_; rintro e w2 ⟨rfl, o2, e2⟩
  have E2 := Lib.hid e2
  have QB2 := Lib.hid (o2.keep Q2.out (by have := qlt1; have := q2; simp; omega))
  have O2 : Hid (Only [] w w2) := Lib.hid ((O1.out.then0 A2.out).trans o2 (by have := O1.out.size; simp; omega))
  have y2 := o2.size
  have hb2 : bc < w2.heap.size := by omega
  have qlt2 : qb < w2.heap.size := by omega
  have g0 := cell_blk QB2.out 0
  have g1 := cell_blk QB2.out 1
  have g2 := cell_blk QB2.out 2
  have g3 := cell_blk QB2.out 3
  simp at g0 g1 g2 g3
  clear o2 e2
  go_wp2_with fail
  clear g0 g1 g2 g3
  refine (push_new _ (q0 2) 7).mono ?_; rintro e v3 ⟨p3, rfl, a3, b3, c3, d3⟩
  have A3 := Lib.hid a3
  have X3 := Lib.hid (apart_new E2.out hb2 c3)
  have F3 := Lib.hid (E2.out.keep0 a3)
  have B3 := Lib.hid b3
  have Q3 := Lib.hid (a3.keep QB2.out (by simp))
  have z3 := a3.size
  clear a3 b3
  go_wp2_with fail
  refine (alone_is v3 p3 en m bc ck (newPush (q0 2) 7) _ 0 20 (by omega) 0 rfl rfl (newPush_ok 2 7 (by omega)) (by decide) F3.out X3.out.1 X3.out.2 B3.out (by simp) aw09_3).mono ?_; rintro e w3 ⟨rfl, o3, e3⟩
  have E3 := Lib.hid e3
  have QB3 := Lib.hid (o3.keep Q3.out (by have := qlt2; have := q2; simp; omega))
  have O3 : Hid (Only [] w w3) := Lib.hid ((O2.out.then0 A3.out).trans o3 (by have := O2.out.size; simp; omega))
  have y3 := o3.size
  have hb3 : bc < w3.heap.size := by omega
  have qlt3 : qb < w3.heap.size := by omega
  have g0 := cell_blk QB3.out 0
  have g1 := cell_blk QB3.out 1
  have g2 := cell_blk QB3.out 2
  have g3 := cell_blk QB3.out 3
  simp at g0 g1 g2 g3
  clear o3 e3
  go_wp2_with fail
  clear g0 g1 g2 g3
  refine (pop_new _ (q0 2)).mono ?_; rintro e v4 ⟨p4, rfl, a4, b4, c4, d4⟩
  have A4 := Lib.hid a4
  have X4 := Lib.hid (apart_new E3.out hb3 c4)
  have F4 := Lib.hid (E3.out.keep0 a4)
  have B4 := Lib.hid b4
  have Q4 := Lib.hid (a4.keep QB3.out (by simp))
  have z4 := a4.size
  clear a4 b4
  go_wp2_with fail
  refine (alone_is v4 p4 en m bc ck (newPop (q0 2)) _ 0 20 (by omega) 1 rfl rfl (newPop_ok 2 (by omega)) (by decide) F4.out X4.out.1 X4.out.2 B4.out (by simp) aw09_4).mono ?_; rintro e w4 ⟨rfl, o4, e4⟩
  have E4 := Lib.hid e4
  have QB4 := Lib.hid (o4.keep Q4.out (by have := qlt3; have := q2; simp; omega))
  have O4 : Hid (Only [] w w4) := Lib.hid ((O3.out.then0 A4.out).trans o4 (by have := O3.out.size; simp; omega))
  have y4 := o4.size
  have hb4 : bc < w4.heap.size := by omega
  have qlt4 : qb < w4.heap.size := by omega
  have g0 := cell_blk QB4.out 0
  have g1 := cell_blk QB4.out 1
  have g2 := cell_blk QB4.out 2
  have g3 := cell_blk QB4.out 3
  simp at g0 g1 g2 g3
  clear o4 e4
  go_wp2_with fail
  clear g0 g1 g2 g3
  refine (pop_new _ (q0 2)).mono ?_; rintro e v5 ⟨p5, rfl, a5, b5, c5, d5⟩
  have A5 := Lib.hid a5
  have X5 := Lib.hid (apart_new E4.out hb4 c5)
  have F5 := Lib.hid (E4.out.keep0 a5)
  have B5 := Lib.hid b5
  have Q5 := Lib.hid (a5.keep QB4.out (by simp))
  have z5 := a5.size
  clear a5 b5
  go_wp2_with fail
  refine (alone_is v5 p5 en m bc ck (newPop (q0 2)) _ 0 20 (by omega) 1 rfl rfl (newPop_ok 2 (by omega)) (by decide) F5.out X5.out.1 X5.out.2 B5.out (by simp) aw09_5).mono ?_; rintro e w5 ⟨rfl, o5, e5⟩
  have E5 := Lib.hid e5
  have QB5 := Lib.hid (o5.keep Q5.out (by have := qlt4; have := q2; simp; omega))
  have O5 : Hid (Only [] w w5) := Lib.hid ((O4.out.then0 A5.out).trans o5 (by have := O4.out.size; simp; omega))
  have y5 := o5.size
  have hb5 : bc < w5.heap.size := by omega
  have qlt5 : qb < w5.heap.size := by omega
  have g0 := cell_blk QB5.out 0
  have g1 := cell_blk QB5.out 1
  have g2 := cell_blk QB5.out 2
  have g3 := cell_blk QB5.out 3
  simp at g0 g1 g2 g3
  clear o5 e5
  go_wp2_with fail
  clear g0 g1 g2 g3
  refine (pop_new _ (q0 2)).mono ?_; rintro e v6 ⟨p6, rfl, a6, b6, c6, d6⟩
  have A6 := Lib.hid a6
  have X6 := Lib.hid (apart_new E5.out hb5 c6)
  have F6 := Lib.hid (E5.out.keep0 a6)
  have B6 := Lib.hid b6
  have Q6 := Lib.hid (a6.keep QB5.out (by simp))
  have z6 := a6.size
  clear a6 b6
  go_wp2_with fail
  refine (alone_is v6 p6 en m bc ck (newPop (q0 2)) _ 0 20 (by omega) 1 rfl rfl (newPop_ok 2 (by omega)) (by decide) F6.out X6.out.1 X6.out.2 B6.out (by simp) aw09_6).mono ?_; rintro e w6 ⟨rfl, o6, e6⟩
  have E6 := Lib.hid e6
  have QB6 := Lib.hid (o6.keep Q6.out (by have := qlt5; have := q2; simp; omega))
  have O6 : Hid (Only [] w w6) := Lib.hid ((O5.out.then0 A6.out).trans o6 (by have := O5.out.size; simp; omega))
  have y6 := o6.size
  have hb6 : bc < w6.heap.size := by omega
  have qlt6 : qb < w6.heap.size := by omega
  have g0 := cell_blk QB6.out 0
  have g1 := cell_blk QB6.out 1
  have g2 := cell_blk QB6.out 2
  have g3 := cell_blk QB6.out 3
  simp at g0 g1 g2 g3
  clear o6 e6
  go_wp2_with fail
  go_ret
  exact ⟨rfl, O6.out⟩
end Go.Proofs.YtlklfpbimoolbaaGreat
