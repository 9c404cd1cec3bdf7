/- The sanity check of chapter 10, walked. (Written by wip/gen_thf.py.) -/
import Derived.Test.YtlklfpbimoolbaaGreatOwnAwake
namespace Go.Proofs.YtlklfpbimoolbaaGreat
open Go.RowKit
set_option linter.unusedVariables false

theorem cellsAt_blk {w : World} {b : Nat} {xs : List Value} {T : TypeId} {f : Nat × Nat} (h : w.heap[b]? = some (.cells xs.toArray T f)) : CellsAt w (some ⟨b, 0, none⟩) xs := fun _ =>
  ⟨b, 0, rfl, fun j hj => by rw [cell_blk h, Nat.zero_add]; simp [hj]⟩

/-- A step of a machine whose kind is known. -/
theorem step_kd (kd : Nat) (w : World) (p en m bc ck : Nat) (k : K) (s : MS) (now : Int) (hk : k.kind = kd) (hkd : kd ≤ 4) (hok : k.over = false → k.ok) (hE : EnvAt w en m bc ck s now) (hA : Apart p en m bc) (hc : ck ≠ p) (hP : w.heap[p]? = some (machO k)) (hn : s.count ≤ 4000000000000000000)
    {k' : K} {s' : MS} (hs : stepK k s = (k', s')) :
    Calls Tryz.prog (machS kd) #[.pointer (some ⟨p, 0, none⟩), .pointer (some ⟨en, 0, none⟩)] w fun e w' => e = .returned (.bool k'.over) ∧ Only [p, m, bc] w w' ∧ w'.heap[p]? = some (machO k') ∧ EnvAt w' en m bc ck s' now := by
  subst hk
  refine (mach_step w p en m bc k s hkd hok hA hE.mem hP hE.mm hn).mono ?_
  rintro e w' ⟨h1, h2, h3, h4⟩
  rw [hs] at h1 h3 h4
  exact ⟨h1, h2, h3, hE.step hA hc h2 h4⟩

def aw10 : Nat → K × MS
  | 0 => (newSteal (q0 2), bareMS [0, 2, 5, 6])
  | n + 1 => stepK (aw10 n).1 (aw10 n).2
theorem aw10_1 : (aw10 1).1.over = false := by kernel_rfl
theorem aw10_2 : (aw10 2).1.over = false := by kernel_rfl
theorem aw10_3 : (aw10 3).1.over = false := by kernel_rfl
theorem aw10_k : ∀ n, (aw10 n).1.kind = 2
  | 0 => rfl
  | n + 1 => (stepK_same _ _).1.trans (aw10_k n)
theorem aw10_s0 : (aw10 0).2.ok := by decide
theorem aw10_ok1 : (aw10 1).2.ok ∧ (aw10 1).1.ok := ⟨stepK_mok aw10_s0 (newSteal_ok 2 (by omega)), stepK_ok aw10_s0 (newSteal_ok 2 (by omega)) aw10_1⟩
theorem aw10_ok2 : (aw10 2).2.ok ∧ (aw10 2).1.ok := ⟨stepK_mok aw10_ok1.1 aw10_ok1.2, stepK_ok aw10_ok1.1 aw10_ok1.2 aw10_2⟩
theorem aw10_ok3 : (aw10 3).2.ok ∧ (aw10 3).1.ok := ⟨stepK_mok aw10_ok2.1 aw10_ok2.2, stepK_ok aw10_ok2.1 aw10_ok2.2 aw10_3⟩
theorem aw10_cnt : ∀ n, (aw10 n).2.count ≤ 4 + n
  | 0 => by decide
  | n + 1 => by
    have h1 := (stepK_count (aw10 n).1 (aw10 n).2).2
    have h2 := aw10_cnt n
    show (stepK (aw10 n).1 (aw10 n).2).2.count ≤ _
    omega
def aw10b : MS := (alone 20 (newSteal (q0 2)) (aw10 3).2).2.2.2
theorem aw10_a : alone 20 (newSteal (q0 2)) (aw10 3).2 = (1, 5, 4, aw10b) := by kernel_rfl
theorem aw10_b : alone 20 (aw10 3).1 aw10b = (4, 0, 1, (alone 20 (aw10 3).1 aw10b).2.2.2) := by kernel_rfl

set_option maxRecDepth 100000 in
set_option maxHeartbeats 2000000 in
theorem awake10_any (w : World) : Calls Tryz.prog 23 #[] w fun e w' => e = .returned (.bool true) ∧ Only [] w w' := by
  go_enter Tryz.func23, Tryz.ntmps23
  go_wp2_with fail
  refine (queue_any _ 2).mono ?_; rintro e u0 ⟨rfl, o0⟩
  simp only [Q4.v]
  have U0 := Lib.hid o0
  clear o0
  go_wp2_with fail
  obtain ⟨qb, hqb⟩ : ∃ qb, qb = u0.heap.size := ⟨_, rfl⟩
  obtain ⟨wq, hwq⟩ : ∃ wq, wq = (u0.alloc (.cells #[.int .i64 0, .int .i64 1, .int .i64 2, .int .i64 2] 27)).alloc (.cells #[.int .u64 0, .int .u64 2, .int .u64 5, .int .u64 6] 40) := ⟨_, rfl⟩
  rw [← hqb, ← hwq]
  have ow : Only [] u0 wq := by rw [hwq]; exact ((Only.refl _ _).alloc _).alloc _
  have QBq : Hid (wq.heap[qb]? = some (.cells #[.int .i64 0, .int .i64 1, .int .i64 2, .int .i64 2] 27 (0, 0))) := Lib.hid (by rw [hwq, hqb, blk_alloc_old (by simp)]; exact blk_alloc_new _ _)
  have CB : Hid (CellsAt wq (some ⟨qb + 1, 0, none⟩) (([0, 2, 5, 6] : List Int).map (.int .u64))) := Lib.hid (cellsAt_blk (by
    rw [hwq, hqb]
    have h := blk_alloc_new (u0.alloc (.cells #[.int .i64 0, .int .i64 1, .int .i64 2, .int .i64 2] 27)) (.cells #[.int .u64 0, .int .u64 2, .int .u64 5, .int .u64 6] 40)
    rw [show (u0.alloc (.cells #[.int .i64 0, .int .i64 1, .int .i64 2, .int .i64 2] 27)).heap.size = u0.heap.size + 1 from by simp] at h
    exact h))
  have Oq := Lib.hid (U0.out.then0 ow)
  have qlt := lt_of_blk QBq.out
  clear hwq hqb ow
  go_wp2_with fail
  refine (bare_any wq _ 4 4 [0, 2, 5, 6] CB.out rfl (by omega)).mono ?_; rintro e w2 ⟨en, m, bc, ck, r, rc, rfl, o2, hB, lo, hi'⟩
  have E0 : Hid (EnvAt w2 en m bc ck (aw10 0).2 0) := Lib.hid hB.ee
  have O2 := Lib.hid (Oq.out.then0 o2)
  have QB2 := Lib.hid (o2.keep QBq.out (by simp))
  have s2 := o2.size
  obtain ⟨lo1, lo2, lo3, lo4, lo5, lo6⟩ := lo
  obtain ⟨hi1, hi2, hi3, hi4, hi5, hi6⟩ := hi'
  have q2 : qb ≠ m ∧ qb ≠ bc := by omega
  have g0 := cell_blk QB2.out 0
  have g1 := cell_blk QB2.out 1
  have g2 := cell_blk QB2.out 2
  have g3 := cell_blk QB2.out 3
  simp at g0 g1 g2 g3
  clear o2 hB
  go_wp2_with fail
  refine (steal_new _ (q0 2)).mono ?_; rintro e v0 ⟨px, rfl, a0, b0, c0, d0⟩
  simp only [ifc, machT, newSteal]
  have Ax := Lib.hid a0
  have Xx := Lib.hid (apart_new E0.out hi3 c0)
  have F0 := Lib.hid (E0.out.keep0 a0)
  have Bx : Hid (v0.heap[px]? = some (machO (aw10 0).1)) := Lib.hid b0
  have Qx := Lib.hid (a0.keep QB2.out (by simp))
  have O0 := Lib.hid (O2.out.then0 a0)
  have z0 := a0.size
  have qpx : qb ≠ px := by omega
  have lpx : w.heap.size ≤ px := by have := O2.out.size; omega
  have lm : w.heap.size ≤ m := by have := Oq.out.size; omega
  have lbc : w.heap.size ≤ bc := by have := Oq.out.size; omega
  clear a0 b0 g0 g1 g2 g3
  have nax : ∀ w, (nilAhead 359 117 (.pointer (some ⟨px, 0, none⟩)) "Step").run Tryz.prog w = .ok (some false) w := step_ahead 2 px
  have nbx : ∀ w, (method 359 117 (.pointer (some ⟨px, 0, none⟩)) "Step").run Tryz.prog w = .ok (197, .pointer (some ⟨px, 0, none⟩)) w := step_method 2 px
  have ncx : ∀ w, (nilAhead 359 117 (.pointer (some ⟨px, 0, none⟩)) "Result").run Tryz.prog w = .ok (some false) w := result_ahead 2 px
  have ndx : ∀ w, (method 359 117 (.pointer (some ⟨px, 0, none⟩)) "Result").run Tryz.prog w = .ok (184, .pointer (some ⟨px, 0, none⟩)) w := result_method 2 px
  have nex : ∀ w, (binOp .eql 36 (.iface 117 (.pointer (some ⟨px, 0, none⟩))) .nilIface).run Tryz.prog w = .ok (.bool false) w := ifc_nil 2 px
  go_wp2_with fail
  refine (show Calls Tryz.prog 197 _ _ _ from step_kd 2 _ px en m bc ck (aw10 0).1 (aw10 0).2 0 (aw10_k 0) (by omega) (fun _ => newSteal_ok 2 (by omega)) F0.out Xx.out.1 Xx.out.2 Bx.out (by have := aw10_cnt 0; omega) (k' := (aw10 1).1) (s' := (aw10 1).2) rfl).mono ?_; rintro e y1 ⟨rfl, o1, b1, e1⟩
  rw [aw10_1]
  have F1 := Lib.hid e1
  have B1 := Lib.hid b1
  have O1 : Hid (Only [] w y1) := Lib.hid (O0.out.trans o1 (by simp; omega))
  have Qx1 := Lib.hid (o1.keep Qx.out (by simp; omega))
  have t1 := o1.size
  clear o1 b1 e1
  go_wp2_with fail
  refine (show Calls Tryz.prog 197 _ _ _ from step_kd 2 _ px en m bc ck (aw10 1).1 (aw10 1).2 0 (aw10_k 1) (by omega) (fun _ => aw10_ok1.2) F1.out Xx.out.1 Xx.out.2 B1.out (by have := aw10_cnt 1; omega) (k' := (aw10 2).1) (s' := (aw10 2).2) rfl).mono ?_; rintro e y2 ⟨rfl, o1, b1, e1⟩
  rw [aw10_2]
  have F2 := Lib.hid e1
  have B2 := Lib.hid b1
  have O2 : Hid (Only [] w y2) := Lib.hid (O1.out.trans o1 (by simp; omega))
  have Qx2 := Lib.hid (o1.keep Qx1.out (by simp; omega))
  have t2 := o1.size
  clear o1 b1 e1
  go_wp2_with fail
  refine (show Calls Tryz.prog 197 _ _ _ from step_kd 2 _ px en m bc ck (aw10 2).1 (aw10 2).2 0 (aw10_k 2) (by omega) (fun _ => aw10_ok2.2) F2.out Xx.out.1 Xx.out.2 B2.out (by have := aw10_cnt 2; omega) (k' := (aw10 3).1) (s' := (aw10 3).2) rfl).mono ?_; rintro e y3 ⟨rfl, o1, b1, e1⟩
  rw [aw10_3]
  have F3 := Lib.hid e1
  have B3 := Lib.hid b1
  have O3 : Hid (Only [] w y3) := Lib.hid (O2.out.trans o1 (by simp; omega))
  have Qx3 := Lib.hid (o1.keep Qx2.out (by simp; omega))
  have t3 := o1.size
  clear o1 b1 e1
  have g0 := cell_blk Qx3.out 0
  have g1 := cell_blk Qx3.out 1
  have g2 := cell_blk Qx3.out 2
  have g3 := cell_blk Qx3.out 3
  simp at g0 g1 g2 g3
  go_wp2_with fail
  refine (steal_new _ (q0 2)).mono ?_; rintro e v4 ⟨p4, rfl, a4, b4, c4, d4⟩
  have X4 := Lib.hid (apart_new F3.out (by omega) c4)
  have F4 := Lib.hid (F3.out.keep0 a4)
  have B4 := Lib.hid b4
  have Bx4 := Lib.hid (a4.keep B3.out (by simp))
  have O4 := Lib.hid (O3.out.then0 a4)
  have z4 := a4.size
  have l4 := O3.out.size
  have lp3 := lt_of_blk B3.out
  clear a4 b4 g0 g1 g2 g3
  go_wp2_with fail
  refine (alone_is v4 p4 en m bc ck (newSteal (q0 2)) (aw10 3).2 0 20 (by omega) 2 rfl rfl (newSteal_ok 2 (by omega)) aw10_ok3.1 F4.out X4.out.1 X4.out.2 B4.out (by have := aw10_cnt 3; omega) aw10_a).mono ?_; rintro e w5 ⟨rfl, o5, e5⟩
  have E5 := Lib.hid e5
  have O5 : Hid (Only [] w w5) := Lib.hid (O4.out.trans o5 (by simp; omega))
  have Bx5 := Lib.hid (o5.keep Bx4.out (by have := Xx.out.1.pm; have := Xx.out.1.pc; simp; omega))
  have AO := Lib.hid (alone_ok 20 (newSteal (q0 2)) (aw10 3).2 (fun _ => newSteal_ok 2 (by omega)) aw10_ok3.1)
  clear o5 e5
  go_wp2_with fail
  refine (show Calls Tryz.prog 42 _ _ _ from alone_is w5 px en m bc ck (aw10 3).1 aw10b 0 20 (by omega) 2 (aw10_k 3) aw10_3 aw10_ok3.2 AO.out.1 E5.out Xx.out.1 Xx.out.2 Bx5.out (by have h1 := AO.out.2.2.2; have h2 := aw10_cnt 3; unfold aw10b; omega) aw10_b).mono ?_; rintro e w6 ⟨rfl, o6, e6⟩
  have O6 : Hid (Only [] w w6) := Lib.hid (O5.out.trans o6 (by simp; omega))
  clear o6 e6
  go_wp2_with fail
  go_ret
  exact ⟨rfl, O6.out⟩
end Go.Proofs.YtlklfpbimoolbaaGreat
