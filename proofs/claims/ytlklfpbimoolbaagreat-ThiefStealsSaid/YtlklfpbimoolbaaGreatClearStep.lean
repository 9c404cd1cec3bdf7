/- Clear's machine: what a step does. (Written by wip/gen_mach.py.) -/
import Derived.Test.YtlklfpbimoolbaaGreatPushStep
namespace Go.Proofs.YtlklfpbimoolbaaGreat
open Go.RowKit

def clearO (k : K) : Obj := .cells #[.bool k.over, .int .i64 k.code, .int .i64 k.val, .int .i64 k.a, .int .i64 k.b, .int .i64 k.q.top, .int .i64 k.q.bot, .int .i64 k.q.ring, .int .i64 k.q.cap, .int .i64 k.line, .int .u64 k.u] 126 (0, 0)

theorem clear_over (w : World) (p en m bc : Nat) (k : K) (s : MS) (ho : k.over = true) (hP : w.heap[p]? = some (clearO k)) (hM : MemAt w m bc s) :
    Calls Tryz.prog 204 #[.pointer (some ⟨p, 0, none⟩), .pointer (some ⟨en, 0, none⟩)] w (StepPost p m bc clearO k s w) := by
  have FIN := Lib.hid (StepPost.mk (stepK_over ho) ho (Only.refl [p, m, bc] w) hP hM)
  unfold clearO at hP
  rw [ho] at hP
  have c0 := cell_blk hP 0
  simp at c0
  have he2 := ended_any w p true c0
  clear hP hM
  go_enter Tryz.func204, Tryz.ntmps204
  go_wp2_with fail
  refine he2.mono ?_; rintro e w' ⟨rfl, rfl⟩
  go_wp2_with fail
  go_ret
  exact FIN.out

set_option maxRecDepth 100000 in
set_option maxHeartbeats 400000 in
theorem clear_1 (w : World) (p en m bc : Nat) (k : K) (s : MS) (hk : k.kind = 4) (ho : k.over = false) (hl : k.line = 1) (hA : Apart p en m bc) (hE : w.cell? ⟨en, 22, none⟩ = some (.pointer (some ⟨m, 0, none⟩)))
    (hP : w.heap[p]? = some (clearO k)) (hM : MemAt w m bc s) (hn : s.count ≤ 4000000000000000000) :
    Calls Tryz.prog 204 #[.pointer (some ⟨p, 0, none⟩), .pointer (some ⟨en, 0, none⟩)] w (StepPost p m bc clearO k s w) := by
  have hs : stepK k s = (k.go 2, s.put 5 k.a (andB (s.at k.a) (notB (mask k.b)))) := by unfold stepK stepClear; simp [ho, hk, hl]
  have HS := Lib.hid hs
  clear hs
  have HP := Lib.hid hP
  unfold clearO at hP
  rw [ho, hl] at hP
  have c0 := cell_blk hP 0
  have c3 := cell_blk hP 3
  have c4 := cell_blk hP 4
  have c9 := cell_blk hP 9
  simp at c0 c3 c4 c9
  have HM := Lib.hid hM
  have HA := Lib.hid hA
  have he2 := ended_any w p false c0
  clear hP hM hA
  go_enter Tryz.func204, Tryz.ntmps204
  go_wp2_with fail
  refine he2.mono ?_; rintro e w' ⟨rfl, rfl⟩
  go_wp2_with fail
  refine (bit_any _ k.b).mono ?_; rintro e w' ⟨rfl, rfl⟩
  go_wp2_with fail
  go_still_tail 10, (by kernel_rfl)
  change wpList _ _ _ _ _ w.drew
  go_wp2_with fail
  refine (and_any w.drew m bc s k.a (notB (mask k.b)) HM.out.drew hn).mono ?_; rintro e w1 ⟨rfl, o1, h1⟩
  have O1 : Hid (Only [m, bc] w w1) := Lib.hid o1.undrew
  have H1 := Lib.hid h1
  have P1 := Lib.hid (o1.keep HP.out HA.out.p2)
  have g9 := cell_blk P1.out 9
  simp [hl] at g9
  have q9 := free_blk P1.out 9
  clear o1 h1
  go_wp2_with fail
  go_ret
  have o2 : Only [p] w1 ((w1.setCell ⟨p, 9, none⟩ (.int .i64 2))) := ((Only.refl _ _).setCell (by simp) _)
  refine StepPost.mk HS.out ho (mach_only HA.out O1.out o2) ?_ (mach_mem HA.out o2 H1.out)
  have e := (blk_setCell P1.out 9 (.int .i64 2))
  simp only [List.setIfInBounds_toArray, List.set_cons_zero, List.set_cons_succ] at e
  exact e

set_option maxRecDepth 100000 in
set_option maxHeartbeats 400000 in
theorem clear_2 (w : World) (p en m bc : Nat) (k : K) (s : MS) (hk : k.kind = 4) (ho : k.over = false) (hl : k.line = 2) (hA : Apart p en m bc) (hE : w.cell? ⟨en, 22, none⟩ = some (.pointer (some ⟨m, 0, none⟩)))
    (hP : w.heap[p]? = some (clearO k)) (hM : MemAt w m bc s) (hn : s.count ≤ 4000000000000000000) :
    Calls Tryz.prog 204 #[.pointer (some ⟨p, 0, none⟩), .pointer (some ⟨en, 0, none⟩)] w (StepPost p m bc clearO k s w) := by
  have hs : stepK k s = ({ k with u := s.at k.q.bot, line := 3 }, s.put 1 k.q.bot (s.at k.q.bot)) := by unfold stepK stepClear; simp [ho, hk, hl]
  have HS := Lib.hid hs
  clear hs
  have HP := Lib.hid hP
  unfold clearO at hP
  rw [ho, hl] at hP
  have c0 := cell_blk hP 0
  have c6 := cell_blk hP 6
  have c9 := cell_blk hP 9
  have c4 := cell_blk hP 4
  simp at c0 c6 c9 c4
  have HM := Lib.hid hM
  have HA := Lib.hid hA
  have he2 := ended_any w p false c0
  clear hP hM hA
  go_enter Tryz.func204, Tryz.ntmps204
  go_wp2_with fail
  refine he2.mono ?_; rintro e w' ⟨rfl, rfl⟩
  go_wp2_with fail
  refine (bit_any _ k.b).mono ?_; rintro e w' ⟨rfl, rfl⟩
  go_wp2_with fail
  go_region_held3 (fun w' => w'.cell? ⟨en, 22, none⟩ = some (.pointer (some ⟨m, 0, none⟩)) ∧ w'.cell? ⟨p, 6, none⟩ = some (.int .i64 k.q.bot))
    (first | exact ⟨hE, c6⟩ | exact ⟨eE, g6⟩ | exact ⟨by rw [cell_set_ne (.inl HA.out.ep)]; exact eE, by rw [cell_set_ne (.inr (by omega))]; exact g6⟩)
    ((go_at_call 186; refine (ld_any w.drew m bc s k.q.bot HM.out.drew hn).mono ?_; rintro e w1 ⟨rfl, o1, h1⟩
      have O1 := Lib.hid o1.undrew
      have H1 := Lib.hid h1
      have P1 := Lib.hid (o1.keep HP.out HA.out.p2)
      have eE : w1.cell? ⟨en, 22, none⟩ = some (.pointer (some ⟨m, 0, none⟩)) := o1.keepCell hE HA.out.e2
      have g6 := cell_blk P1.out 6
      have g9 := cell_blk P1.out 9
      have g10 := cell_blk P1.out 10
      simp [hl] at g6 g9 g10
      have q9 := free_blk P1.out 9
      have q10 := free_blk P1.out 10
      clear o1 h1))
  go_wp2_with fail
  go_ret
  have o2 : Only [p] w1 (((w1.setCell ⟨p, 10, none⟩ (.int .u64 (s.at k.q.bot))).setCell ⟨p, 9, none⟩ (.int .i64 3))) := (((Only.refl _ _).setCell (by simp) _).setCell (by simp) _)
  refine StepPost.mk HS.out ho (mach_only HA.out O1.out o2) ?_ (mach_mem HA.out o2 H1.out)
  have e := (blk_setCell (blk_setCell P1.out 10 (.int .u64 (s.at k.q.bot))) 9 (.int .i64 3))
  simp only [List.setIfInBounds_toArray, List.set_cons_zero, List.set_cons_succ] at e
  exact e

set_option maxRecDepth 100000 in
set_option maxHeartbeats 400000 in
theorem clear_3 (w : World) (p en m bc : Nat) (k : K) (s : MS) (hk : k.kind = 4) (ho : k.over = false) (hl : k.line = 3) (hA : Apart p en m bc) (hE : w.cell? ⟨en, 22, none⟩ = some (.pointer (some ⟨m, 0, none⟩)))
    (hP : w.heap[p]? = some (clearO k)) (hM : MemAt w m bc s) (hn : s.count ≤ 4000000000000000000) :
    Calls Tryz.prog 204 #[.pointer (some ⟨p, 0, none⟩), .pointer (some ⟨en, 0, none⟩)] w (StepPost p m bc clearO k s w) := by
  have hs : stepK k s = (if sz k.u (s.at k.q.top) ≤ 0 then ({ k with v := s.at k.q.top }).fin 2 0 else { k with v := s.at k.q.top, line := 4 }, s.put 1 k.q.top (s.at k.q.top)) := by unfold stepK stepClear; simp [ho, hk, hl]
  obtain ⟨z, hz⟩ : ∃ z, z = sz k.u (s.at k.q.top) := ⟨_, rfl⟩
  rw [← hz] at hs
  have HZ := fun w => Lib.hid (show Calls Tryz.prog 187 #[.int .u64 k.u, .int .u64 (s.at k.q.top)] w fun e w' => e = .returned (.int .i64 z) ∧ w = w' from by rw [hz]; exact size_any w _ _)
  clear hz
  have HS := Lib.hid hs
  clear hs
  have HP := Lib.hid hP
  unfold clearO at hP
  rw [ho, hl] at hP
  have c0 := cell_blk hP 0
  have c5 := cell_blk hP 5
  have c9 := cell_blk hP 9
  have c4 := cell_blk hP 4
  simp at c0 c5 c9 c4
  have HM := Lib.hid hM
  have HA := Lib.hid hA
  have he2 := ended_any w p false c0
  clear hP hM hA
  go_enter Tryz.func204, Tryz.ntmps204
  go_wp2_with fail
  refine he2.mono ?_; rintro e w' ⟨rfl, rfl⟩
  go_wp2_with fail
  refine (bit_any _ k.b).mono ?_; rintro e w' ⟨rfl, rfl⟩
  go_wp2_with fail
  go_still_tail 9, (by kernel_rfl)
  change wpList _ _ _ _ _ w.drew
  go_wp2_with fail
  refine (ld_any w.drew m bc s k.q.top HM.out.drew hn).mono ?_; rintro e w1 ⟨rfl, o1, h1⟩
  have O1 : Hid (Only [m, bc] w w1) := Lib.hid o1.undrew
  have H1 := Lib.hid h1
  have P1 := Lib.hid (o1.keep HP.out HA.out.p2)
  have g10 := cell_blk P1.out 10
  have g9 := cell_blk P1.out 9
  simp [hl] at g10 g9
  have q9 := free_blk P1.out 9
  clear o1 h1
  go_wp2_with fail
  refine (HZ _).out.mono ?_; rintro e w2 ⟨rfl, rfl⟩
  by_cases hc : z ≤ 0
  · rw [if_pos hc] at HS
    have hd : decide (z ≤ 0) = true := decide_eq_true hc
    go_wp2_with fail
    refine (end_any _ p _ false k.code k.val 2 0 _ (by have := P1.out; unfold clearO at this; rw [ho] at this; exact this)).mono ?_; rintro e w9 ⟨rfl, o9, h9⟩
    go_wp2_with fail
    go_ret
    exact StepPost.mk HS.out rfl (mach_only HA.out O1.out o9) h9 (mach_mem HA.out o9 H1.out)
  · rw [if_neg hc] at HS
    have hd : decide (z ≤ 0) = false := decide_eq_false hc
    have hc2 : 0 < z := by omega
    go_wp2_with fail
    go_ret
    have o2 : Only [p] w1 ((w1.setCell ⟨p, 9, none⟩ (.int .i64 4))) := ((Only.refl _ _).setCell (by simp) _)
    refine StepPost.mk HS.out ho (mach_only HA.out O1.out o2) ?_ (mach_mem HA.out o2 H1.out)
    have e := (blk_setCell P1.out 9 (.int .i64 4))
    simp only [List.setIfInBounds_toArray, List.set_cons_zero, List.set_cons_succ] at e
    exact e

set_option maxRecDepth 100000 in
set_option maxHeartbeats 400000 in
theorem clear_4 (w : World) (p en m bc : Nat) (k : K) (s : MS) (hk : k.kind = 4) (ho : k.over = false) (hl : 4 ≤ k.line) (hl9 : k.line ≤ 9) (hA : Apart p en m bc) (hE : w.cell? ⟨en, 22, none⟩ = some (.pointer (some ⟨m, 0, none⟩)))
    (hP : w.heap[p]? = some (clearO k)) (hM : MemAt w m bc s) (hn : s.count ≤ 4000000000000000000) :
    Calls Tryz.prog 204 #[.pointer (some ⟨p, 0, none⟩), .pointer (some ⟨en, 0, none⟩)] w (StepPost p m bc clearO k s w) := by
  have hs : stepK k s = (k.fin 1 0, s.put 4 k.a (orB (s.at k.a) (mask k.b))) := by
    unfold stepK stepClear
    simp only [ho, hk, if_neg (Bool.false_ne_true)]
    split
    · omega
    · omega
    · omega
    · rfl
  have HS := Lib.hid hs
  clear hs
  obtain ⟨ln, hln⟩ : ∃ ln, ln = k.line := ⟨_, rfl⟩
  have HP := Lib.hid hP
  unfold clearO at hP
  rw [ho, ← hln] at hP
  rw [← hln] at hl hl9
  have c0 := cell_blk hP 0
  have c3 := cell_blk hP 3
  have c4 := cell_blk hP 4
  have c9 := cell_blk hP 9
  simp at c0 c3 c4 c9
  have HM := Lib.hid hM
  have HA := Lib.hid hA
  have he2 := ended_any w p false c0
  have n1 : ((ln : Int) == 1) = false := by simp; omega
  have n2 : ((ln : Int) == 2) = false := by simp; omega
  have n3 : ((ln : Int) == 3) = false := by simp; omega
  clear hP hM hA hln
  go_enter Tryz.func204, Tryz.ntmps204
  go_wp2_with fail
  refine he2.mono ?_; rintro e w' ⟨rfl, rfl⟩
  go_wp2_with fail
  refine (bit_any _ k.b).mono ?_; rintro e w' ⟨rfl, rfl⟩
  go_wp2_with fail
  go_still_tail 9, (by kernel_rfl)
  change wpList _ _ _ _ _ w.drew
  go_wp2_with fail
  refine (or_any w.drew m bc s k.a (mask k.b) HM.out.drew hn).mono ?_; rintro e w1 ⟨rfl, o1, h1⟩
  have O1 : Hid (Only [m, bc] w w1) := Lib.hid o1.undrew
  have H1 := Lib.hid h1
  have P1 := Lib.hid (o1.keep HP.out HA.out.p2)
  clear o1 h1
  go_wp2_with fail
  refine (end_any _ p _ false k.code k.val 1 0 _ (by have := P1.out; unfold clearO at this; rw [ho] at this; exact this)).mono ?_; rintro e w9 ⟨rfl, o9, h9⟩
  go_wp2_with fail
  go_ret
  exact StepPost.mk HS.out rfl (mach_only HA.out O1.out o9) h9 (mach_mem HA.out o9 H1.out)

theorem clear_step (w : World) (p en m bc : Nat) (k : K) (s : MS) (hk : k.kind = 4) (hok : k.over = false → k.ok) (hA : Apart p en m bc) (hE : w.cell? ⟨en, 22, none⟩ = some (.pointer (some ⟨m, 0, none⟩)))
    (hP : w.heap[p]? = some (clearO k)) (hM : MemAt w m bc s) (hn : s.count ≤ 4000000000000000000) :
    Calls Tryz.prog 204 #[.pointer (some ⟨p, 0, none⟩), .pointer (some ⟨en, 0, none⟩)] w (StepPost p m bc clearO k s w) := by
  cases ho : k.over with
  | true => exact clear_over w p en m bc k s ho hP hM
  | false =>
    have ok := hok ho
    have h1 := ok.line
    by_cases e1 : k.line = 1
    · exact clear_1 w p en m bc k s hk ho e1 hA hE hP hM hn
    by_cases e2 : k.line = 2
    · exact clear_2 w p en m bc k s hk ho e2 hA hE hP hM hn
    by_cases e3 : k.line = 3
    · exact clear_3 w p en m bc k s hk ho e3 hA hE hP hM hn
    exact clear_4 w p en m bc k s hk ho (by omega) h1.2 hA hE hP hM hn

end Go.Proofs.YtlklfpbimoolbaaGreat
