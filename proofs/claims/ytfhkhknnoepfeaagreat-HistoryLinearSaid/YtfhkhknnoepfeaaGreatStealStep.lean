/- Steal's machine: what a step does. (Written by wip/gen_mach.py.) -/
import Derived.Test.YtfhkhknnoepfeaaGreatPushStep
namespace Go.Proofs.YtfhkhknnoepfeaaGreat
open Go.RowKit

def stealO (k : K) : Obj := .cells #[.bool k.over, .int .i64 k.code, .int .i64 k.val, .int .i64 k.q.top, .int .i64 k.q.bot, .int .i64 k.q.ring, .int .i64 k.q.cap, .int .i64 k.line, .int .u64 k.v, .int .u64 k.w] 149 (0, 0)

theorem steal_over (w : World) (p en m bc : Nat) (k : K) (s : MS) (ho : k.over = true) (hP : w.heap[p]? = some (stealO k)) (hM : MemAt w m bc s) :
    Calls Tryz.prog 154 #[.pointer (some ⟨p, 0, none⟩), .pointer (some ⟨en, 0, none⟩)] w (StepPost p m bc stealO k s w) := by
  have FIN := Lib.hid (StepPost.mk (stepK_over ho) ho (Only.refl [p, m, bc] w) hP hM)
  unfold stealO at hP
  rw [ho] at hP
  have c0 := cell_blk hP 0
  simp at c0
  have he2 := ended_any w p true c0
  clear hP hM
  go_enter Tryz.func154, Tryz.ntmps154
  go_wp2_with fail
  refine he2.mono ?_; rintro e w' ⟨rfl, rfl⟩
  go_wp2_with fail
  go_ret
  exact FIN.out

set_option maxRecDepth 100000 in
set_option maxHeartbeats 400000 in
theorem steal_1 (w : World) (p en m bc : Nat) (k : K) (s : MS) (hk : k.kind = 2) (ho : k.over = false) (hl : k.line = 1) (hA : Apart p en m bc) (hE : w.cell? ⟨en, 22, none⟩ = some (.pointer (some ⟨m, 0, none⟩)))
    (hP : w.heap[p]? = some (stealO k)) (hM : MemAt w m bc s) (hn : s.count ≤ 4000000000000000000) :
    Calls Tryz.prog 154 #[.pointer (some ⟨p, 0, none⟩), .pointer (some ⟨en, 0, none⟩)] w (StepPost p m bc stealO k s w) := by
  have hs : stepK k s = ({ k with v := s.at k.q.top, line := 2 }, s.put 1 k.q.top (s.at k.q.top)) := by unfold stepK stepSteal; simp [ho, hk, hl]
  have HS := Lib.hid hs
  clear hs
  have HP := Lib.hid hP
  unfold stealO at hP
  rw [ho, hl] at hP
  have c0 := cell_blk hP 0
  have c3 := cell_blk hP 3
  have c7 := cell_blk hP 7
  simp at c0 c3 c7
  have HM := Lib.hid hM
  have HA := Lib.hid hA
  have he2 := ended_any w p false c0
  clear hP hM hA
  go_enter Tryz.func154, Tryz.ntmps154
  go_wp2_with fail
  refine he2.mono ?_; rintro e w' ⟨rfl, rfl⟩
  go_wp2_with fail
  go_region_held3 (fun w' => w'.cell? ⟨en, 22, none⟩ = some (.pointer (some ⟨m, 0, none⟩)) ∧ w'.cell? ⟨p, 3, none⟩ = some (.int .i64 k.q.top))
    (first | exact ⟨hE, c3⟩ | exact ⟨eE, g3⟩ | exact ⟨by rw [cell_set_ne (.inl HA.out.ep)]; exact eE, by rw [cell_set_ne (.inr (by omega))]; exact g3⟩)
    ((go_at_call 140; refine (ld_any w.drew m bc s k.q.top HM.out.drew hn).mono ?_; rintro e w1 ⟨rfl, o1, h1⟩
      have O1 := Lib.hid o1.undrew
      have H1 := Lib.hid h1
      have P1 := Lib.hid (o1.keep HP.out HA.out.p2)
      have eE : w1.cell? ⟨en, 22, none⟩ = some (.pointer (some ⟨m, 0, none⟩)) := o1.keepCell hE HA.out.e2
      have g3 := cell_blk P1.out 3
      have g7 := cell_blk P1.out 7
      have g8 := cell_blk P1.out 8
      simp [hl] at g3 g7 g8
      have q7 := free_blk P1.out 7
      have q8 := free_blk P1.out 8
      clear o1 h1))
  go_wp2_with fail
  go_ret
  have o2 : Only [p] w1 (((w1.setCell ⟨p, 8, none⟩ (.int .u64 (s.at k.q.top))).setCell ⟨p, 7, none⟩ (.int .i64 2))) := (((Only.refl _ _).setCell (by simp) _).setCell (by simp) _)
  refine StepPost.mk HS.out ho (mach_only HA.out O1.out o2) ?_ (mach_mem HA.out o2 H1.out)
  have e := (blk_setCell (blk_setCell P1.out 8 (.int .u64 (s.at k.q.top))) 7 (.int .i64 2))
  simp only [List.setIfInBounds_toArray, List.set_cons_zero, List.set_cons_succ] at e
  exact e

set_option maxRecDepth 100000 in
set_option maxHeartbeats 400000 in
theorem steal_2 (w : World) (p en m bc : Nat) (k : K) (s : MS) (hk : k.kind = 2) (ho : k.over = false) (hl : k.line = 2) (hA : Apart p en m bc) (hE : w.cell? ⟨en, 22, none⟩ = some (.pointer (some ⟨m, 0, none⟩)))
    (hP : w.heap[p]? = some (stealO k)) (hM : MemAt w m bc s) (hn : s.count ≤ 4000000000000000000) :
    Calls Tryz.prog 154 #[.pointer (some ⟨p, 0, none⟩), .pointer (some ⟨en, 0, none⟩)] w (StepPost p m bc stealO k s w) := by
  have hs : stepK k s = (if sz (s.at k.q.bot) k.v ≤ 0 then ({ k with u := s.at k.q.bot }).fin 2 0 else { k with u := s.at k.q.bot, line := 3 }, s.put 1 k.q.bot (s.at k.q.bot)) := by unfold stepK stepSteal; simp [ho, hk, hl]
  obtain ⟨z, hz⟩ : ∃ z, z = sz (s.at k.q.bot) k.v := ⟨_, rfl⟩
  rw [← hz] at hs
  have HZ := fun w => Lib.hid (show Calls Tryz.prog 141 #[.int .u64 (s.at k.q.bot), .int .u64 k.v] w fun e w' => e = .returned (.int .i64 z) ∧ w = w' from by rw [hz]; exact size_any w _ _)
  clear hz
  have HS := Lib.hid hs
  clear hs
  have HP := Lib.hid hP
  unfold stealO at hP
  rw [ho, hl] at hP
  have c0 := cell_blk hP 0
  have c4 := cell_blk hP 4
  have c7 := cell_blk hP 7
  simp at c0 c4 c7
  have HM := Lib.hid hM
  have HA := Lib.hid hA
  have he2 := ended_any w p false c0
  clear hP hM hA
  go_enter Tryz.func154, Tryz.ntmps154
  go_wp2_with fail
  refine he2.mono ?_; rintro e w' ⟨rfl, rfl⟩
  go_wp2_with fail
  go_still_tail 9, (by kernel_rfl)
  change wpList _ _ _ _ _ w.drew
  go_wp2_with fail
  refine (ld_any w.drew m bc s k.q.bot HM.out.drew hn).mono ?_; rintro e w1 ⟨rfl, o1, h1⟩
  have O1 : Hid (Only [m, bc] w w1) := Lib.hid o1.undrew
  have H1 := Lib.hid h1
  have P1 := Lib.hid (o1.keep HP.out HA.out.p2)
  have g8 := cell_blk P1.out 8
  have g7 := cell_blk P1.out 7
  simp [hl] at g8 g7
  have q7 := free_blk P1.out 7
  clear o1 h1
  go_wp2_with fail
  refine (HZ _).out.mono ?_; rintro e w2 ⟨rfl, rfl⟩
  by_cases hc : z ≤ 0
  · rw [if_pos hc] at HS
    have hd : decide (z ≤ 0) = true := decide_eq_true hc
    go_wp2_with fail
    refine (end_any _ p _ false k.code k.val 2 0 _ (by have := P1.out; unfold stealO at this; rw [ho] at this; exact this)).mono ?_; rintro e w9 ⟨rfl, o9, h9⟩
    go_wp2_with fail
    go_ret
    exact StepPost.mk HS.out rfl (mach_only HA.out O1.out o9) h9 (mach_mem HA.out o9 H1.out)
  · rw [if_neg hc] at HS
    have hd : decide (z ≤ 0) = false := decide_eq_false hc
    have hc2 : 0 < z := by omega
    go_wp2_with fail
    go_ret
    have o2 : Only [p] w1 ((w1.setCell ⟨p, 7, none⟩ (.int .i64 3))) := ((Only.refl _ _).setCell (by simp) _)
    refine StepPost.mk HS.out ho (mach_only HA.out O1.out o2) ?_ (mach_mem HA.out o2 H1.out)
    have e := (blk_setCell P1.out 7 (.int .i64 3))
    simp only [List.setIfInBounds_toArray, List.set_cons_zero, List.set_cons_succ] at e
    exact e

set_option maxRecDepth 100000 in
set_option maxHeartbeats 400000 in
theorem steal_3 (w : World) (p en m bc : Nat) (k : K) (s : MS) (hk : k.kind = 2) (ho : k.over = false) (hl : k.line = 3) (hok : k.ok) (hA : Apart p en m bc) (hE : w.cell? ⟨en, 22, none⟩ = some (.pointer (some ⟨m, 0, none⟩)))
    (hP : w.heap[p]? = some (stealO k)) (hM : MemAt w m bc s) (hn : s.count ≤ 4000000000000000000) :
    Calls Tryz.prog 154 #[.pointer (some ⟨p, 0, none⟩), .pointer (some ⟨en, 0, none⟩)] w (StepPost p m bc stealO k s w) := by
  have hs : stepK k s = ({ k with w := s.at (ringI k.q k.v), line := 4 }, s.put 1 (ringI k.q k.v) (s.at (ringI k.q k.v))) := by unfold stepK stepSteal; simp [ho, hk, hl]
  have HC := fun w => Lib.hid (cell_any w k.q k.v hok.v.1 hok.v.2 hok.ring (hok.cap (by omega)))
  obtain ⟨z, hz⟩ : ∃ z, z = ringI k.q k.v := ⟨_, rfl⟩
  rw [← hz] at hs HC
  have HS := Lib.hid hs
  clear hz hs hok
  have HP := Lib.hid hP
  unfold stealO at hP
  rw [ho, hl] at hP
  have c0 := cell_blk hP 0
  have c3 := cell_blk hP 3
  have c4 := cell_blk hP 4
  have c5 := cell_blk hP 5
  have c6 := cell_blk hP 6
  have c7 := cell_blk hP 7
  have c8 := cell_blk hP 8
  simp at c0 c3 c4 c5 c6 c7 c8
  have HM := Lib.hid hM
  have HA := Lib.hid hA
  have he2 := ended_any w p false c0
  clear hP hM hA
  go_enter Tryz.func154, Tryz.ntmps154
  go_wp2_with fail
  refine he2.mono ?_; rintro e w' ⟨rfl, rfl⟩
  go_wp2_with fail
  go_region_held3 (fun w' => w'.cell? ⟨en, 22, none⟩ = some (.pointer (some ⟨m, 0, none⟩)) ∧ w'.cell? ⟨p, 3, none⟩ = some (.int .i64 k.q.top) ∧ w'.cell? ⟨p, 4, none⟩ = some (.int .i64 k.q.bot) ∧ w'.cell? ⟨p, 5, none⟩ = some (.int .i64 k.q.ring) ∧ w'.cell? ⟨p, 6, none⟩ = some (.int .i64 k.q.cap) ∧ w'.cell? ⟨p, 8, none⟩ = some (.int .u64 k.v))
    (first | exact ⟨hE, c3, c4, c5, c6, c8⟩ | exact ⟨eE, g3, g4, g5, g6, g8⟩ | exact ⟨fE, j3, j4, j5, j6, j8⟩ | exact ⟨by rw [cell_set_ne (.inl HA.out.ep)]; exact fE, by rw [cell_set_ne (.inr (by omega))]; exact j3, by rw [cell_set_ne (.inr (by omega))]; exact j4, by rw [cell_set_ne (.inr (by omega))]; exact j5, by rw [cell_set_ne (.inr (by omega))]; exact j6, by rw [cell_set_ne (.inr (by omega))]; exact j8⟩)
    ((first
      | (go_at_call 144; refine (HC _).out.mono ?_; rintro e w1 ⟨rfl, o1⟩
         have O1 := Lib.hid o1.undrew
         have M1 := Lib.hid (HM.out.drew.keep o1 (by simp) (by simp))
         have P1 := Lib.hid (o1.keep HP.out (by simp))
         have eE : w1.cell? ⟨en, 22, none⟩ = some (.pointer (some ⟨m, 0, none⟩)) := o1.keepCell hE (by simp)
         have g3 := cell_blk P1.out 3
         have g4 := cell_blk P1.out 4
         have g5 := cell_blk P1.out 5
         have g6 := cell_blk P1.out 6
         have g8 := cell_blk P1.out 8
         simp at g3 g4 g5 g6 g8
         clear o1)
      | (go_at_call 140; refine (ld_any w1 m bc s z M1.out hn).mono ?_; rintro e w2 ⟨rfl, o2, h2⟩
         have O2 := Lib.hid o2
         have H2 := Lib.hid h2
         have P2 := Lib.hid (o2.keep P1.out HA.out.p2)
         have fE : w2.cell? ⟨en, 22, none⟩ = some (.pointer (some ⟨m, 0, none⟩)) := o2.keepCell eE HA.out.e2
         have j3 := cell_blk P2.out 3
         have j4 := cell_blk P2.out 4
         have j5 := cell_blk P2.out 5
         have j6 := cell_blk P2.out 6
         have j7 := cell_blk P2.out 7
         have j8 := cell_blk P2.out 8
         have j9 := cell_blk P2.out 9
         simp [hl] at j3 j4 j5 j6 j7 j8 j9
         have q7 := free_blk P2.out 7
         have q9 := free_blk P2.out 9
         clear o2 h2)))
  have o12 : Only [m, bc] w w2 := (O1.out.mono (T := [m, bc]) (by simp)).trans O2.out (by simp)
  go_wp2_with fail
  go_ret
  have o2 : Only [p] w2 (((w2.setCell ⟨p, 9, none⟩ (.int .u64 (s.at z))).setCell ⟨p, 7, none⟩ (.int .i64 4))) := (((Only.refl _ _).setCell (by simp) _).setCell (by simp) _)
  refine StepPost.mk HS.out ho (mach_only HA.out o12 o2) ?_ (mach_mem HA.out o2 H2.out)
  have e := (blk_setCell (blk_setCell P2.out 9 (.int .u64 (s.at z))) 7 (.int .i64 4))
  simp only [List.setIfInBounds_toArray, List.set_cons_zero, List.set_cons_succ] at e
  exact e

set_option maxRecDepth 100000 in
set_option maxHeartbeats 400000 in
theorem steal_4 (w : World) (p en m bc : Nat) (k : K) (s : MS) (hk : k.kind = 2) (ho : k.over = false) (hl : 4 ≤ k.line) (hl9 : k.line ≤ 9) (hA : Apart p en m bc) (hE : w.cell? ⟨en, 22, none⟩ = some (.pointer (some ⟨m, 0, none⟩)))
    (hP : w.heap[p]? = some (stealO k)) (hM : MemAt w m bc s) (hn : s.count ≤ 4000000000000000000) :
    Calls Tryz.prog 154 #[.pointer (some ⟨p, 0, none⟩), .pointer (some ⟨en, 0, none⟩)] w (StepPost p m bc stealO k s w) := by
  obtain ⟨b, hb⟩ : ∃ b, b = (s.has k.q.top && s.at k.q.top == k.v) := ⟨_, rfl⟩
  have hs : stepK k s = (if b then k.fin 1 (wrap64 k.w) else k.fin 4 0, s.put 3 k.q.top (casB (s.at k.q.top) k.v (inc k.v))) := by
    unfold stepK stepSteal
    simp only [ho, hk, if_neg (Bool.false_ne_true), hb]
    split
    · omega
    · omega
    · omega
    · rfl
  have HC := fun w h => Lib.hid (show Calls Tryz.prog 151 #[.pointer (some ⟨m, 0, none⟩), .int .i64 k.q.top, .int .u64 k.v, .int .u64 (IntKind.u64.wrap (k.v + 1))] w fun e w' => e = .returned (.bool b) ∧ Only [m, bc] w w' ∧ MemAt w' m bc (s.put 3 k.q.top (casB (s.at k.q.top) k.v (inc k.v))) from by rw [hb]; exact cas_any w m bc s k.q.top k.v (inc k.v) h hn)
  have HS := Lib.hid hs
  clear hs hb
  obtain ⟨ln, hln⟩ : ∃ ln, ln = k.line := ⟨_, rfl⟩
  have HP := Lib.hid hP
  unfold stealO at hP
  rw [ho, ← hln] at hP
  rw [← hln] at hl hl9
  have c0 := cell_blk hP 0
  have c3 := cell_blk hP 3
  have c7 := cell_blk hP 7
  have c8 := cell_blk hP 8
  simp at c0 c3 c7 c8
  have HM := Lib.hid hM
  have HA := Lib.hid hA
  have he2 := ended_any w p false c0
  have n1 : ((ln : Int) == 1) = false := by simp; omega
  have n2 : ((ln : Int) == 2) = false := by simp; omega
  have n3 : ((ln : Int) == 3) = false := by simp; omega
  have hw64 : IntKind.i64.wrap k.w = wrap64 k.w := IntWalk.i64_left _
  clear hP hM hA hln
  go_enter Tryz.func154, Tryz.ntmps154
  go_wp2_with fail
  refine he2.mono ?_; rintro e w' ⟨rfl, rfl⟩
  go_wp2_with fail
  go_still_tail 18, (by kernel_rfl)
  change wpList _ _ _ _ _ w.drew
  go_wp2_with fail
  refine ((HC w.drew HM.out.drew).out).mono ?_; rintro e w1 ⟨rfl, o1, h1⟩
  have O1 : Hid (Only [m, bc] w w1) := Lib.hid o1.undrew
  have H1 := Lib.hid h1
  have P1 := Lib.hid (o1.keep HP.out HA.out.p2)
  have g9 := cell_blk P1.out 9
  simp at g9
  clear o1 h1
  cases b with
  | true =>
    rw [if_pos rfl] at HS
    go_wp2_with fail
    go_still_tail 8, (by kernel_rfl)
    change wpList _ _ _ _ _ w1.drew
    go_wp2_with fail
    refine (end_any w1.drew p _ false k.code k.val 1 _ _ (by have := P1.out; unfold stealO at this; rw [ho] at this; exact this)).mono ?_; rintro e w9 ⟨rfl, o9, h9⟩
    have o9' := o9.undrew
    go_wp2_with fail
    go_ret
    exact StepPost.mk HS.out rfl (mach_only HA.out O1.out o9') h9 (mach_mem HA.out o9' H1.out)
  | false =>
    rw [if_neg (by simp)] at HS
    go_wp2_with fail
    refine (end_any _ p _ false k.code k.val 4 0 _ (by have := P1.out; unfold stealO at this; rw [ho] at this; exact this)).mono ?_; rintro e w9 ⟨rfl, o9, h9⟩
    go_wp2_with fail
    go_ret
    exact StepPost.mk HS.out rfl (mach_only HA.out O1.out o9) h9 (mach_mem HA.out o9 H1.out)

theorem steal_step (w : World) (p en m bc : Nat) (k : K) (s : MS) (hk : k.kind = 2) (hok : k.over = false → k.ok) (hA : Apart p en m bc) (hE : w.cell? ⟨en, 22, none⟩ = some (.pointer (some ⟨m, 0, none⟩)))
    (hP : w.heap[p]? = some (stealO k)) (hM : MemAt w m bc s) (hn : s.count ≤ 4000000000000000000) :
    Calls Tryz.prog 154 #[.pointer (some ⟨p, 0, none⟩), .pointer (some ⟨en, 0, none⟩)] w (StepPost p m bc stealO k s w) := by
  cases ho : k.over with
  | true => exact steal_over w p en m bc k s ho hP hM
  | false =>
    have ok := hok ho
    have h1 := ok.line
    by_cases e1 : k.line = 1
    · exact steal_1 w p en m bc k s hk ho e1 hA hE hP hM hn
    by_cases e2 : k.line = 2
    · exact steal_2 w p en m bc k s hk ho e2 hA hE hP hM hn
    by_cases e3 : k.line = 3
    · exact steal_3 w p en m bc k s hk ho e3 ok hA hE hP hM hn
    exact steal_4 w p en m bc k s hk ho (by omega) h1.2 hA hE hP hM hn

end Go.Proofs.YtfhkhknnoepfeaaGreat
