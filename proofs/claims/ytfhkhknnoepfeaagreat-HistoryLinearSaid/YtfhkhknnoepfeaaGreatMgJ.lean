/- Pop's machine: what a step does. (Written by wip/gen_pop.py.) -/
import Derived.Test.YtfhkhknnoepfeaaGreatPushStep
namespace Go.Proofs.YtfhkhknnoepfeaaGreat
open Go.RowKit

def popO (k : K) : Obj := .cells #[.bool k.over, .int .i64 k.code, .int .i64 k.val, .int .i64 k.q.top, .int .i64 k.q.bot, .int .i64 k.q.ring, .int .i64 k.q.cap, .int .i64 k.line, .int .u64 k.u, .int .u64 k.v] 146 (0, 0)
theorem MemAt.drewN {w : World} {m bc n : Nat} {s : MS} (h : MemAt w m bc s) : MemAt (w.drewN n) m bc s := h

theorem pop_over (w : World) (p en m bc : Nat) (k : K) (s : MS) (ho : k.over = true) (hP : w.heap[p]? = some (popO k)) (hM : MemAt w m bc s) :
    Calls Tryz.prog 149 #[.pointer (some ⟨p, 0, none⟩), .pointer (some ⟨en, 0, none⟩)] w (StepPost p m bc popO k s w) := by
  have FIN := Lib.hid (StepPost.mk (stepK_over ho) ho (Only.refl [p, m, bc] w) hP hM)
  unfold popO at hP
  rw [ho] at hP
  have c0 := cell_blk hP 0
  simp at c0
  have he2 := ended_any w p true c0
  clear hP hM
  go_enter Tryz.func149, Tryz.ntmps149
  go_wp2_with fail
  refine he2.mono ?_; rintro e w' ⟨rfl, rfl⟩
  go_wp2_with fail
  go_ret
  exact FIN.out

set_option maxRecDepth 100000 in
set_option maxHeartbeats 400000 in
theorem pop_1 (w : World) (p en m bc : Nat) (k : K) (s : MS) (hk : k.kind = 1) (ho : k.over = false) (hl : k.line = 1) (hA : Apart p en m bc) (hE : w.cell? ⟨en, 22, none⟩ = some (.pointer (some ⟨m, 0, none⟩)))
    (hP : w.heap[p]? = some (popO k)) (hM : MemAt w m bc s) (hn : s.count ≤ 4000000000000000000) :
    Calls Tryz.prog 149 #[.pointer (some ⟨p, 0, none⟩), .pointer (some ⟨en, 0, none⟩)] w (StepPost p m bc popO k s w) := by
  have hs : stepK k s = ({ k with u := s.at k.q.bot, line := 2 }, s.put 1 k.q.bot (s.at k.q.bot)) := by unfold stepK stepPop; simp [ho, hk, hl]
  have HS := Lib.hid hs
  have HP := Lib.hid hP
  unfold popO at hP
  rw [ho, hl] at hP
  have c0 := cell_blk hP 0
  have c4 := cell_blk hP 4
  have c7 := cell_blk hP 7
  simp at c0 c4 c7
  have HM := Lib.hid hM
  have HA := Lib.hid hA
  have he2 := ended_any w p false c0
  clear hP hM hA hs
  go_enter Tryz.func149, Tryz.ntmps149
  go_wp2_with fail
  refine he2.mono ?_; rintro e w' ⟨rfl, rfl⟩
  go_wp2_with fail
  go_quiet (fail)
  generalize hwq : w.drewN nq = wq
  have OQ : Hid (Only [] w wq) := Lib.hid (hwq ▸ (Only.refl _ _).drewN _)
  have HMQ := Lib.hid (HM.out.keep OQ.out (by simp) (by simp))
  have hEQ := OQ.out.keepCell hE (by simp)
  have HPQ := Lib.hid (OQ.out.keep HP.out (by simp))
  clear hwq hE he2 HM c0 c4 c7
  have d4 := cell_blk HPQ.out 4
  have d7 := cell_blk HPQ.out 7
  simp [hl] at d4 d7
  go_wp2_with fail
  refine (ld_any wq m bc s k.q.bot HMQ.out hn).mono ?_; rintro e w1 ⟨rfl, o1, h1⟩
  have O1 : Hid (Only [m, bc] w w1) := Lib.hid ((OQ.out.mono (by simp)).trans o1 (by simp))
  have H1 := Lib.hid h1
  have P1 := Lib.hid (o1.keep HPQ.out HA.out.p2)
  have g7 := cell_blk P1.out 7
  have g8 := cell_blk P1.out 8
  simp [hl] at g7 g8
  have q7 := free_blk P1.out 7
  have q8 := free_blk P1.out 8
  clear o1 h1
  go_wp2_with fail
  go_ret
  have o2 : Only [p] w1 (((w1.setCell ⟨p, 8, none⟩ (.int .u64 (s.at k.q.bot))).setCell ⟨p, 7, none⟩ (.int .i64 2))) := (((Only.refl _ _).setCell (by simp) _).setCell (by simp) _)
  refine StepPost.mk HS.out ho (mach_only HA.out O1.out o2) ?_ (mach_mem HA.out o2 H1.out)
  have e := (blk_setCell (blk_setCell P1.out 8 (.int .u64 (s.at k.q.bot))) 7 (.int .i64 2))
  simp only [List.setIfInBounds_toArray, List.set_cons_zero, List.set_cons_succ] at e
  exact e

set_option maxRecDepth 100000 in
set_option maxHeartbeats 400000 in
theorem pop_2 (w : World) (p en m bc : Nat) (k : K) (s : MS) (hk : k.kind = 1) (ho : k.over = false) (hl : k.line = 2) (hA : Apart p en m bc) (hE : w.cell? ⟨en, 22, none⟩ = some (.pointer (some ⟨m, 0, none⟩)))
    (hP : w.heap[p]? = some (popO k)) (hM : MemAt w m bc s) (hn : s.count ≤ 4000000000000000000) :
    Calls Tryz.prog 149 #[.pointer (some ⟨p, 0, none⟩), .pointer (some ⟨en, 0, none⟩)] w (StepPost p m bc popO k s w) := by
  have hs : stepK k s = (if sz k.u (s.at k.q.top) ≤ 0 then ({ k with v := s.at k.q.top }).fin 2 0 else { k with v := s.at k.q.top, line := 3 }, s.put 1 k.q.top (s.at k.q.top)) := by unfold stepK stepPop; simp [ho, hk, hl]
  obtain ⟨z, hz⟩ : ∃ z, z = sz k.u (s.at k.q.top) := ⟨_, rfl⟩
  rw [← hz] at hs
  have HZ := fun w => Lib.hid (show Calls Tryz.prog 141 #[.int .u64 k.u, .int .u64 (s.at k.q.top)] w fun e w' => e = .returned (.int .i64 z) ∧ w' = w from by rw [hz]; exact (size_any w _ _).mono fun _ _ h => ⟨h.1, h.2.symm⟩)
  clear hz
  have HS := Lib.hid hs
  have HP := Lib.hid hP
  unfold popO at hP
  rw [ho, hl] at hP
  have c0 := cell_blk hP 0
  have c3 := cell_blk hP 3
  have c7 := cell_blk hP 7
  simp at c0 c3 c7
  have HM := Lib.hid hM
  have HA := Lib.hid hA
  have he2 := ended_any w p false c0
  clear hP hM hA hs
  go_enter Tryz.func149, Tryz.ntmps149
  go_wp2_with fail
  refine he2.mono ?_; rintro e w' ⟨rfl, rfl⟩
  go_wp2_with fail
  go_quiet (fail)
  generalize hwq : w.drewN nq = wq
  have OQ : Hid (Only [] w wq) := Lib.hid (hwq ▸ (Only.refl _ _).drewN _)
  have HMQ := Lib.hid (HM.out.keep OQ.out (by simp) (by simp))
  have hEQ := OQ.out.keepCell hE (by simp)
  have HPQ := Lib.hid (OQ.out.keep HP.out (by simp))
  clear hwq hE he2 HM c0 c3 c7
  have d3 := cell_blk HPQ.out 3
  have d7 := cell_blk HPQ.out 7
  simp [hl] at d3 d7
  go_wp2_with fail
  refine (ld_any wq m bc s k.q.top HMQ.out hn).mono ?_; rintro e w1 ⟨rfl, o1, h1⟩
  have O1 : Hid (Only [m, bc] w w1) := Lib.hid ((OQ.out.mono (by simp)).trans o1 (by simp))
  have H1 := Lib.hid h1
  have P1 := Lib.hid (o1.keep HPQ.out HA.out.p2)
  have g7 := cell_blk P1.out 7
  have g8 := cell_blk P1.out 8
  have g9 := cell_blk P1.out 9
  simp [hl] at g7 g8 g9
  have q7 := free_blk P1.out 7
  have q9 := free_blk P1.out 9
  clear o1 h1
  by_cases hc : z ≤ 0
  · rw [if_pos hc] at HS
    have hd : decide (z ≤ 0) = true := decide_eq_true hc
    go_wp2_with fail
    go_quiet ((go_at_call 141; exact Calls.quiet_of_same (HZ _).out))
    go_wp2_with fail
    have P2 := blk_setCell P1.out 9 (.int .u64 (s.at k.q.top))
    simp only [ho, List.setIfInBounds_toArray, List.set_cons_zero, List.set_cons_succ] at P2
    refine (end_any _ p _ false k.code k.val 2 0 _ (by exact P2)).mono ?_; rintro e w2 ⟨rfl, o2, h2⟩
    have o3 : Only [p] w1 w2 := (((Only.refl [p] w1).setCell (by simp) (.int .u64 (s.at k.q.top))).trans o2.undrewN (by simp))
    go_wp2_with fail
    go_ret
    exact StepPost.mk HS.out rfl (mach_only HA.out O1.out o3) h2 (mach_mem HA.out o3 H1.out)
  · rw [if_neg hc] at HS
    have hd : decide (z ≤ 0) = false := decide_eq_false hc
    have hc2 : 0 < z := by omega
    go_wp2_with fail
    go_quiet ((go_at_call 141; exact Calls.quiet_of_same (HZ _).out))
    go_wp2_with fail
    go_ret
    have o2 : Only [p] w1 (((w1.setCell ⟨p, 9, none⟩ (.int .u64 (s.at k.q.top))).setCell ⟨p, 7, none⟩ (.int .i64 3)).drewN nq) := (((Only.refl _ _).setCell (by simp) _).setCell (by simp) _).drewN _
    refine StepPost.mk HS.out ho (mach_only HA.out O1.out o2) ?_ (mach_mem HA.out o2 H1.out)
    have e := (blk_setCell (blk_setCell P1.out 9 (.int .u64 (s.at k.q.top))) 7 (.int .i64 3))
    simp only [List.setIfInBounds_toArray, List.set_cons_zero, List.set_cons_succ] at e
    exact e

set_option maxRecDepth 100000 in
set_option maxHeartbeats 400000 in
theorem pop_3 (w : World) (p en m bc : Nat) (k : K) (s : MS) (hk : k.kind = 1) (ho : k.over = false) (hl : k.line = 3) (hA : Apart p en m bc) (hE : w.cell? ⟨en, 22, none⟩ = some (.pointer (some ⟨m, 0, none⟩)))
    (hP : w.heap[p]? = some (popO k)) (hM : MemAt w m bc s) (hn : s.count ≤ 4000000000000000000) :
    Calls Tryz.prog 149 #[.pointer (some ⟨p, 0, none⟩), .pointer (some ⟨en, 0, none⟩)] w (StepPost p m bc popO k s w) := by
  have hs : stepK k s = (k.go 4, s.put 2 k.q.bot (dec k.u)) := by unfold stepK stepPop; simp [ho, hk, hl]
  have HS := Lib.hid hs
  have HP := Lib.hid hP
  unfold popO at hP
  rw [ho, hl] at hP
  have c0 := cell_blk hP 0
  have c4 := cell_blk hP 4
  have c7 := cell_blk hP 7
  have c8 := cell_blk hP 8
  simp at c0 c4 c7 c8
  have HM := Lib.hid hM
  have HA := Lib.hid hA
  have he2 := ended_any w p false c0
  clear hP hM hA hs
  go_enter Tryz.func149, Tryz.ntmps149
  go_wp2_with fail
  refine he2.mono ?_; rintro e w' ⟨rfl, rfl⟩
  go_wp2_with fail
  go_quiet (fail)
  generalize hwq : w.drewN nq = wq
  have OQ : Hid (Only [] w wq) := Lib.hid (hwq ▸ (Only.refl _ _).drewN _)
  have HMQ := Lib.hid (HM.out.keep OQ.out (by simp) (by simp))
  have hEQ := OQ.out.keepCell hE (by simp)
  have HPQ := Lib.hid (OQ.out.keep HP.out (by simp))
  clear hwq hE he2 HM c0 c4 c7 c8
  have d4 := cell_blk HPQ.out 4
  have d7 := cell_blk HPQ.out 7
  have d8 := cell_blk HPQ.out 8
  simp [hl] at d4 d7 d8
  go_wp2_with fail
  go_still_tail 11, (by kernel_rfl)
  change wpList _ _ _ _ _ wq.drew
  go_wp2_with fail
  refine (st_any wq.drew m bc s k.q.bot _ HMQ.out.drew hn).mono ?_; rintro e w1 ⟨rfl, o1, h1⟩
  have O1 : Hid (Only [m, bc] w w1) := Lib.hid ((OQ.out.mono (by simp)).trans o1.undrew (by simp))
  have H1 := Lib.hid h1
  have P1 := Lib.hid (o1.keep HPQ.out HA.out.p2)
  have g7 := cell_blk P1.out 7
  simp [hl] at g7
  have q7 := free_blk P1.out 7
  clear o1 h1
  go_wp2_with fail
  go_ret
  have o2 : Only [p] w1 ((w1.setCell ⟨p, 7, none⟩ (.int .i64 4))) := ((Only.refl _ _).setCell (by simp) _)
  refine StepPost.mk HS.out ho (mach_only HA.out O1.out o2) ?_ (mach_mem HA.out o2 H1.out)
  have e := (blk_setCell P1.out 7 (.int .i64 4))
  simp only [List.setIfInBounds_toArray, List.set_cons_zero, List.set_cons_succ] at e
  exact e

set_option maxRecDepth 100000 in
set_option maxHeartbeats 400000 in
theorem decide_any (w : World) (p en m bc : Nat) (k : K) (s : MS) (z nx : Int) (hz : z = sz (dec k.u) (s.at k.q.top)) (hx : nx = if 0 < z then 5 else if z = 0 then 6 else 9) (hA : Apart p en m bc) (hE : w.cell? ⟨en, 22, none⟩ = some (.pointer (some ⟨m, 0, none⟩)))
    (hP : w.heap[p]? = some (popO k)) (hM : MemAt w m bc s) (hn : s.count ≤ 4000000000000000000) :
    Calls Tryz.prog 150 #[.pointer (some ⟨p, 0, none⟩), .pointer (some ⟨en, 0, none⟩)] w fun e w' => e = .returned (.int .i64 nx) ∧ Only [p, m, bc] w w' ∧ w'.heap[p]? = some (popO { k with v := s.at k.q.top }) ∧ MemAt w' m bc (s.put 1 k.q.top (s.at k.q.top)) := by
  have HZ := fun w => Lib.hid (show Calls Tryz.prog 141 #[.int .u64 (IntKind.u64.wrap (k.u - 1)), .int .u64 (s.at k.q.top)] w fun e w' => e = .returned (.int .i64 z) ∧ w' = w from by rw [hz]; exact (size_any w _ _).mono fun _ _ h => ⟨h.1, h.2.symm⟩)
  have HX := Lib.hid hx
  have HP := Lib.hid hP
  unfold popO at hP
  have c3 := cell_blk hP 3
  simp at c3
  have HM := Lib.hid hM
  have HA := Lib.hid hA
  clear hP hM hA hz hx
  go_enter Tryz.func150, Tryz.ntmps150
  go_wp2_with fail
  go_region_held3 (fun w' => w'.cell? ⟨en, 22, none⟩ = some (.pointer (some ⟨m, 0, none⟩)) ∧ w'.cell? ⟨p, 3, none⟩ = some (.int .i64 k.q.top))
    (first | exact ⟨hE, c3⟩ | exact ⟨eE, g3⟩ | exact ⟨by rw [cell_set_ne (.inl HA.out.ep)]; exact eE, by rw [cell_set_ne (.inr (by omega))]; exact g3⟩)
    ((go_at_call 140; refine (ld_any w.drew m bc s k.q.top HM.out.drew hn).mono ?_; rintro e w1 ⟨rfl, o1, h1⟩
      have O1 := Lib.hid o1.undrew
      have H1 := Lib.hid h1
      have P1 := Lib.hid (o1.keep HP.out HA.out.p2)
      have eE : w1.cell? ⟨en, 22, none⟩ = some (.pointer (some ⟨m, 0, none⟩)) := o1.keepCell hE HA.out.e2
      have g3 := cell_blk P1.out 3
      have g8 := cell_blk P1.out 8
      have g9 := cell_blk P1.out 9
      have q9 := free_blk P1.out 9
      simp at g3 g8 g9
      clear o1 h1))
  go_wp2_with fail
  go_quiet ((go_at_call 141; exact Calls.quiet_of_same (HZ _).out))
  have e := blk_setCell P1.out 9 (.int .u64 (s.at k.q.top))
  simp only [List.setIfInBounds_toArray, List.set_cons_zero, List.set_cons_succ] at e
  have E := Lib.hid e
  clear e
  have o2 : Only [p] w1 ((w1.setCell ⟨p, 9, none⟩ (.int .u64 (s.at k.q.top))).drewN nq) := ((Only.refl _ _).setCell (by simp) _).drewN _
  have FIN : ∀ y, y = nx → Hid ((Ending.returned (.int .i64 y) = .returned (.int .i64 nx)) ∧ Only [p, m, bc] w ((w1.setCell ⟨p, 9, none⟩ (.int .u64 (s.at k.q.top))).drewN nq) ∧ ((w1.setCell ⟨p, 9, none⟩ (.int .u64 (s.at k.q.top))).drewN nq).heap[p]? = some (popO { k with v := s.at k.q.top }) ∧ MemAt ((w1.setCell ⟨p, 9, none⟩ (.int .u64 (s.at k.q.top))).drewN nq) m bc (s.put 1 k.q.top (s.at k.q.top))) :=
    fun y hy => Lib.hid ⟨by rw [hy], mach_only HA.out O1.out o2, E.out, mach_mem HA.out o2 H1.out⟩
  clear o2
  by_cases h1 : 0 < z
  · go_wp2_with fail
    go_ret
    exact (FIN 5 (by rw [HX.out, if_pos h1])).out
  · by_cases h2 : z = 0
    · subst h2
      go_wp2_with fail
      go_ret
      exact (FIN 6 (by rw [HX.out]; rfl)).out
    · have h3 : (z == 0) = false := by simp; omega
      go_wp2_with fail
      go_ret
      exact (FIN 9 (by rw [HX.out, if_neg (by omega), if_neg (by omega)])).out

set_option maxRecDepth 100000 in
set_option maxHeartbeats 400000 in
theorem pop_4 (w : World) (p en m bc : Nat) (k : K) (s : MS) (hk : k.kind = 1) (ho : k.over = false) (hl : k.line = 4) (hA : Apart p en m bc) (hE : w.cell? ⟨en, 22, none⟩ = some (.pointer (some ⟨m, 0, none⟩)))
    (hP : w.heap[p]? = some (popO k)) (hM : MemAt w m bc s) (hn : s.count ≤ 4000000000000000000) :
    Calls Tryz.prog 149 #[.pointer (some ⟨p, 0, none⟩), .pointer (some ⟨en, 0, none⟩)] w (StepPost p m bc popO k s w) := by
  obtain ⟨z, hz⟩ : ∃ z, z = sz (dec k.u) (s.at k.q.top) := ⟨_, rfl⟩
  obtain ⟨nx, hnx⟩ : ∃ nx : Nat, nx = if 0 < z then 5 else if z = 0 then 6 else 9 := ⟨_, rfl⟩
  have hnx2 : (nx : Int) = if 0 < z then 5 else if z = 0 then 6 else 9 := by
    rw [hnx]
    by_cases h1 : 0 < z
    · rw [if_pos h1, if_pos h1]; rfl
    · rw [if_neg h1, if_neg h1]
      by_cases h2 : z = 0
      · rw [if_pos h2, if_pos h2]; rfl
      · rw [if_neg h2, if_neg h2]; rfl
  have hs : stepK k s = ({ k with v := s.at k.q.top, line := nx }, s.put 1 k.q.top (s.at k.q.top)) := by unfold stepK stepPop; simp [ho, hk, hl, hnx, hz]
  have HS := Lib.hid hs
  have HD := fun w h1 h2 h3 => Lib.hid (decide_any w p en m bc k s z nx hz hnx2 hA h1 h2 h3 hn)
  have HP := Lib.hid hP
  unfold popO at hP
  rw [ho, hl] at hP
  have c0 := cell_blk hP 0
  have c7 := cell_blk hP 7
  simp at c0 c7
  have HM := Lib.hid hM
  have HA := Lib.hid hA
  have he2 := ended_any w p false c0
  clear hP hM hA hs hnx hnx2 hz
  go_enter Tryz.func149, Tryz.ntmps149
  go_wp2_with fail
  refine he2.mono ?_; rintro e w' ⟨rfl, rfl⟩
  go_wp2_with fail
  go_quiet (fail)
  generalize hwq : w.drewN nq = wq
  have OQ : Hid (Only [] w wq) := Lib.hid (hwq ▸ (Only.refl _ _).drewN _)
  have HMQ := Lib.hid (HM.out.keep OQ.out (by simp) (by simp))
  have hEQ := OQ.out.keepCell hE (by simp)
  have HPQ := Lib.hid (OQ.out.keep HP.out (by simp))
  clear hwq hE he2 HM c0 c7
  have d7 := cell_blk HPQ.out 7
  simp [hl] at d7
  go_wp2_with fail
  refine (HD _ hEQ HPQ.out HMQ.out).out.mono ?_; rintro e w1 ⟨rfl, o1, p1, h1⟩
  have O1 : Hid (Only [p, m, bc] w w1) := Lib.hid ((OQ.out.mono (by simp)).trans o1 (by simp))
  have H1 := Lib.hid h1
  have P1 := Lib.hid p1
  have g7 := cell_blk P1.out 7
  have q7 := free_blk P1.out 7
  simp [hl] at g7
  clear o1 h1 p1
  go_wp2_with fail
  go_ret
  have o2 : Only [p] w1 (w1.setCell ⟨p, 7, none⟩ (.int .i64 nx)) := (Only.refl _ _).setCell (by simp) _
  refine StepPost.mk HS.out ho (O1.out.trans o2 (by simp)) ?_ (mach_mem HA.out o2 H1.out)
  have e := blk_setCell P1.out 7 (.int .i64 nx)
  simp only [List.setIfInBounds_toArray, List.set_cons_zero, List.set_cons_succ] at e
  exact e

set_option maxRecDepth 100000 in
set_option maxHeartbeats 400000 in
theorem pop_6 (w : World) (p en m bc : Nat) (k : K) (s : MS) (hk : k.kind = 1) (ho : k.over = false) (hl : k.line = 6) (hA : Apart p en m bc) (hE : w.cell? ⟨en, 22, none⟩ = some (.pointer (some ⟨m, 0, none⟩)))
    (hP : w.heap[p]? = some (popO k)) (hM : MemAt w m bc s) (hn : s.count ≤ 4000000000000000000) :
    Calls Tryz.prog 149 #[.pointer (some ⟨p, 0, none⟩), .pointer (some ⟨en, 0, none⟩)] w (StepPost p m bc popO k s w) := by
  obtain ⟨b, hb⟩ : ∃ b, b = (s.has k.q.top && s.at k.q.top == k.v) := ⟨_, rfl⟩
  have hs : stepK k s = (k.go (if b then 7 else 9), s.put 3 k.q.top (casB (s.at k.q.top) k.v (inc k.v))) := by unfold stepK stepPop; simp [ho, hk, hl, hb]
  have HC := fun w h => Lib.hid (show Calls Tryz.prog 151 #[.pointer (some ⟨m, 0, none⟩), .int .i64 k.q.top, .int .u64 k.v, .int .u64 (IntKind.u64.wrap (k.v + 1))] w fun e w' => e = .returned (.bool b) ∧ Only [m, bc] w w' ∧ MemAt w' m bc (s.put 3 k.q.top (casB (s.at k.q.top) k.v (inc k.v))) from by rw [hb]; exact cas_any w m bc s k.q.top k.v (inc k.v) h hn)
  have HS := Lib.hid hs
  have HP := Lib.hid hP
  unfold popO at hP
  rw [ho, hl] at hP
  have c0 := cell_blk hP 0
  have c3 := cell_blk hP 3
  have c7 := cell_blk hP 7
  have c9 := cell_blk hP 9
  simp at c0 c3 c7 c9
  have HM := Lib.hid hM
  have HA := Lib.hid hA
  have he2 := ended_any w p false c0
  clear hP hM hA hs hb
  go_enter Tryz.func149, Tryz.ntmps149
  go_wp2_with fail
  refine he2.mono ?_; rintro e w' ⟨rfl, rfl⟩
  go_wp2_with fail
  go_quiet (fail)
  generalize hwq : w.drewN nq = wq
  have OQ : Hid (Only [] w wq) := Lib.hid (hwq ▸ (Only.refl _ _).drewN _)
  have HMQ := Lib.hid (HM.out.keep OQ.out (by simp) (by simp))
  have hEQ := OQ.out.keepCell hE (by simp)
  have HPQ := Lib.hid (OQ.out.keep HP.out (by simp))
  clear hwq hE he2 HM c0 c3 c7 c9
  have d3 := cell_blk HPQ.out 3
  have d7 := cell_blk HPQ.out 7
  have d9 := cell_blk HPQ.out 9
  simp [hl] at d3 d7 d9
  go_wp2_with fail
  go_still_tail 15, (by kernel_rfl)
  change wpList _ _ _ _ _ wq.drew
  go_wp2_with fail
  refine ((HC wq.drew HMQ.out.drew).out).mono ?_; rintro e w1 ⟨rfl, o1, h1⟩
  have O1 : Hid (Only [m, bc] w w1) := Lib.hid ((OQ.out.mono (by simp)).trans o1.undrew (by simp))
  have H1 := Lib.hid h1
  have P1 := Lib.hid (o1.keep HPQ.out HA.out.p2)
  have g7 := cell_blk P1.out 7
  simp [hl] at g7
  have q7 := free_blk P1.out 7
  clear o1 h1
  cases b with
  | true =>
    rw [if_pos rfl] at HS
    go_wp2_with fail
    go_ret
    have o2 : Only [p] w1 ((w1.setCell ⟨p, 7, none⟩ (.int .i64 7))) := ((Only.refl _ _).setCell (by simp) _)
    refine StepPost.mk HS.out ho (mach_only HA.out O1.out o2) ?_ (mach_mem HA.out o2 H1.out)
    have e := (blk_setCell P1.out 7 (.int .i64 7))
    simp only [List.setIfInBounds_toArray, List.set_cons_zero, List.set_cons_succ] at e
    exact e
  | false =>
    rw [if_neg (by simp)] at HS
    go_wp2_with fail
    go_ret
    have o2 : Only [p] w1 ((w1.setCell ⟨p, 7, none⟩ (.int .i64 9))) := ((Only.refl _ _).setCell (by simp) _)
    refine StepPost.mk HS.out ho (mach_only HA.out O1.out o2) ?_ (mach_mem HA.out o2 H1.out)
    have e := (blk_setCell P1.out 7 (.int .i64 9))
    simp only [List.setIfInBounds_toArray, List.set_cons_zero, List.set_cons_succ] at e
    exact e

set_option maxRecDepth 100000 in
set_option maxHeartbeats 400000 in
theorem pop_7 (w : World) (p en m bc : Nat) (k : K) (s : MS) (hk : k.kind = 1) (ho : k.over = false) (hl : k.line = 7) (hA : Apart p en m bc) (hE : w.cell? ⟨en, 22, none⟩ = some (.pointer (some ⟨m, 0, none⟩)))
    (hP : w.heap[p]? = some (popO k)) (hM : MemAt w m bc s) (hn : s.count ≤ 4000000000000000000) :
    Calls Tryz.prog 149 #[.pointer (some ⟨p, 0, none⟩), .pointer (some ⟨en, 0, none⟩)] w (StepPost p m bc popO k s w) := by
  have hs : stepK k s = (k.go 8, s.put 2 k.q.bot k.u) := by unfold stepK stepPop; simp [ho, hk, hl]
  have HS := Lib.hid hs
  have HP := Lib.hid hP
  unfold popO at hP
  rw [ho, hl] at hP
  have c0 := cell_blk hP 0
  have c4 := cell_blk hP 4
  have c7 := cell_blk hP 7
  have c8 := cell_blk hP 8
  simp at c0 c4 c7 c8
  have HM := Lib.hid hM
  have HA := Lib.hid hA
  have he2 := ended_any w p false c0
  clear hP hM hA hs
  go_enter Tryz.func149, Tryz.ntmps149
  go_wp2_with fail
  refine he2.mono ?_; rintro e w' ⟨rfl, rfl⟩
  go_wp2_with fail
  go_quiet (fail)
  generalize hwq : w.drewN nq = wq
  have OQ : Hid (Only [] w wq) := Lib.hid (hwq ▸ (Only.refl _ _).drewN _)
  have HMQ := Lib.hid (HM.out.keep OQ.out (by simp) (by simp))
  have hEQ := OQ.out.keepCell hE (by simp)
  have HPQ := Lib.hid (OQ.out.keep HP.out (by simp))
  clear hwq hE he2 HM c0 c4 c7 c8
  have d4 := cell_blk HPQ.out 4
  have d7 := cell_blk HPQ.out 7
  have d8 := cell_blk HPQ.out 8
  simp [hl] at d4 d7 d8
  go_wp2_with fail
  go_still_tail 10, (by kernel_rfl)
  change wpList _ _ _ _ _ wq.drew
  go_wp2_with fail
  refine (st_any wq.drew m bc s k.q.bot _ HMQ.out.drew hn).mono ?_; rintro e w1 ⟨rfl, o1, h1⟩
  have O1 : Hid (Only [m, bc] w w1) := Lib.hid ((OQ.out.mono (by simp)).trans o1.undrew (by simp))
  have H1 := Lib.hid h1
  have P1 := Lib.hid (o1.keep HPQ.out HA.out.p2)
  have g7 := cell_blk P1.out 7
  simp [hl] at g7
  have q7 := free_blk P1.out 7
  clear o1 h1
  go_wp2_with fail
  go_ret
  have o2 : Only [p] w1 ((w1.setCell ⟨p, 7, none⟩ (.int .i64 8))) := ((Only.refl _ _).setCell (by simp) _)
  refine StepPost.mk HS.out ho (mach_only HA.out O1.out o2) ?_ (mach_mem HA.out o2 H1.out)
  have e := (blk_setCell P1.out 7 (.int .i64 8))
  simp only [List.setIfInBounds_toArray, List.set_cons_zero, List.set_cons_succ] at e
  exact e

set_option maxRecDepth 100000 in
set_option maxHeartbeats 400000 in
theorem pop_9 (w : World) (p en m bc : Nat) (k : K) (s : MS) (hk : k.kind = 1) (ho : k.over = false) (hl : k.line = 9) (hA : Apart p en m bc) (hE : w.cell? ⟨en, 22, none⟩ = some (.pointer (some ⟨m, 0, none⟩)))
    (hP : w.heap[p]? = some (popO k)) (hM : MemAt w m bc s) (hn : s.count ≤ 4000000000000000000) :
    Calls Tryz.prog 149 #[.pointer (some ⟨p, 0, none⟩), .pointer (some ⟨en, 0, none⟩)] w (StepPost p m bc popO k s w) := by
  have hs : stepK k s = (k.fin 2 0, s.put 2 k.q.bot k.u) := by unfold stepK stepPop; simp [ho, hk, hl]
  have HS := Lib.hid hs
  have HP := Lib.hid hP
  unfold popO at hP
  rw [ho, hl] at hP
  have c0 := cell_blk hP 0
  have c4 := cell_blk hP 4
  have c7 := cell_blk hP 7
  have c8 := cell_blk hP 8
  simp at c0 c4 c7 c8
  have HM := Lib.hid hM
  have HA := Lib.hid hA
  have he2 := ended_any w p false c0
  clear hP hM hA hs
  go_enter Tryz.func149, Tryz.ntmps149
  go_wp2_with fail
  refine he2.mono ?_; rintro e w' ⟨rfl, rfl⟩
  go_wp2_with fail
  go_quiet (fail)
  generalize hwq : w.drewN nq = wq
  have OQ : Hid (Only [] w wq) := Lib.hid (hwq ▸ (Only.refl _ _).drewN _)
  have HMQ := Lib.hid (HM.out.keep OQ.out (by simp) (by simp))
  have hEQ := OQ.out.keepCell hE (by simp)
  have HPQ := Lib.hid (OQ.out.keep HP.out (by simp))
  clear hwq hE he2 HM c0 c4 c7 c8
  have d4 := cell_blk HPQ.out 4
  have d7 := cell_blk HPQ.out 7
  have d8 := cell_blk HPQ.out 8
  simp [hl] at d4 d7 d8
  go_wp2_with fail
  go_still_tail 10, (by kernel_rfl)
  change wpList _ _ _ _ _ wq.drew
  go_wp2_with fail
  refine (st_any wq.drew m bc s k.q.bot _ HMQ.out.drew hn).mono ?_; rintro e w1 ⟨rfl, o1, h1⟩
  have O1 : Hid (Only [m, bc] w w1) := Lib.hid ((OQ.out.mono (by simp)).trans o1.undrew (by simp))
  have H1 := Lib.hid h1
  have P1 := Lib.hid (o1.keep HPQ.out HA.out.p2)
  clear o1 h1
  go_wp2_with fail
  refine (end_any _ p _ false k.code k.val 2 0 _ (by have := P1.out; unfold popO at this; rw [ho] at this; exact this)).mono ?_; rintro e w2 ⟨rfl, o2, h2⟩
  go_wp2_with fail
  go_ret
  exact StepPost.mk HS.out rfl (mach_only HA.out O1.out o2) h2 (mach_mem HA.out o2 H1.out)

end Go.Proofs.YtfhkhknnoepfeaaGreat

/- Pop's machine: the lines that take an entry; all lines. (Written by wip/gen_pop.py.) -/
namespace Go.Proofs.YtfhkhknnoepfeaaGreat
open Go.RowKit

set_option maxRecDepth 100000 in
set_option maxHeartbeats 400000 in
theorem pop_5 (w : World) (p en m bc : Nat) (k : K) (s : MS) (hk : k.kind = 1) (ho : k.over = false) (hl : k.line = 5) (hok : k.ok) (hA : Apart p en m bc) (hE : w.cell? ⟨en, 22, none⟩ = some (.pointer (some ⟨m, 0, none⟩)))
    (hP : w.heap[p]? = some (popO k)) (hM : MemAt w m bc s) (hn : s.count ≤ 4000000000000000000) :
    Calls Tryz.prog 149 #[.pointer (some ⟨p, 0, none⟩), .pointer (some ⟨en, 0, none⟩)] w (StepPost p m bc popO k s w) := by
  have hs : stepK k s = (k.fin 1 (wrap64 (s.at (ringI k.q (dec k.u)))), s.put 1 (ringI k.q (dec k.u)) (s.at (ringI k.q (dec k.u)))) := by unfold stepK stepPop; simp [ho, hk, hl]
  have HC := fun w => Lib.hid (show Calls Tryz.prog 144 #[k.q.v, .int .u64 (IntKind.u64.wrap (k.u - 1))] w fun e w' => e = .returned (.int .i64 (ringI k.q (dec k.u))) ∧ Only [] w w' from cell_any w k.q (dec k.u) (dec_bd _).1 (dec_bd _).2 hok.ring (hok.cap (by omega)))
  obtain ⟨z, hz⟩ : ∃ z, z = ringI k.q (dec k.u) := ⟨_, rfl⟩
  rw [← hz] at hs HC
  have HS := Lib.hid hs
  have hw64 : IntKind.i64.wrap (s.at z) = wrap64 (s.at z) := IntWalk.i64_left _
  clear hz hs hok
  have HP := Lib.hid hP
  unfold popO at hP
  rw [ho, hl] at hP
  have c0 := cell_blk hP 0
  have c3 := cell_blk hP 3
  have c4 := cell_blk hP 4
  have c5 := cell_blk hP 5
  have c6 := cell_blk hP 6
  have c7 := cell_blk hP 7
  have c8 := cell_blk hP 8
  simp at c0 c3 c4 c5 c6 c7 c8
  have HM := Lib.hid hM
  have HA := Lib.hid hA
  have he2 := ended_any w p false c0
  clear hP hM hA
  go_enter Tryz.func149, Tryz.ntmps149
  go_wp2_with fail
  refine he2.mono ?_; rintro e w' ⟨rfl, rfl⟩
  go_wp2_with fail
  go_quiet (fail)
  generalize hwq : w.drewN nq = wq
  have OQ : Hid (Only [] w wq) := Lib.hid (hwq ▸ (Only.refl _ _).drewN _)
  have HMQ := Lib.hid (HM.out.keep OQ.out (by simp) (by simp))
  have hEQ := OQ.out.keepCell hE (by simp)
  have HPQ := Lib.hid (OQ.out.keep HP.out (by simp))
  clear hwq hE he2 HM c0 c3 c4 c5 c6 c7 c8
  have d3 := cell_blk HPQ.out 3
  have d4 := cell_blk HPQ.out 4
  have d5 := cell_blk HPQ.out 5
  have d6 := cell_blk HPQ.out 6
  have d7 := cell_blk HPQ.out 7
  have d8 := cell_blk HPQ.out 8
  simp [hl] at d3 d4 d5 d6 d7 d8
  go_wp2_with fail
  go_region_held3 (fun w' => w'.cell? ⟨p, 3, none⟩ = some (.int .i64 k.q.top) ∧ w'.cell? ⟨p, 4, none⟩ = some (.int .i64 k.q.bot) ∧ w'.cell? ⟨p, 5, none⟩ = some (.int .i64 k.q.ring) ∧ w'.cell? ⟨p, 6, none⟩ = some (.int .i64 k.q.cap) ∧ w'.cell? ⟨p, 8, none⟩ = some (.int .u64 k.u))
    (first | exact ⟨d3, d4, d5, d6, d8⟩ | exact ⟨g3, g4, g5, g6, g8⟩ | exact ⟨j3, j4, j5, j6, j8⟩ | exact ⟨l3, l4, l5, l6, l8⟩)
    ((first
      | (go_at_call 144; refine (HC _).out.mono ?_; rintro e w1 ⟨rfl, o1⟩
         have O1 := Lib.hid o1.undrew
         have M1 := Lib.hid (HMQ.out.drew.keep o1 (by simp) (by simp))
         have P1 := Lib.hid (o1.keep HPQ.out (by simp))
         have g3 := cell_blk P1.out 3
         have g4 := cell_blk P1.out 4
         have g5 := cell_blk P1.out 5
         have g6 := cell_blk P1.out 6
         have g8 := cell_blk P1.out 8
         simp at g3 g4 g5 g6 g8
         clear o1)
      | (go_at_call 140; refine (ld_any w1 m bc s z M1.out hn).mono ?_; rintro e w2 ⟨rfl, o2, h2⟩
         have O2 := Lib.hid o2
         have H2 := Lib.hid h2
         have P2 := Lib.hid (o2.keep P1.out HA.out.p2)
         have j3 := cell_blk P2.out 3
         have j4 := cell_blk P2.out 4
         have j5 := cell_blk P2.out 5
         have j6 := cell_blk P2.out 6
         have j8 := cell_blk P2.out 8
         simp at j3 j4 j5 j6 j8
         clear o2 h2)
      | (go_at_call 142; refine (end_any w2 p _ false k.code k.val 1 _ _ (by have := P2.out; unfold popO at this; rw [ho] at this; exact this)).mono ?_; rintro e w3 ⟨rfl, o3, h3⟩
         have O3 := Lib.hid o3
         have H3 := Lib.hid h3
         have l3 := cell_blk h3 3
         have l4 := cell_blk h3 4
         have l5 := cell_blk h3 5
         have l6 := cell_blk h3 6
         have l8 := cell_blk h3 8
         simp at l3 l4 l5 l6 l8
         clear o3 h3)))
  go_wp2_with fail
  go_ret
  have o12 : Only [m, bc] w w2 := (OQ.out.mono (T := [m, bc]) (by simp)).trans ((O1.out.mono (T := [m, bc]) (by simp)).trans O2.out (by simp)) (by simp)
  exact StepPost.mk HS.out rfl (mach_only HA.out o12 O3.out) H3.out (mach_mem HA.out O3.out H2.out)

set_option maxRecDepth 100000 in
set_option maxHeartbeats 400000 in
theorem pop_8 (w : World) (p en m bc : Nat) (k : K) (s : MS) (hk : k.kind = 1) (ho : k.over = false) (hl : k.line = 8) (hok : k.ok) (hA : Apart p en m bc) (hE : w.cell? ⟨en, 22, none⟩ = some (.pointer (some ⟨m, 0, none⟩)))
    (hP : w.heap[p]? = some (popO k)) (hM : MemAt w m bc s) (hn : s.count ≤ 4000000000000000000) :
    Calls Tryz.prog 149 #[.pointer (some ⟨p, 0, none⟩), .pointer (some ⟨en, 0, none⟩)] w (StepPost p m bc popO k s w) := by
  have hs : stepK k s = (k.fin 1 (wrap64 (s.at (ringI k.q (dec k.u)))), s.put 1 (ringI k.q (dec k.u)) (s.at (ringI k.q (dec k.u)))) := by unfold stepK stepPop; simp [ho, hk, hl]
  have HC := fun w => Lib.hid (show Calls Tryz.prog 144 #[k.q.v, .int .u64 (IntKind.u64.wrap (k.u - 1))] w fun e w' => e = .returned (.int .i64 (ringI k.q (dec k.u))) ∧ Only [] w w' from cell_any w k.q (dec k.u) (dec_bd _).1 (dec_bd _).2 hok.ring (hok.cap (by omega)))
  obtain ⟨z, hz⟩ : ∃ z, z = ringI k.q (dec k.u) := ⟨_, rfl⟩
  rw [← hz] at hs HC
  have HS := Lib.hid hs
  have hw64 : IntKind.i64.wrap (s.at z) = wrap64 (s.at z) := IntWalk.i64_left _
  clear hz hs hok
  have HP := Lib.hid hP
  unfold popO at hP
  rw [ho, hl] at hP
  have c0 := cell_blk hP 0
  have c3 := cell_blk hP 3
  have c4 := cell_blk hP 4
  have c5 := cell_blk hP 5
  have c6 := cell_blk hP 6
  have c7 := cell_blk hP 7
  have c8 := cell_blk hP 8
  simp at c0 c3 c4 c5 c6 c7 c8
  have HM := Lib.hid hM
  have HA := Lib.hid hA
  have he2 := ended_any w p false c0
  clear hP hM hA
  go_enter Tryz.func149, Tryz.ntmps149
  go_wp2_with fail
  refine he2.mono ?_; rintro e w' ⟨rfl, rfl⟩
  go_wp2_with fail
  go_quiet (fail)
  generalize hwq : w.drewN nq = wq
  have OQ : Hid (Only [] w wq) := Lib.hid (hwq ▸ (Only.refl _ _).drewN _)
  have HMQ := Lib.hid (HM.out.keep OQ.out (by simp) (by simp))
  have hEQ := OQ.out.keepCell hE (by simp)
  have HPQ := Lib.hid (OQ.out.keep HP.out (by simp))
  clear hwq hE he2 HM c0 c3 c4 c5 c6 c7 c8
  have d3 := cell_blk HPQ.out 3
  have d4 := cell_blk HPQ.out 4
  have d5 := cell_blk HPQ.out 5
  have d6 := cell_blk HPQ.out 6
  have d7 := cell_blk HPQ.out 7
  have d8 := cell_blk HPQ.out 8
  simp [hl] at d3 d4 d5 d6 d7 d8
  go_wp2_with fail
  go_region_held3 (fun w' => w'.cell? ⟨p, 3, none⟩ = some (.int .i64 k.q.top) ∧ w'.cell? ⟨p, 4, none⟩ = some (.int .i64 k.q.bot) ∧ w'.cell? ⟨p, 5, none⟩ = some (.int .i64 k.q.ring) ∧ w'.cell? ⟨p, 6, none⟩ = some (.int .i64 k.q.cap) ∧ w'.cell? ⟨p, 8, none⟩ = some (.int .u64 k.u))
    (first | exact ⟨d3, d4, d5, d6, d8⟩ | exact ⟨g3, g4, g5, g6, g8⟩ | exact ⟨j3, j4, j5, j6, j8⟩ | exact ⟨l3, l4, l5, l6, l8⟩)
    ((first
      | (go_at_call 144; refine (HC _).out.mono ?_; rintro e w1 ⟨rfl, o1⟩
         have O1 := Lib.hid o1.undrew
         have M1 := Lib.hid (HMQ.out.drew.keep o1 (by simp) (by simp))
         have P1 := Lib.hid (o1.keep HPQ.out (by simp))
         have g3 := cell_blk P1.out 3
         have g4 := cell_blk P1.out 4
         have g5 := cell_blk P1.out 5
         have g6 := cell_blk P1.out 6
         have g8 := cell_blk P1.out 8
         simp at g3 g4 g5 g6 g8
         clear o1)
      | (go_at_call 140; refine (ld_any w1 m bc s z M1.out hn).mono ?_; rintro e w2 ⟨rfl, o2, h2⟩
         have O2 := Lib.hid o2
         have H2 := Lib.hid h2
         have P2 := Lib.hid (o2.keep P1.out HA.out.p2)
         have j3 := cell_blk P2.out 3
         have j4 := cell_blk P2.out 4
         have j5 := cell_blk P2.out 5
         have j6 := cell_blk P2.out 6
         have j8 := cell_blk P2.out 8
         simp at j3 j4 j5 j6 j8
         clear o2 h2)
      | (go_at_call 142; refine (end_any w2 p _ false k.code k.val 1 _ _ (by have := P2.out; unfold popO at this; rw [ho] at this; exact this)).mono ?_; rintro e w3 ⟨rfl, o3, h3⟩
         have O3 := Lib.hid o3
         have H3 := Lib.hid h3
         have l3 := cell_blk h3 3
         have l4 := cell_blk h3 4
         have l5 := cell_blk h3 5
         have l6 := cell_blk h3 6
         have l8 := cell_blk h3 8
         simp at l3 l4 l5 l6 l8
         clear o3 h3)))
  go_wp2_with fail
  go_ret
  have o12 : Only [m, bc] w w2 := (OQ.out.mono (T := [m, bc]) (by simp)).trans ((O1.out.mono (T := [m, bc]) (by simp)).trans O2.out (by simp)) (by simp)
  exact StepPost.mk HS.out rfl (mach_only HA.out o12 O3.out) H3.out (mach_mem HA.out O3.out H2.out)

theorem pop_step (w : World) (p en m bc : Nat) (k : K) (s : MS) (hk : k.kind = 1) (hok : k.over = false → k.ok) (hA : Apart p en m bc) (hE : w.cell? ⟨en, 22, none⟩ = some (.pointer (some ⟨m, 0, none⟩)))
    (hP : w.heap[p]? = some (popO k)) (hM : MemAt w m bc s) (hn : s.count ≤ 4000000000000000000) :
    Calls Tryz.prog 149 #[.pointer (some ⟨p, 0, none⟩), .pointer (some ⟨en, 0, none⟩)] w (StepPost p m bc popO k s w) := by
  cases ho : k.over with
  | true => exact pop_over w p en m bc k s ho hP hM
  | false =>
    have ok := hok ho
    have h1 := ok.line
    rcases (show k.line = 1 ∨ k.line = 2 ∨ k.line = 3 ∨ k.line = 4 ∨ k.line = 5 ∨ k.line = 6 ∨ k.line = 7 ∨ k.line = 8 ∨ k.line = 9 from by omega) with e | e | e | e | e | e | e | e | e
    · exact pop_1 w p en m bc k s hk ho e hA hE hP hM hn
    · exact pop_2 w p en m bc k s hk ho e hA hE hP hM hn
    · exact pop_3 w p en m bc k s hk ho e hA hE hP hM hn
    · exact pop_4 w p en m bc k s hk ho e hA hE hP hM hn
    · exact pop_5 w p en m bc k s hk ho e ok hA hE hP hM hn
    · exact pop_6 w p en m bc k s hk ho e hA hE hP hM hn
    · exact pop_7 w p en m bc k s hk ho e hA hE hP hM hn
    · exact pop_8 w p en m bc k s hk ho e ok hA hE hP hM hn
    · exact pop_9 w p en m bc k s hk ho e hA hE hP hM hn

end Go.Proofs.YtfhkhknnoepfeaaGreat
