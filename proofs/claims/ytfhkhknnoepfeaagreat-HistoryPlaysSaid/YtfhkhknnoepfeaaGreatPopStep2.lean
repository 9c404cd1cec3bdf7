/- Pop's machine: the lines that take an entry; all lines. (Written by wip/gen_pop.py.) -/
import Derived.Test.YtfhkhknnoepfeaaGreatPopStep
namespace Go.Proofs.YtfhkhknnoepfeaaGreat
open Go.RowKit

set_option maxRecDepth 100000 in
set_option maxHeartbeats 400000 in
theorem pop_5 (w : World) (p en m bc : Nat) (k : K) (s : MS) (hk : k.kind = 1) (ho : k.over = false) (hl : k.line = 5) (hok : k.ok) (hA : Apart p en m bc) (hE : w.cell? ⟨en, 22, none⟩ = some (.pointer (some ⟨m, 0, none⟩)))
    (hP : w.heap[p]? = some (popO k)) (hM : MemAt w m bc s) (hn : s.count ≤ 4000000000000000000) :
    Calls Tryz.prog 149 #[.pointer (some ⟨p, 0, none⟩), .pointer (some ⟨en, 0, none⟩)] w (StepPost p m bc popO k s w) := by
  have hs : stepK k s = (k.fin 1 (wrap64 (s.at (ringI k.q (dec k.u)))), s.put 1 (ringI k.q (dec k.u)) (s.at (ringI k.q (dec k.u)))) := by unfold stepK stepPop; simp [ho, hk, hl]
  have HC := fun w => Lib.hid (show Calls Tryz.prog 144 #[k.q.v, .int .u64 (IntKind.u64.wrap (k.u - 1))] w fun e w' => e = .returned (.int .i64 (ringI k.q (dec k.u))) ∧ Only [] w w' from cell_any w k.q (dec k.u) (dec_bd _).1 (dec_bd _).2 hok.ring (hok.cap (by omega)))
  obtain ⟨z, hz⟩ : ∃ z, z = ringI k.q (dec k.u) := ⟨_, rfl⟩
  rw [← hz] at hs HC
  have HS := Lib.hid hs
  have hw64 : IntKind.i64.wrap (s.at z) = wrap64 (s.at z) := IntWalk.i64_left _
  clear hz hs hok
  have HP := Lib.hid hP
  unfold popO at hP
  rw [ho, hl] at hP
  have c0 := cell_blk hP 0
  have c3 := cell_blk hP 3
  have c4 := cell_blk hP 4
  have c5 := cell_blk hP 5
  have c6 := cell_blk hP 6
  have c7 := cell_blk hP 7
  have c8 := cell_blk hP 8
  simp at c0 c3 c4 c5 c6 c7 c8
  have HM := Lib.hid hM
  have HA := Lib.hid hA
  have he2 := ended_any w p false c0
  clear hP hM hA
  go_enter Tryz.func149, Tryz.ntmps149
  go_wp2_with fail
  refine he2.mono ?_; rintro e w' ⟨rfl, rfl⟩
  go_wp2_with fail
  go_quiet (fail)
  generalize hwq : w.drewN nq = wq
  have OQ : Hid (Only [] w wq) := Lib.hid (hwq ▸ (Only.refl _ _).drewN _)
  have HMQ := Lib.hid (HM.out.keep OQ.out (by simp) (by simp))
  have hEQ := OQ.out.keepCell hE (by simp)
  have HPQ := Lib.hid (OQ.out.keep HP.out (by simp))
  clear hwq hE he2 HM c0 c3 c4 c5 c6 c7 c8
  have d3 := cell_blk HPQ.out 3
  have d4 := cell_blk HPQ.out 4
  have d5 := cell_blk HPQ.out 5
  have d6 := cell_blk HPQ.out 6
  have d7 := cell_blk HPQ.out 7
  have d8 := cell_blk HPQ.out 8
  simp [hl] at d3 d4 d5 d6 d7 d8
  go_wp2_with fail
  go_region_held3 (fun w' => w'.cell? ⟨p, 3, none⟩ = some (.int .i64 k.q.top) ∧ w'.cell? ⟨p, 4, none⟩ = some (.int .i64 k.q.bot) ∧ w'.cell? ⟨p, 5, none⟩ = some (.int .i64 k.q.ring) ∧ w'.cell? ⟨p, 6, none⟩ = some (.int .i64 k.q.cap) ∧ w'.cell? ⟨p, 8, none⟩ = some (.int .u64 k.u))
    (first | exact ⟨d3, d4, d5, d6, d8⟩ | exact ⟨g3, g4, g5, g6, g8⟩ | exact ⟨j3, j4, j5, j6, j8⟩ | exact ⟨l3, l4, l5, l6, l8⟩)
    ((first
      | (go_at_call 144; refine (HC _).out.mono ?_; rintro e w1 ⟨rfl, o1⟩
         have O1 := Lib.hid o1.undrew
         have M1 := Lib.hid (HMQ.out.drew.keep o1 (by simp) (by simp))
         have P1 := Lib.hid (o1.keep HPQ.out (by simp))
         have g3 := cell_blk P1.out 3
         have g4 := cell_blk P1.out 4
         have g5 := cell_blk P1.out 5
         have g6 := cell_blk P1.out 6
         have g8 := cell_blk P1.out 8
         simp at g3 g4 g5 g6 g8
         clear o1)
      | (go_at_call 140; refine (ld_any w1 m bc s z M1.out hn).mono ?_; rintro e w2 ⟨rfl, o2, h2⟩
         have O2 := Lib.hid o2
         have H2 := Lib.hid h2
         have P2 := Lib.hid (o2.keep P1.out HA.out.p2)
         have j3 := cell_blk P2.out 3
         have j4 := cell_blk P2.out 4
         have j5 := cell_blk P2.out 5
         have j6 := cell_blk P2.out 6
         have j8 := cell_blk P2.out 8
         simp at j3 j4 j5 j6 j8
         clear o2 h2)
      | (go_at_call 142; refine (end_any w2 p _ false k.code k.val 1 _ _ (by have := P2.out; unfold popO at this; rw [ho] at this; exact this)).mono ?_; rintro e w3 ⟨rfl, o3, h3⟩
         have O3 := Lib.hid o3
         have H3 := Lib.hid h3
         have l3 := cell_blk h3 3
         have l4 := cell_blk h3 4
         have l5 := cell_blk h3 5
         have l6 := cell_blk h3 6
         have l8 := cell_blk h3 8
         simp at l3 l4 l5 l6 l8
         clear o3 h3)))
  go_wp2_with fail
  go_ret
  have o12 : Only [m, bc] w w2 := (OQ.out.mono (T := [m, bc]) (by simp)).trans ((O1.out.mono (T := [m, bc]) (by simp)).trans O2.out (by simp)) (by simp)
  exact StepPost.mk HS.out rfl (mach_only HA.out o12 O3.out) H3.out (mach_mem HA.out O3.out H2.out)

set_option maxRecDepth 100000 in
set_option maxHeartbeats 400000 in
theorem pop_8 (w : World) (p en m bc : Nat) (k : K) (s : MS) (hk : k.kind = 1) (ho : k.over = false) (hl : k.line = 8) (hok : k.ok) (hA : Apart p en m bc) (hE : w.cell? ⟨en, 22, none⟩ = some (.pointer (some ⟨m, 0, none⟩)))
    (hP : w.heap[p]? = some (popO k)) (hM : MemAt w m bc s) (hn : s.count ≤ 4000000000000000000) :
    Calls Tryz.prog 149 #[.pointer (some ⟨p, 0, none⟩), .pointer (some ⟨en, 0, none⟩)] w (StepPost p m bc popO k s w) := by
  have hs : stepK k s = (k.fin 1 (wrap64 (s.at (ringI k.q (dec k.u)))), s.put 1 (ringI k.q (dec k.u)) (s.at (ringI k.q (dec k.u)))) := by unfold stepK stepPop; simp [ho, hk, hl]
  have HC := fun w => Lib.hid (show Calls Tryz.prog 144 #[k.q.v, .int .u64 (IntKind.u64.wrap (k.u - 1))] w fun e w' => e = .returned (.int .i64 (ringI k.q (dec k.u))) ∧ Only [] w w' from cell_any w k.q (dec k.u) (dec_bd _).1 (dec_bd _).2 hok.ring (hok.cap (by omega)))
  obtain ⟨z, hz⟩ : ∃ z, z = ringI k.q (dec k.u) := ⟨_, rfl⟩
  rw [← hz] at hs HC
  have HS := Lib.hid hs
  have hw64 : IntKind.i64.wrap (s.at z) = wrap64 (s.at z) := IntWalk.i64_left _
  clear hz hs hok
  have HP := Lib.hid hP
  unfold popO at hP
  rw [ho, hl] at hP
  have c0 := cell_blk hP 0
  have c3 := cell_blk hP 3
  have c4 := cell_blk hP 4
  have c5 := cell_blk hP 5
  have c6 := cell_blk hP 6
  have c7 := cell_blk hP 7
  have c8 := cell_blk hP 8
  simp at c0 c3 c4 c5 c6 c7 c8
  have HM := Lib.hid hM
  have HA := Lib.hid hA
  have he2 := ended_any w p false c0
  clear hP hM hA
  go_enter Tryz.func149, Tryz.ntmps149
  go_wp2_with fail
  refine he2.mono ?_; rintro e w' ⟨rfl, rfl⟩
  go_wp2_with fail
  go_quiet (fail)
  generalize hwq : w.drewN nq = wq
  have OQ : Hid (Only [] w wq) := Lib.hid (hwq ▸ (Only.refl _ _).drewN _)
  have HMQ := Lib.hid (HM.out.keep OQ.out (by simp) (by simp))
  have hEQ := OQ.out.keepCell hE (by simp)
  have HPQ := Lib.hid (OQ.out.keep HP.out (by simp))
  clear hwq hE he2 HM c0 c3 c4 c5 c6 c7 c8
  have d3 := cell_blk HPQ.out 3
  have d4 := cell_blk HPQ.out 4
  have d5 := cell_blk HPQ.out 5
  have d6 := cell_blk HPQ.out 6
  have d7 := cell_blk HPQ.out 7
  have d8 := cell_blk HPQ.out 8
  simp [hl] at d3 d4 d5 d6 d7 d8
  go_wp2_with fail
  go_region_held3 (fun w' => w'.cell? ⟨p, 3, none⟩ = some (.int .i64 k.q.top) ∧ w'.cell? ⟨p, 4, none⟩ = some (.int .i64 k.q.bot) ∧ w'.cell? ⟨p, 5, none⟩ = some (.int .i64 k.q.ring) ∧ w'.cell? ⟨p, 6, none⟩ = some (.int .i64 k.q.cap) ∧ w'.cell? ⟨p, 8, none⟩ = some (.int .u64 k.u))
    (first | exact ⟨d3, d4, d5, d6, d8⟩ | exact ⟨g3, g4, g5, g6, g8⟩ | exact ⟨j3, j4, j5, j6, j8⟩ | exact ⟨l3, l4, l5, l6, l8⟩)
    ((first
      | (go_at_call 144; refine (HC _).out.mono ?_; rintro e w1 ⟨rfl, o1⟩
         have O1 := Lib.hid o1.undrew
         have M1 := Lib.hid (HMQ.out.drew.keep o1 (by simp) (by simp))
         have P1 := Lib.hid (o1.keep HPQ.out (by simp))
         have g3 := cell_blk P1.out 3
         have g4 := cell_blk P1.out 4
         have g5 := cell_blk P1.out 5
         have g6 := cell_blk P1.out 6
         have g8 := cell_blk P1.out 8
         simp at g3 g4 g5 g6 g8
         clear o1)
      | (go_at_call 140; refine (ld_any w1 m bc s z M1.out hn).mono ?_; rintro e w2 ⟨rfl, o2, h2⟩
         have O2 := Lib.hid o2
         have H2 := Lib.hid h2
         have P2 := Lib.hid (o2.keep P1.out HA.out.p2)
         have j3 := cell_blk P2.out 3
         have j4 := cell_blk P2.out 4
         have j5 := cell_blk P2.out 5
         have j6 := cell_blk P2.out 6
         have j8 := cell_blk P2.out 8
         simp at j3 j4 j5 j6 j8
         clear o2 h2)
      | (go_at_call 142; refine (end_any w2 p _ false k.code k.val 1 _ _ (by have := P2.out; unfold popO at this; rw [ho] at this; exact this)).mono ?_; rintro e w3 ⟨rfl, o3, h3⟩
         have O3 := Lib.hid o3
         have H3 := Lib.hid h3
         have l3 := cell_blk h3 3
         have l4 := cell_blk h3 4
         have l5 := cell_blk h3 5
         have l6 := cell_blk h3 6
         have l8 := cell_blk h3 8
         simp at l3 l4 l5 l6 l8
         clear o3 h3)))
  go_wp2_with fail
  go_ret
  have o12 : Only [m, bc] w w2 := (OQ.out.mono (T := [m, bc]) (by simp)).trans ((O1.out.mono (T := [m, bc]) (by simp)).trans O2.out (by simp)) (by simp)
  exact StepPost.mk HS.out rfl (mach_only HA.out o12 O3.out) H3.out (mach_mem HA.out O3.out H2.out)

theorem pop_step (w : World) (p en m bc : Nat) (k : K) (s : MS) (hk : k.kind = 1) (hok : k.over = false → k.ok) (hA : Apart p en m bc) (hE : w.cell? ⟨en, 22, none⟩ = some (.pointer (some ⟨m, 0, none⟩)))
    (hP : w.heap[p]? = some (popO k)) (hM : MemAt w m bc s) (hn : s.count ≤ 4000000000000000000) :
    Calls Tryz.prog 149 #[.pointer (some ⟨p, 0, none⟩), .pointer (some ⟨en, 0, none⟩)] w (StepPost p m bc popO k s w) := by
  cases ho : k.over with
  | true => exact pop_over w p en m bc k s ho hP hM
  | false =>
    have ok := hok ho
    have h1 := ok.line
    rcases (show k.line = 1 ∨ k.line = 2 ∨ k.line = 3 ∨ k.line = 4 ∨ k.line = 5 ∨ k.line = 6 ∨ k.line = 7 ∨ k.line = 8 ∨ k.line = 9 from by omega) with e | e | e | e | e | e | e | e | e
    · exact pop_1 w p en m bc k s hk ho e hA hE hP hM hn
    · exact pop_2 w p en m bc k s hk ho e hA hE hP hM hn
    · exact pop_3 w p en m bc k s hk ho e hA hE hP hM hn
    · exact pop_4 w p en m bc k s hk ho e hA hE hP hM hn
    · exact pop_5 w p en m bc k s hk ho e ok hA hE hP hM hn
    · exact pop_6 w p en m bc k s hk ho e hA hE hP hM hn
    · exact pop_7 w p en m bc k s hk ho e hA hE hP hM hn
    · exact pop_8 w p en m bc k s hk ho e ok hA hE hP hM hn
    · exact pop_9 w p en m bc k s hk ho e hA hE hP hM hn

end Go.Proofs.YtfhkhknnoepfeaaGreat
