/- Push's machine: what a step does. -/
import Derived.Test.YtfhkhknnoepfeaaGreatMachMem
import Derived.Deep.RegionHeld3
import Derived.StillTailTactics
import Derived.Deep.QuietTactic
import Derived.BigQuiet
namespace Go.Proofs.YtfhkhknnoepfeaaGreat
open Go.RowKit

def pushO (k : K) : Obj := .cells #[.bool k.over, .int .i64 k.code, .int .i64 k.val, .int .i64 k.q.top, .int .i64 k.q.bot, .int .i64 k.q.ring, .int .i64 k.q.cap, .int .i64 k.a, .int .i64 k.line, .int .u64 k.u] 143 (0, 0)

/-- What a step of a machine at block p comes to. -/
def StepPost (p m bc : Nat) (O : K → Obj) (k : K) (s : MS) (w : World) (e : Ending) (w' : World) : Prop :=
  e = .returned (.bool (stepK k s).1.over) ∧ Only [p, m, bc] w w' ∧ w'.heap[p]? = some (O (stepK k s).1) ∧ MemAt w' m bc (stepK k s).2

theorem StepPost.mk {p m bc : Nat} {O : K → Obj} {k k' : K} {s s' : MS} {w w' : World} {b : Bool} (h : stepK k s = (k', s')) (hb : k'.over = b) (h1 : Only [p, m, bc] w w') (h2 : w'.heap[p]? = some (O k')) (h3 : MemAt w' m bc s') : StepPost p m bc O k s w (.returned (.bool b)) w' := by
  unfold StepPost
  rw [h, hb]
  exact ⟨rfl, h1, h2, h3⟩

/-- Where a machine, its environment and its memory lie. -/
structure Apart (p e m bc : Nat) : Prop where
  pm : p ≠ m
  pc : p ≠ bc
  ep : e ≠ p
  em : e ≠ m
  ec : e ≠ bc

theorem cell_set_ne {w : World} {b b' i i' : Nat} {x : Value} (hne : b ≠ b' ∨ i ≠ i') : (w.setCell ⟨b', i', none⟩ x).cell? ⟨b, i, none⟩ = w.cell? ⟨b, i, none⟩ := by
  by_cases hb : b = b'
  · subst hb
    have hi : i ≠ i' := by rcases hne with h | h; exact absurd rfl h; exact h
    simp only [World.cell?, World.setCell, Array.getElem?_modify, ↓reduceIte]
    cases hw : w.heap[b]? with
    | none => rfl
    | some o => cases o <;> simp [Ne.symm hi]
  · have hb2 : ¬ b' = b := fun e => hb e.symm
    simp only [World.cell?, World.setCell, Array.getElem?_modify, if_neg hb2]
theorem Only.undrew {S : List Nat} {a b : World} (h : Only S a.drew b) : Only S a b := ⟨h.os, h.tape, h.output, h.size, h.block⟩
theorem Only.undrewN {S : List Nat} {a b : World} {n : Nat} (h : Only S (a.drewN n) b) : Only S a b := ⟨h.os, h.tape, h.output, h.size, h.block⟩

theorem Apart.p2 {p e m bc : Nat} (h : Apart p e m bc) : p ∉ [m, bc] := by have := h.pm; have := h.pc; simp [*]
theorem Apart.e2 {p e m bc : Nat} (h : Apart p e m bc) : e ∉ [m, bc] := by have := h.em; have := h.ec; simp [*]

/-- Behind an access, and stores into the machine's own block. -/
theorem mach_only {w w1 w2 : World} {p en m bc : Nat} (_hA : Apart p en m bc) (o1 : Only [m, bc] w w1) (o2 : Only [p] w1 w2) : Only [p, m, bc] w w2 :=
  (o1.mono (T := [p, m, bc]) (by simp)).trans o2 (by simp)
theorem mach_mem {w1 w2 : World} {p en m bc : Nat} {s1 : MS} (hA : Apart p en m bc) (o2 : Only [p] w1 w2) (h : MemAt w1 m bc s1) : MemAt w2 m bc s1 :=
  h.keep o2 (by have := hA.pm; simp; omega) (by have := hA.pc; simp; omega)

theorem push_over (w : World) (p en m bc : Nat) (k : K) (s : MS) (ho : k.over = true) (hP : w.heap[p]? = some (pushO k)) (hM : MemAt w m bc s) :
    Calls Tryz.prog 139 #[.pointer (some ⟨p, 0, none⟩), .pointer (some ⟨en, 0, none⟩)] w (StepPost p m bc pushO k s w) := by
  have FIN := Lib.hid (StepPost.mk (stepK_over ho) ho (Only.refl [p, m, bc] w) hP hM)
  unfold pushO at hP
  rw [ho] at hP
  have c0 := cell_blk hP 0
  simp at c0
  have he2 := ended_any w p true c0
  clear hP hM
  go_enter Tryz.func139, Tryz.ntmps139
  go_wp2_with fail
  refine he2.mono ?_; rintro e w' ⟨rfl, rfl⟩
  go_wp2_with fail
  go_ret
  exact FIN.out

set_option maxRecDepth 100000 in
theorem push_1 (w : World) (p en m bc : Nat) (k : K) (s : MS) (hk : k.kind = 0) (ho : k.over = false) (hl : k.line = 1) (hA : Apart p en m bc) (hE : w.cell? ⟨en, 22, none⟩ = some (.pointer (some ⟨m, 0, none⟩)))
    (hP : w.heap[p]? = some (pushO k)) (hM : MemAt w m bc s) (hn : s.count ≤ 4000000000000000000) :
    Calls Tryz.prog 139 #[.pointer (some ⟨p, 0, none⟩), .pointer (some ⟨en, 0, none⟩)] w (StepPost p m bc pushO k s w) := by
  have hs : stepK k s = ({ k with u := s.at k.q.bot, line := 2 }, s.put 1 k.q.bot (s.at k.q.bot)) := by unfold stepK stepPush; simp [ho, hk, hl]
  have FIN := fun w' h1 h2 h3 => Lib.hid (StepPost.mk (w' := w') (w := w) (p := p) (m := m) (bc := bc) (O := pushO) hs ho h1 h2 h3)
  have HP := Lib.hid hP
  unfold pushO at hP
  rw [ho, hl] at hP
  have c0 := cell_blk hP 0
  have c4 := cell_blk hP 4
  have c8 := cell_blk hP 8
  simp at c0 c4 c8
  have HM := Lib.hid hM
  have HA := Lib.hid hA
  have he2 := ended_any w p false c0
  clear hP hM hA hs
  go_enter Tryz.func139, Tryz.ntmps139
  go_wp2_with fail
  refine he2.mono ?_; rintro e w' ⟨rfl, rfl⟩
  go_wp2_with fail
  go_region_held3 (fun w' => w'.cell? ⟨en, 22, none⟩ = some (.pointer (some ⟨m, 0, none⟩)) ∧ w'.cell? ⟨p, 4, none⟩ = some (.int .i64 k.q.bot))
    (first | exact ⟨hE, c4⟩ | exact ⟨eE, g4⟩ | exact ⟨by rw [cell_set_ne (.inl HA.out.ep)]; exact eE, by rw [cell_set_ne (.inr (by omega))]; exact g4⟩)
    ((go_at_call 140; refine (ld_any w.drew m bc s k.q.bot HM.out.drew hn).mono ?_; rintro e w1 ⟨rfl, o1, h1⟩
      have O1 := Lib.hid o1.undrew
      have H1 := Lib.hid h1
      have P1 := Lib.hid (o1.keep HP.out HA.out.p2)
      have eE : w1.cell? ⟨en, 22, none⟩ = some (.pointer (some ⟨m, 0, none⟩)) := o1.keepCell hE HA.out.e2
      have g4 := cell_blk P1.out 4
      have g8 := cell_blk P1.out 8
      have g9 := cell_blk P1.out 9
      have q8 := free_blk P1.out 8
      have q9 := free_blk P1.out 9
      simp [hl] at g4 g8 g9
      clear o1 h1))
  go_wp2_with fail
  go_ret
  have o2 : Only [p] w1 ((w1.setCell ⟨p, 9, none⟩ (.int .u64 (s.at k.q.bot))).setCell ⟨p, 8, none⟩ (.int .i64 2)) := ((Only.refl _ _).setCell (by simp) _).setCell (by simp) _
  refine (FIN _ (mach_only HA.out O1.out o2) ?_ (mach_mem HA.out o2 H1.out)).out
  have e := blk_setCell (blk_setCell P1.out 9 (.int .u64 (s.at k.q.bot))) 8 (.int .i64 2)
  simp only [List.setIfInBounds_toArray, List.set_cons_zero, List.set_cons_succ] at e
  exact e

set_option maxRecDepth 100000 in
theorem push_2 (w : World) (p en m bc : Nat) (k : K) (s : MS) (hk : k.kind = 0) (ho : k.over = false) (hl : k.line = 2) (hA : Apart p en m bc) (hE : w.cell? ⟨en, 22, none⟩ = some (.pointer (some ⟨m, 0, none⟩)))
    (hP : w.heap[p]? = some (pushO k)) (hM : MemAt w m bc s) (hn : s.count ≤ 4000000000000000000) :
    Calls Tryz.prog 139 #[.pointer (some ⟨p, 0, none⟩), .pointer (some ⟨en, 0, none⟩)] w (StepPost p m bc pushO k s w) := by
  have hs : stepK k s = (if k.q.cap ≤ sz k.u (s.at k.q.top) then ({ k with v := s.at k.q.top }).fin 3 0 else { k with v := s.at k.q.top, line := 3 }, s.put 1 k.q.top (s.at k.q.top)) := by unfold stepK stepPush; simp [ho, hk, hl]
  obtain ⟨z, hz⟩ : ∃ z, z = sz k.u (s.at k.q.top) := ⟨_, rfl⟩
  rw [← hz] at hs
  have HZ := fun w => Lib.hid (show Calls Tryz.prog 141 #[.int .u64 k.u, .int .u64 (s.at k.q.top)] w fun e w' => e = .returned (.int .i64 z) ∧ w' = w from by rw [hz]; exact (size_any w _ _).mono fun _ _ h => ⟨h.1, h.2.symm⟩)
  clear hz
  have HP := Lib.hid hP
  unfold pushO at hP
  rw [ho, hl] at hP
  have c0 := cell_blk hP 0
  have c3 := cell_blk hP 3
  have c8 := cell_blk hP 8
  simp at c0 c3 c8
  have HM := Lib.hid hM
  have HA := Lib.hid hA
  have he2 := ended_any w p false c0
  have HS := Lib.hid hs
  clear hP hM hA hs
  go_enter Tryz.func139, Tryz.ntmps139
  go_wp2_with fail
  refine he2.mono ?_; rintro e w' ⟨rfl, rfl⟩
  go_wp2_with fail
  go_still_tail 9, (by kernel_rfl)
  change wpList _ _ _ _ _ w.drew
  go_wp2_with fail
  refine (ld_any w.drew m bc s k.q.top HM.out.drew hn).mono ?_; rintro e w1 ⟨rfl, o1, h1⟩
  have O1 := Lib.hid o1.undrew
  have H1 := Lib.hid h1
  have P1 := Lib.hid (o1.keep HP.out HA.out.p2)
  have g6 := cell_blk P1.out 6
  have g8 := cell_blk P1.out 8
  have g9 := cell_blk P1.out 9
  have q8 := free_blk P1.out 8
  simp [hl] at g6 g8 g9
  clear o1 h1
  by_cases hc : k.q.cap ≤ z
  · rw [if_pos hc] at HS
    have hd : decide (k.q.cap ≤ z) = true := decide_eq_true hc
    go_wp2_with fail
    go_quiet ((go_at_call 141; exact Calls.quiet_of_same (HZ _).out))
    go_wp2_with fail
    refine (end_any _ p _ false k.code k.val 3 0 _ (by have := P1.out; unfold pushO at this; rw [ho] at this; exact this)).mono ?_; rintro e w2 ⟨rfl, o2, h2⟩
    have o2' : Only [p] w1 w2 := o2.undrewN
    go_wp2_with fail
    go_ret
    exact StepPost.mk HS.out rfl (mach_only HA.out O1.out o2') h2 (mach_mem HA.out o2' H1.out)
  · rw [if_neg hc] at HS
    have hd : decide (k.q.cap ≤ z) = false := decide_eq_false hc
    have hc2 : z < k.q.cap := by omega
    go_wp2_with fail
    go_quiet ((go_at_call 141; exact Calls.quiet_of_same (HZ _).out))
    go_wp2_with fail
    go_ret
    have o2 : Only [p] w1 ((w1.setCell ⟨p, 8, none⟩ (.int .i64 3)).drewN nq) := ((Only.refl _ _).setCell (by simp) _).drewN _
    refine StepPost.mk HS.out ho (mach_only HA.out O1.out o2) ?_ (mach_mem HA.out o2 H1.out)
    have e := blk_setCell P1.out 8 (.int .i64 3)
    simp only [List.setIfInBounds_toArray, List.set_cons_zero, List.set_cons_succ] at e
    exact e

set_option maxRecDepth 100000 in
set_option maxHeartbeats 400000 in
theorem push_3 (w : World) (p en m bc : Nat) (k : K) (s : MS) (hk : k.kind = 0) (ho : k.over = false) (hl : k.line = 3) (hok : k.ok) (hA : Apart p en m bc) (hE : w.cell? ⟨en, 22, none⟩ = some (.pointer (some ⟨m, 0, none⟩)))
    (hP : w.heap[p]? = some (pushO k)) (hM : MemAt w m bc s) (hn : s.count ≤ 4000000000000000000) :
    Calls Tryz.prog 139 #[.pointer (some ⟨p, 0, none⟩), .pointer (some ⟨en, 0, none⟩)] w (StepPost p m bc pushO k s w) := by
  have hs : stepK k s = (k.go 4, s.put 2 (ringI k.q k.u) (IntKind.u64.wrap k.a)) := by unfold stepK stepPush; simp [ho, hk, hl]
  have HC := fun w => Lib.hid (cell_any w k.q k.u hok.u.1 hok.u.2 hok.ring (hok.cap (by omega)))
  obtain ⟨z, hz⟩ : ∃ z, z = ringI k.q k.u := ⟨_, rfl⟩
  rw [← hz] at hs HC
  have HS := Lib.hid hs
  clear hz hs hok
  have HP := Lib.hid hP
  unfold pushO at hP
  rw [ho, hl] at hP
  have c0 := cell_blk hP 0
  have c3 := cell_blk hP 3
  have c4 := cell_blk hP 4
  have c5 := cell_blk hP 5
  have c6 := cell_blk hP 6
  have c7 := cell_blk hP 7
  have c8 := cell_blk hP 8
  have c9 := cell_blk hP 9
  simp at c0 c3 c4 c5 c6 c7 c8 c9
  have HM := Lib.hid hM
  have HA := Lib.hid hA
  have he2 := ended_any w p false c0
  clear hP hM hA
  go_enter Tryz.func139, Tryz.ntmps139
  go_wp2_with fail
  refine he2.mono ?_; rintro e w' ⟨rfl, rfl⟩
  go_wp2_with fail
  go_region_held3 (fun w' => w'.cell? ⟨en, 22, none⟩ = some (.pointer (some ⟨m, 0, none⟩)) ∧ w'.cell? ⟨p, 3, none⟩ = some (.int .i64 k.q.top) ∧ w'.cell? ⟨p, 4, none⟩ = some (.int .i64 k.q.bot) ∧ w'.cell? ⟨p, 5, none⟩ = some (.int .i64 k.q.ring) ∧ w'.cell? ⟨p, 6, none⟩ = some (.int .i64 k.q.cap) ∧ w'.cell? ⟨p, 7, none⟩ = some (.int .i64 k.a) ∧ w'.cell? ⟨p, 9, none⟩ = some (.int .u64 k.u))
    (first | exact ⟨hE, c3, c4, c5, c6, c7, c9⟩ | exact ⟨eE, g3, g4, g5, g6, g7, g9⟩ | exact ⟨fE, j3, j4, j5, j6, j7, j9⟩)
    ((first
      | (go_at_call 144; refine (HC _).out.mono ?_; rintro e w1 ⟨rfl, o1⟩
         have O1 := Lib.hid o1.undrew
         have M1 := Lib.hid (HM.out.drew.keep o1 (by simp) (by simp))
         have P1 := Lib.hid (o1.keep HP.out (by simp))
         have eE : w1.cell? ⟨en, 22, none⟩ = some (.pointer (some ⟨m, 0, none⟩)) := o1.keepCell hE (by simp)
         have g3 := cell_blk P1.out 3
         have g4 := cell_blk P1.out 4
         have g5 := cell_blk P1.out 5
         have g6 := cell_blk P1.out 6
         have g7 := cell_blk P1.out 7
         have g9 := cell_blk P1.out 9
         simp at g3 g4 g5 g6 g7 g9
         clear o1)
      | (go_at_call 143; refine (st_any w1 m bc s z _ M1.out hn).mono ?_; rintro e w2 ⟨rfl, o2, h2⟩
         have O2 := Lib.hid o2
         have H2 := Lib.hid h2
         have P2 := Lib.hid (o2.keep P1.out HA.out.p2)
         have fE : w2.cell? ⟨en, 22, none⟩ = some (.pointer (some ⟨m, 0, none⟩)) := o2.keepCell eE HA.out.e2
         have j3 := cell_blk P2.out 3
         have j4 := cell_blk P2.out 4
         have j5 := cell_blk P2.out 5
         have j6 := cell_blk P2.out 6
         have j7 := cell_blk P2.out 7
         have j8 := cell_blk P2.out 8
         have j9 := cell_blk P2.out 9
         have q8 := free_blk P2.out 8
         simp [hl] at j3 j4 j5 j6 j7 j8 j9
         clear o2 h2)))
  go_wp2_with fail
  go_ret
  have o2 : Only [p] w2 (w2.setCell ⟨p, 8, none⟩ (.int .i64 4)) := (Only.refl _ _).setCell (by simp) _
  refine StepPost.mk HS.out ho (mach_only HA.out ((O1.out.mono (by simp)).trans O2.out (by simp)) o2) ?_ (mach_mem HA.out o2 H2.out)
  have e := blk_setCell P2.out 8 (.int .i64 4)
  simp only [List.setIfInBounds_toArray, List.set_cons_zero, List.set_cons_succ] at e
  exact e

set_option maxRecDepth 100000 in
theorem push_4 (w : World) (p en m bc : Nat) (k : K) (s : MS) (hk : k.kind = 0) (ho : k.over = false) (hl : 4 ≤ k.line) (hl9 : k.line ≤ 9) (hA : Apart p en m bc) (hE : w.cell? ⟨en, 22, none⟩ = some (.pointer (some ⟨m, 0, none⟩)))
    (hP : w.heap[p]? = some (pushO k)) (hM : MemAt w m bc s) (hn : s.count ≤ 4000000000000000000) :
    Calls Tryz.prog 139 #[.pointer (some ⟨p, 0, none⟩), .pointer (some ⟨en, 0, none⟩)] w (StepPost p m bc pushO k s w) := by
  have hs : stepK k s = (k.fin 0 0, s.put 2 k.q.bot (inc k.u)) := by
    unfold stepK stepPush
    simp only [ho, hk, if_neg (Bool.false_ne_true)]
    split
    · omega
    · omega
    · omega
    · rfl
  have HS := Lib.hid hs
  have HP := Lib.hid hP
  obtain ⟨ln, hln⟩ : ∃ ln, ln = k.line := ⟨_, rfl⟩
  unfold pushO at hP
  rw [ho, ← hln] at hP
  rw [← hln] at hl hl9
  have c0 := cell_blk hP 0
  have c4 := cell_blk hP 4
  have c8 := cell_blk hP 8
  have c9 := cell_blk hP 9
  simp at c0 c4 c8 c9
  have HM := Lib.hid hM
  have HA := Lib.hid hA
  have he2 := ended_any w p false c0
  have n1 : ((ln : Int) == 1) = false := by simp; omega
  have n2 : ((ln : Int) == 2) = false := by simp; omega
  have n3 : ((ln : Int) == 3) = false := by simp; omega
  clear hP hM hA hs hln
  go_enter Tryz.func139, Tryz.ntmps139
  go_wp2_with fail
  refine he2.mono ?_; rintro e w' ⟨rfl, rfl⟩
  go_wp2_with fail
  go_still_tail 14, (by kernel_rfl)
  change wpList _ _ _ _ _ w.drew
  go_wp2_with fail
  refine (st_any w.drew m bc s k.q.bot _ HM.out.drew hn).mono ?_; rintro e w1 ⟨rfl, o1, h1⟩
  have O1 := Lib.hid o1.undrew
  have H1 := Lib.hid h1
  have P1 := Lib.hid (o1.keep HP.out HA.out.p2)
  clear o1 h1
  go_wp2_with fail
  refine (end_any _ p _ false k.code k.val 0 0 _ (by have := P1.out; unfold pushO at this; rw [ho] at this; exact this)).mono ?_; rintro e w2 ⟨rfl, o2, h2⟩
  go_wp2_with fail
  go_ret
  exact StepPost.mk HS.out rfl (mach_only HA.out O1.out o2) h2 (mach_mem HA.out o2 H1.out)

theorem push_step (w : World) (p en m bc : Nat) (k : K) (s : MS) (hk : k.kind = 0) (hok : k.over = false → k.ok) (hA : Apart p en m bc) (hE : w.cell? ⟨en, 22, none⟩ = some (.pointer (some ⟨m, 0, none⟩)))
    (hP : w.heap[p]? = some (pushO k)) (hM : MemAt w m bc s) (hn : s.count ≤ 4000000000000000000) :
    Calls Tryz.prog 139 #[.pointer (some ⟨p, 0, none⟩), .pointer (some ⟨en, 0, none⟩)] w (StepPost p m bc pushO k s w) := by
  cases ho : k.over with
  | true => exact push_over w p en m bc k s ho hP hM
  | false =>
    have ok := hok ho
    have h1 := ok.line
    by_cases e1 : k.line = 1
    · exact push_1 w p en m bc k s hk ho e1 hA hE hP hM hn
    by_cases e2 : k.line = 2
    · exact push_2 w p en m bc k s hk ho e2 hA hE hP hM hn
    by_cases e3 : k.line = 3
    · exact push_3 w p en m bc k s hk ho e3 ok hA hE hP hM hn
    exact push_4 w p en m bc k s hk ho (by omega) h1.2 hA hE hP hM hn
end Go.Proofs.YtfhkhknnoepfeaaGreat
