/- The reference's lines of steal, walked. (Written by wip/gen_refstep.py.) -/
import Derived.Test.YtfhkhknnoepfeaaGreatMgK
import Derived.Test.YtfhkhknnoepfeaaGreatDqKeep
namespace Go.Proofs.YtfhkhknnoepfeaaGreat
open Go.RowKit
set_option linter.unusedVariables false
set_option linter.unusedSimpArgs false

set_option maxRecDepth 100000 in
set_option maxHeartbeats 1000000 in
theorem rsteal_1 (w : World) (fb r rc : Nat) (now : Int) (k : K) (s : MS) (hk : k.kind = 2) (hl : k.line = 1) (ho : k.over = false) (h0 : k.code = 0 ∧ k.val = 0) (hA : RAp fb r rc) (hrc : rc < w.heap.size) (hF : w.heap[fb]? = some (frmO k)) (hR : REnvAt w r rc s now) (hn : s.count ≤ 4000000000000000000) :
    Calls Tryz.prog 53 #[.pointer (some ⟨r, 0, none⟩), .pointer (some ⟨fb, 0, none⟩)] w (RLeaf fb r rc now k s w) := by
  have hs : stepK k s = ({ k with v := s.at k.q.top, line := 2 }, s.put 1 k.q.top (s.at k.q.top)) := by
    unfold stepK stepSteal; simp [ho, hk, hl]
  have HS := Lib.hid hs
  have HO := Lib.hid ho
  have H0 := Lib.hid h0
  have IN := Lib.hid (RIn.new hF hR hrc)
  have HA := Lib.hid hA
  have c1 := cell_blk IN.out.f 1
  have c2 := cell_blk IN.out.f 2
  simp [frmC, hl] at c1 c2
  have HL := Lib.hid hl
  obtain ⟨tb, htb⟩ : ∃ tb, tb = w.heap.size := ⟨_, rfl⟩
  have HTB := Lib.hid htb.symm
  have hlt := lt_of_blk hF
  clear hs h0 hA hR hF hl ho
  unfold resO at c1 c2
  go_enter Tryz.func53, Tryz.ntmps53
  go_wp2_with fail
  refine (rload_any (w.alloc resO) r rc s now k.q.top IN.out.e hn).mono ?_; rintro e w1 ⟨rfl, o1, h1⟩
  obtain ⟨t1, f1, o2⟩ := IN.out.acc HA.out o1 h1
  rw [HTB.out] at t1
  have n1 : fb ≠ tb := HTB.out ▸ IN.out.n1
  have n2 : tb ≠ fb := fun e => n1 e.symm
  have T1 := Lib.hid t1
  have F1 := Lib.hid f1
  have O2 := Lib.hid o2
  have E1 := Lib.hid h1
  have d1 := cell_blk f1 1
  have d14 := cell_blk f1 14
  simp [frmC, HL.out] at d1 d14
  have e1 := free_blk f1 1
  have e14 := free_blk f1 14
  have t00 := cell_blk t1 0
  have t01 := cell_blk t1 1
  have t02 := cell_blk t1 2
  have t10 := free_blk t1 0
  have t11 := free_blk t1 1
  have t12 := free_blk t1 2
  simp at t00 t01 t02
  rw [HTB.out]
  clear o1 h1 t1 f1 o2 htb c1 c2
  go_wp2_with fail
  refine bodyPost_ret (v := .agg #[.bool false, (.int .i64 (0)), (.int .i64 (0))]) (by simp [results, Tryz.results53, go_sem, t00, t01, t02]) rfl ?_
  have o3 : Only [fb] w1 ((w1.setCell ⟨fb, 14, none⟩ (.int .u64 (s.at k.q.top))).setCell ⟨fb, 1, none⟩ (.int .i64 2)) := (((Only.refl _ _).setCell (by simp) _).setCell (by simp) _)
  exact RLeaf.fin HS.out HO.out H0.out.1 H0.out.2 (o3.keep T1.out (by simp; omega)) (frm_set (frm_set F1.out)) (E1.out.keep o3 (by have := HA.out.fr; simp; omega) (by have := HA.out.fc; simp; omega)) (O2.out.trans o3 (by simp)) n1 (HTB.out ▸ IN.out.n2) (HTB.out ▸ IN.out.n3) (HTB.out ▸ IN.out.n4)

set_option maxRecDepth 100000 in
set_option maxHeartbeats 1000000 in
theorem rsteal_2 (w : World) (fb r rc : Nat) (now : Int) (k : K) (s : MS) (hk : k.kind = 2) (hl : k.line = 2) (ho : k.over = false) (h0 : k.code = 0 ∧ k.val = 0) (hA : RAp fb r rc) (hrc : rc < w.heap.size) (hF : w.heap[fb]? = some (frmO k)) (hR : REnvAt w r rc s now) (hn : s.count ≤ 4000000000000000000) :
    Calls Tryz.prog 53 #[.pointer (some ⟨r, 0, none⟩), .pointer (some ⟨fb, 0, none⟩)] w (RLeaf fb r rc now k s w) := by
  obtain ⟨z, hz⟩ : ∃ z, z = sz (s.at k.q.bot) k.v := ⟨_, rfl⟩
  have HZ := fun w => Lib.hid (show Calls Tryz.prog 84 #[.int .u64 (s.at k.q.bot), .int .u64 k.v] w fun e w' => e = .returned (.int .i64 z) ∧ w' = w from by rw [hz]; exact (rsize_any w _ _).mono fun _ _ h => ⟨h.1, h.2.symm⟩)
  have hs : stepK k s = (if z ≤ 0 then ({ k with u := s.at k.q.bot } : K).fin 2 0 else { k with u := s.at k.q.bot, line := 3 }, s.put 1 k.q.bot (s.at k.q.bot)) := by
    unfold stepK stepSteal; simp [ho, hk, hl, hz]
  have HS := Lib.hid hs
  have HO := Lib.hid ho
  have H0 := Lib.hid h0
  have IN := Lib.hid (RIn.new hF hR hrc)
  have HA := Lib.hid hA
  have c1 := cell_blk IN.out.f 1
  have c3 := cell_blk IN.out.f 3
  simp [frmC, hl] at c1 c3
  have HL := Lib.hid hl
  obtain ⟨tb, htb⟩ : ∃ tb, tb = w.heap.size := ⟨_, rfl⟩
  have HTB := Lib.hid htb.symm
  have hlt := lt_of_blk hF
  clear hz
  clear hs h0 hA hR hF hl ho
  unfold resO at c1 c3
  go_enter Tryz.func53, Tryz.ntmps53
  go_wp2_with fail
  refine (rload_any (w.alloc resO) r rc s now k.q.bot IN.out.e hn).mono ?_; rintro e w1 ⟨rfl, o1, h1⟩
  obtain ⟨t1, f1, o2⟩ := IN.out.acc HA.out o1 h1
  rw [HTB.out] at t1
  have n1 : fb ≠ tb := HTB.out ▸ IN.out.n1
  have n2 : tb ≠ fb := fun e => n1 e.symm
  have T1 := Lib.hid t1
  have F1 := Lib.hid f1
  have O2 := Lib.hid o2
  have E1 := Lib.hid h1
  have d1 := cell_blk f1 1
  have d13 := cell_blk f1 13
  simp [frmC, HL.out] at d1 d13
  have e1 := free_blk f1 1
  have e13 := free_blk f1 13
  rw [HTB.out]
  clear o1 h1 t1 f1 o2 htb c1 c3
  go_wp2_with fail
  obtain ⟨w2, hw2⟩ : ∃ w2, w2 = w1.setCell ⟨fb, 13, none⟩ (.int .u64 (s.at k.q.bot)) := ⟨_, rfl⟩
  rw [← hw2]
  have o3 : Only [fb] w1 w2 := by rw [hw2]; exact (Only.refl _ _).setCell (by simp) _
  have f2 : w2.heap[fb]? = some (frmO { k with u := s.at k.q.bot }) := by rw [hw2]; exact frm_set F1.out
  have F2 := Lib.hid f2
  have t2 := o3.keep T1.out (by simp; omega)
  have T2 := Lib.hid t2
  have E2 := Lib.hid (E1.out.keep o3 (by have := HA.out.fr; simp; omega) (by have := HA.out.fc; simp; omega))
  have O3 : Hid (Only [fb, r, rc] w w2) := Lib.hid (O2.out.trans o3 (by simp))
  have g1 := cell_blk f2 1
  have g5 := cell_blk f2 5
  have g13 := cell_blk f2 13
  have g14 := cell_blk f2 14
  simp [frmC, HL.out] at g1 g5 g13 g14
  have y1 := free_blk f2 1
  clear f2 hw2 o3 d1 d13 e1 e13
  by_cases hc : z ≤ 0
  · rw [if_pos hc] at HS
    have hd : decide (z ≤ 0) = true := decide_eq_true (by omega)
    clear t2
    go_quiet ((go_at_call 84; exact Calls.quiet_of_same (HZ _).out))
    go_wp2_with fail
    refine (end8_any _ 2 0).mono ?_; rintro e w9 ⟨rfl, o9'⟩
    have o9 : Only [] w2 w9 := o9'.undrewN
    have T9 := o9.keep T2.out (by simp)
    have t00 := cell_blk T9 0
    have t01 := cell_blk T9 1
    have t02 := cell_blk T9 2
    have t10 := free_blk T9 0
    have t11 := free_blk T9 1
    have t12 := free_blk T9 2
    simp at t00 t01 t02
    have O9 := Lib.hid o9
    clear o9 o9' T9
    go_wp2_with fail
    refine bodyPost_ret (v := .agg #[.bool true, (.int .i64 (2)), (.int .i64 (0))]) (by simp [results, Tryz.results53, go_sem, t00, t01, t02]) rfl ?_
    have o9 := O9.out
    exact RLeaf.fin HS.out rfl rfl rfl (o9.keep T2.out (by simp)) (o9.keep F2.out (by simp)) (E2.out.keep0 o9) (O3.out.then0 o9) n1 (HTB.out ▸ IN.out.n2) (HTB.out ▸ IN.out.n3) (HTB.out ▸ IN.out.n4)
  · rw [if_neg hc] at HS
    have hd : decide (z ≤ 0) = false := decide_eq_false (by omega)
    have hc2 : ¬ (z ≤ 0) := by omega
    have t00 := cell_blk t2 0
    have t01 := cell_blk t2 1
    have t02 := cell_blk t2 2
    have t10 := free_blk t2 0
    have t11 := free_blk t2 1
    have t12 := free_blk t2 2
    simp at t00 t01 t02
    clear t2
    go_quiet ((go_at_call 84; exact Calls.quiet_of_same (HZ _).out))
    go_wp2_with fail
    refine bodyPost_ret (v := .agg #[.bool false, (.int .i64 (0)), (.int .i64 (0))]) (by simp [results, Tryz.results53, go_sem, t00, t01, t02]) rfl ?_
    have o3 : Only [fb] w2 (w2.setCell ⟨fb, 1, none⟩ (.int .i64 3)) := ((Only.refl _ _).setCell (by simp) _)
    exact (RLeaf.fin HS.out HO.out H0.out.1 H0.out.2 (o3.keep T2.out (by simp; omega)) (frm_set F2.out) (E2.out.keep o3 (by have := HA.out.fr; simp; omega) (by have := HA.out.fc; simp; omega)) (O3.out.trans o3 (by simp)) n1 (HTB.out ▸ IN.out.n2) (HTB.out ▸ IN.out.n3) (HTB.out ▸ IN.out.n4)).drewN _

set_option maxRecDepth 100000 in
set_option maxHeartbeats 1000000 in
theorem rsteal_3 (w : World) (fb r rc : Nat) (now : Int) (k : K) (s : MS) (hk : k.kind = 2) (hl : k.line = 3) (ho : k.over = false) (h0 : k.code = 0 ∧ k.val = 0) (hok : k.ok) (hA : RAp fb r rc) (hrc : rc < w.heap.size) (hF : w.heap[fb]? = some (frmO k)) (hR : REnvAt w r rc s now) (hn : s.count ≤ 4000000000000000000) :
    Calls Tryz.prog 53 #[.pointer (some ⟨r, 0, none⟩), .pointer (some ⟨fb, 0, none⟩)] w (RLeaf fb r rc now k s w) := by
  have HC := fun w => Lib.hid (ring_any w k.q k.v hok.v.1 hok.v.2 hok.ring (hok.cap (by omega)))
  obtain ⟨z, hz⟩ : ∃ z, z = ringI k.q k.v := ⟨_, rfl⟩
  rw [← hz] at HC
  have hs : stepK k s = ({ k with w := s.at z, line := 4 }, s.put 1 z (s.at z)) := by
    unfold stepK stepSteal; simp [ho, hk, hl, hz]
  have HS := Lib.hid hs
  have HO := Lib.hid ho
  have H0 := Lib.hid h0
  have IN := Lib.hid (RIn.new hF hR hrc)
  have HA := Lib.hid hA
  have c1 := cell_blk IN.out.f 1
  simp [frmC, hl] at c1
  have HL := Lib.hid hl
  obtain ⟨tb, htb⟩ : ∃ tb, tb = w.heap.size := ⟨_, rfl⟩
  have HTB := Lib.hid htb.symm
  have hlt := lt_of_blk hF
  clear hz hok
  clear hs h0 hA hR hF hl ho
  unfold resO at c1
  go_enter Tryz.func53, Tryz.ntmps53
  go_wp2_with fail
  clear c1
  obtain ⟨w0, hw0⟩ : ∃ w0, w0 = w.alloc (.cells #[.bool false, .int .i64 0, .int .i64 0] 136) := ⟨_, rfl⟩
  rw [← hw0]
  rw [HTB.out]
  have IN0 : Hid (RIn w w0 tb fb r rc now k s) := Lib.hid (by rw [hw0, htb]; exact IN.out)
  have c2 := cell_blk IN0.out.f 2
  have c3 := cell_blk IN0.out.f 3
  have c4 := cell_blk IN0.out.f 4
  have c5 := cell_blk IN0.out.f 5
  have c14 := cell_blk IN0.out.f 14
  simp [frmC] at c2 c3 c4 c5 c14
  clear hw0 htb
  have n1 : fb ≠ tb := HTB.out ▸ IN.out.n1
  have n2 : tb ≠ fb := fun e => n1 e.symm
  go_region_held3 (fun w' => w'.cell? ⟨fb, 2, none⟩ = some (.int .i64 k.q.top) ∧ w'.cell? ⟨fb, 3, none⟩ = some (.int .i64 k.q.bot) ∧ w'.cell? ⟨fb, 4, none⟩ = some (.int .i64 k.q.ring) ∧ w'.cell? ⟨fb, 5, none⟩ = some (.int .i64 k.q.cap) ∧ w'.cell? ⟨fb, 14, none⟩ = some (.int .u64 k.v))
    (first | exact ⟨c2, c3, c4, c5, c14⟩ | exact ⟨g2, g3, g4, g5, g14⟩ | exact ⟨j2, j3, j4, j5, j14⟩ | exact ⟨by rw [cell_set_ne (.inr (by omega))]; exact j2, by rw [cell_set_ne (.inr (by omega))]; exact j3, by rw [cell_set_ne (.inr (by omega))]; exact j4, by rw [cell_set_ne (.inr (by omega))]; exact j5, by rw [cell_set_ne (.inr (by omega))]; exact j14⟩)
    ((first
      | (go_at_call 85; refine (HC _).out.mono ?_; rintro e w1 ⟨rfl, o1⟩
         have O1 := Lib.hid o1.undrew
         have M1 := Lib.hid (IN0.out.drew.e.keep0 o1)
         have F1 := Lib.hid (o1.keep IN0.out.drew.f (by simp))
         have T1 := Lib.hid (o1.keep IN0.out.drew.t (by simp))
         have g2 := cell_blk F1.out 2
         have g3 := cell_blk F1.out 3
         have g4 := cell_blk F1.out 4
         have g5 := cell_blk F1.out 5
         have g14 := cell_blk F1.out 14
         simp [frmC] at g2 g3 g4 g5 g14
         clear o1)
      | (go_at_call 58; refine (rload_any w1 r rc s now z M1.out hn).mono ?_; rintro e w2 ⟨rfl, o2, h2⟩
         have O2 := Lib.hid o2
         have E2 := Lib.hid h2
         have f2 := o2.keep F1.out (by have := HA.out.fr; have := HA.out.fc; simp; omega)
         have t2 := o2.keep T1.out (by have := IN0.out.n2; have := IN0.out.n3; simp; omega)
         have F2 := Lib.hid f2
         have T2 := Lib.hid t2
         have j2 := cell_blk f2 2
         have j3 := cell_blk f2 3
         have j4 := cell_blk f2 4
         have j5 := cell_blk f2 5
         have j14 := cell_blk f2 14
         simp [frmC] at j2 j3 j4 j5 j14
         have j1 := cell_blk f2 1
         have j15 := cell_blk f2 15
         simp [frmC, HL.out] at j1 j15
         have y1 := free_blk f2 1
         have y15 := free_blk f2 15
         have t00 := cell_blk t2 0
         have t01 := cell_blk t2 1
         have t02 := cell_blk t2 2
         have t10 := free_blk t2 0
         have t11 := free_blk t2 1
         have t12 := free_blk t2 2
         simp at t00 t01 t02
         clear o2 h2 f2 t2)))
  have O12 : Hid (Only [fb, r, rc] w w2) := Lib.hid (((IN0.out.o.mono (T := [fb, r, rc]) (by simp)).then0 O1.out).trans O2.out (by simp))
  go_wp2_with fail
  refine bodyPost_ret (v := .agg #[.bool false, (.int .i64 (0)), (.int .i64 (0))]) (by simp [results, Tryz.results53, go_sem, t00, t01, t02]) rfl ?_
  have o3 : Only [fb] w2 ((w2.setCell ⟨fb, 15, none⟩ (.int .u64 (s.at z))).setCell ⟨fb, 1, none⟩ (.int .i64 4)) := (((Only.refl _ _).setCell (by simp) _).setCell (by simp) _)
  exact RLeaf.fin HS.out HO.out H0.out.1 H0.out.2 (o3.keep T2.out (by simp; omega)) (frm_set (frm_set F2.out)) (E2.out.keep o3 (by have := HA.out.fr; simp; omega) (by have := HA.out.fc; simp; omega)) (O12.out.trans o3 (by simp)) n1 (HTB.out ▸ IN.out.n2) (HTB.out ▸ IN.out.n3) (HTB.out ▸ IN.out.n4)

set_option maxRecDepth 100000 in
set_option maxHeartbeats 1000000 in
theorem rsteal_4 (w : World) (fb r rc : Nat) (now : Int) (k : K) (s : MS) (hk : k.kind = 2) (hl : 4 ≤ k.line) (hl9 : k.line ≤ 9) (ho : k.over = false) (h0 : k.code = 0 ∧ k.val = 0) (hA : RAp fb r rc) (hrc : rc < w.heap.size) (hF : w.heap[fb]? = some (frmO k)) (hR : REnvAt w r rc s now) (hn : s.count ≤ 4000000000000000000) :
    Calls Tryz.prog 53 #[.pointer (some ⟨r, 0, none⟩), .pointer (some ⟨fb, 0, none⟩)] w (RLeaf fb r rc now k s w) := by
  obtain ⟨b, hb⟩ : ∃ b, b = (s.has k.q.top && s.at k.q.top == k.v) := ⟨_, rfl⟩
  have HC := fun w h => Lib.hid (show Calls Tryz.prog 60 #[.pointer (some ⟨r, 0, none⟩), .int .i64 k.q.top, .int .u64 k.v, .int .u64 (IntKind.u64.wrap (k.v + 1))] w fun e w' => e = .returned (.bool b) ∧ Only [r, rc] w w' ∧ REnvAt w' r rc (s.put 3 k.q.top (casB (s.at k.q.top) k.v (inc k.v))) now from by rw [hb]; exact rcas_any w r rc s now k.q.top k.v _ h hn)
  have hw64 : IntKind.i64.wrap k.w = wrap64 k.w := IntWalk.i64_left _
  have hs : stepK k s = (if b then k.fin 1 (wrap64 k.w) else k.fin 4 0, s.put 3 k.q.top (casB (s.at k.q.top) k.v (inc k.v))) := by
    unfold stepK stepSteal
    simp only [ho, hk, if_neg (Bool.false_ne_true), hb]
    split
    · omega
    · omega
    · omega
    · rfl
  have HS := Lib.hid hs
  have HO := Lib.hid ho
  have H0 := Lib.hid h0
  have IN := Lib.hid (RIn.new hF hR hrc)
  have HA := Lib.hid hA
  have c1 := cell_blk IN.out.f 1
  simp [frmC] at c1
  obtain ⟨ln, hln⟩ : ∃ ln, ln = k.line := ⟨_, rfl⟩
  rw [← hln] at c1 hl hl9
  have m1 : ((ln : Int) == 1) = false := by simp; omega
  have m2 : ((ln : Int) == 2) = false := by simp; omega
  have m3 : ((ln : Int) == 3) = false := by simp; omega
  have HL := Lib.hid hl
  obtain ⟨tb, htb⟩ : ∃ tb, tb = w.heap.size := ⟨_, rfl⟩
  have HTB := Lib.hid htb.symm
  have hlt := lt_of_blk hF
  clear hb
  clear hs h0 hA hR hF hl ho hln
  unfold resO at c1
  go_enter Tryz.func53, Tryz.ntmps53
  go_wp2_with fail
  clear c1
  obtain ⟨w0, hw0⟩ : ∃ w0, w0 = w.alloc (.cells #[.bool false, .int .i64 0, .int .i64 0] 136) := ⟨_, rfl⟩
  rw [← hw0]
  rw [HTB.out]
  have IN0 : Hid (RIn w w0 tb fb r rc now k s) := Lib.hid (by rw [hw0, htb]; exact IN.out)
  have c2 := cell_blk IN0.out.f 2
  have c14 := cell_blk IN0.out.f 14
  simp [frmC] at c2 c14
  clear hw0 htb
  go_still_tail 15, (by kernel_rfl)
  change wpList _ _ _ _ _ w0.drew
  go_wp2_with fail
  refine ((HC w0.drew IN0.out.drew.e).out).mono ?_; rintro e w1 ⟨rfl, o1, h1⟩
  obtain ⟨t1, f1, o2⟩ := IN0.out.drew.acc HA.out o1 h1
  have n1 : fb ≠ tb := HTB.out ▸ IN.out.n1
  have n2 : tb ≠ fb := fun e => n1 e.symm
  have T1 := Lib.hid t1
  have F1 := Lib.hid f1
  have O2 := Lib.hid o2
  have E1 := Lib.hid h1
  have d1 := cell_blk f1 1
  have d15 := cell_blk f1 15
  simp [frmC] at d1 d15
  have e1 := free_blk f1 1
  have t00 := cell_blk t1 0
  have t01 := cell_blk t1 1
  have t02 := cell_blk t1 2
  have t10 := free_blk t1 0
  have t11 := free_blk t1 1
  have t12 := free_blk t1 2
  simp at t00 t01 t02
  clear o1 h1 t1 f1 o2 c2 c14
  cases b with
  | true =>
    rw [if_pos rfl] at HS
    go_wp2_with fail
    refine (end8_any _ 1 (wrap64 k.w)).mono ?_; rintro e w9 ⟨rfl, o9'⟩
    have o9 : Only [] w1 w9 := o9'
    have T9 := o9.keep T1.out (by simp)
    have t00 := cell_blk T9 0
    have t01 := cell_blk T9 1
    have t02 := cell_blk T9 2
    have t10 := free_blk T9 0
    have t11 := free_blk T9 1
    have t12 := free_blk T9 2
    simp at t00 t01 t02
    have O9 := Lib.hid o9
    clear o9 o9' T9
    go_wp2_with fail
    refine bodyPost_ret (v := .agg #[.bool true, (.int .i64 (1)), (.int .i64 (wrap64 k.w))]) (by simp [results, Tryz.results53, go_sem, t00, t01, t02]) rfl ?_
    have o9 := O9.out
    exact RLeaf.fin HS.out rfl rfl rfl (o9.keep T1.out (by simp)) (o9.keep F1.out (by simp)) (E1.out.keep0 o9) (O2.out.then0 o9) n1 (HTB.out ▸ IN.out.n2) (HTB.out ▸ IN.out.n3) (HTB.out ▸ IN.out.n4)
  | false =>
    rw [if_neg (by simp)] at HS
    go_wp2_with fail
    refine (end8_any _ 4 0).mono ?_; rintro e w9 ⟨rfl, o9'⟩
    have o9 : Only [] w1 w9 := o9'
    have T9 := o9.keep T1.out (by simp)
    have t00 := cell_blk T9 0
    have t01 := cell_blk T9 1
    have t02 := cell_blk T9 2
    have t10 := free_blk T9 0
    have t11 := free_blk T9 1
    have t12 := free_blk T9 2
    simp at t00 t01 t02
    have O9 := Lib.hid o9
    clear o9 o9' T9
    go_wp2_with fail
    refine bodyPost_ret (v := .agg #[.bool true, (.int .i64 (4)), (.int .i64 (0))]) (by simp [results, Tryz.results53, go_sem, t00, t01, t02]) rfl ?_
    have o9 := O9.out
    exact RLeaf.fin HS.out rfl rfl rfl (o9.keep T1.out (by simp)) (o9.keep F1.out (by simp)) (E1.out.keep0 o9) (O2.out.then0 o9) n1 (HTB.out ▸ IN.out.n2) (HTB.out ▸ IN.out.n3) (HTB.out ▸ IN.out.n4)
end Go.Proofs.YtfhkhknnoepfeaaGreat
