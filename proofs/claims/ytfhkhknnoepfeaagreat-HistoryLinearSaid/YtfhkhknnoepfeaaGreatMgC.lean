/- The reference's words with one bit. -/
import Derived.Test.YtfhkhknnoepfeaaGreatDqKeep
import Derived.Test.YtfhkhknnoepfeaaGreatMgK
import Derived.Test.YtfhkhknnoepfeaaGreatRefPush
import Derived.Test.YtfhkhknnoepfeaaGreatRefPop
import Derived.Test.YtfhkhknnoepfeaaGreatRefSteal
import Derived.Test.YtfhkhknnoepfeaaGreatKit
import Derived.Deep.MidRow
namespace Go.Proofs.YtfhkhknnoepfeaaGreat
open Go.RowKit
set_option linter.unusedVariables false

theorem wrap_u64_nat (n : Nat) (h : n < 18446744073709551616) : IntKind.u64.wrap (n : Int) = n := by rw [IntKind.wrap_u64]; omega
theorem pow_lt64 {j : Nat} (h : j < 64) : 2 ^ j < 18446744073709551616 := by
  have := Nat.pow_lt_pow_right (a := 2) (by omega) h
  simpa using this

theorem power_any (i : Nat) (w : World) (hi : i < 64) :
    Calls Tryz.prog 87 #[.int .i64 i] w fun e w' => e = .returned (.int .u64 ((2 ^ i : Nat) : Int)) ∧ w = w' := by
  obtain ⟨p, hp⟩ : ∃ p, p = 2 ^ i := ⟨_, rfl⟩
  rw [← hp]
  have HP := Lib.hid hp
  clear hp
  go_enter Tryz.func87, Tryz.ntmps87
  go_wp2_with fail
  go_loop [0, 3] (fun t y => ∃ (j k y' : Nat), j + k = i ∧ t = .int .i64 j ∧ y = .int .u64 y' ∧ y' = 2 ^ k) (fun t _ => (intOf t).toNat)
  case atStart => exact ⟨i, 0, 1, by omega, rfl, rfl, rfl⟩
  case round =>
    obtain ⟨j, k, y, hjk, rfl, rfl, hy⟩ := hrel
    have HY := Lib.hid hy
    have HJ := Lib.hid hjk
    have hji : j ≤ i := by omega
    clear hy hjk
    by_cases hj : 0 < j
    · have e1 : IntKind.u64.wrap ((y : Int) * 2) = ((2 * y : Nat) : Int) := by
        have := pow_lt64 (j := k + 1) (by have := HJ.out; omega)
        rw [Nat.pow_succ, ← HY.out] at this
        rw [show (y : Int) * 2 = ((2 * y : Nat) : Int) by omega, wrap_u64_nat _ (by omega)]
      go_wp2_with fail
      go_round
      case rel => exact ⟨j - 1, k + 1, 2 * y, by have := HJ.out; omega, congrArg (Value.int .i64) (by omega), rfl, by rw [Nat.pow_succ, ← HY.out]; omega⟩
      case measure => simp [intOf]; omega
    · obtain rfl : j = 0 := by omega
      go_wp2_with fail
      go_ret
      refine ⟨ret_int ?_, rfl⟩
      rw [HP.out, HY.out, show k = i by have := HJ.out; omega]

theorem refMask_any (w : World) (b : Int) :
    Calls Tryz.prog 55 #[.int .i64 b] w fun e w' => e = .returned (.int .u64 (mask b)) ∧ w = w' := by
  by_cases h : b < 0
  · go_enter Tryz.func55, Tryz.ntmps55
    go_wp2
    go_ret
    exact ⟨by rw [show mask b = 0 from if_pos (.inl h)]; rfl, rfl⟩
  · by_cases h2 : 63 < b
    · go_enter Tryz.func55, Tryz.ntmps55
      go_wp2
      go_ret
      exact ⟨by rw [show mask b = 0 from if_pos (.inr h2)]; rfl, rfl⟩
    · obtain ⟨i, rfl⟩ : ∃ i : Nat, b = i := ⟨b.toNat, by omega⟩
      have hi : i < 64 := by omega
      have em : mask (i : Int) = ((2 ^ i : Nat) : Int) := by unfold mask; rw [if_neg (by omega), Int.toNat_natCast]
      have A := Lib.hid (power_any i w hi)
      rw [em]
      obtain ⟨p, hp⟩ : ∃ p, p = 2 ^ i := ⟨_, rfl⟩
      rw [← hp] at A ⊢
      clear em hp
      go_enter Tryz.func55, Tryz.ntmps55
      go_wp2_with fail
      refine A.out.mono ?_; rintro e w1 ⟨rfl, rfl⟩
      go_wp2_with fail
      go_ret
      exact ⟨rfl, rfl⟩
end Go.Proofs.YtfhkhknnoepfeaaGreat

/- The reference's lines of clear, walked. (Written by wip/gen_refstep.py.) -/
namespace Go.Proofs.YtfhkhknnoepfeaaGreat
open Go.RowKit
set_option linter.unusedVariables false
set_option linter.unusedSimpArgs false

set_option maxRecDepth 100000 in
set_option maxHeartbeats 1000000 in
theorem rclear_1 (w : World) (fb r rc : Nat) (now : Int) (k : K) (s : MS) (hk : k.kind = 4) (hl : k.line = 1) (ho : k.over = false) (h0 : k.code = 0 ∧ k.val = 0) (hA : RAp fb r rc) (hrc : rc < w.heap.size) (hF : w.heap[fb]? = some (frmO k)) (hR : REnvAt w r rc s now) (hn : s.count ≤ 4000000000000000000) :
    Calls Tryz.prog 57 #[.pointer (some ⟨r, 0, none⟩), .pointer (some ⟨fb, 0, none⟩)] w (RLeaf fb r rc now k s w) := by
  have hs : stepK k s = (k.go 2, s.put 5 k.a (andB (s.at k.a) (notB (mask k.b)))) := by
    unfold stepK stepClear; simp [ho, hk, hl]
  have HS := Lib.hid hs
  have HO := Lib.hid ho
  have H0 := Lib.hid h0
  have IN := Lib.hid (RIn.new hF hR hrc)
  have HA := Lib.hid hA
  have c1 := cell_blk IN.out.f 1
  simp [frmC, hl] at c1
  have HL := Lib.hid hl
  obtain ⟨tb, htb⟩ : ∃ tb, tb = w.heap.size := ⟨_, rfl⟩
  have HTB := Lib.hid htb.symm
  have hlt := lt_of_blk hF
  clear hs h0 hA hR hF hl ho
  unfold resO at c1
  go_enter Tryz.func57, Tryz.ntmps57
  go_wp2_with fail
  clear c1
  obtain ⟨w0, hw0⟩ : ∃ w0, w0 = w.alloc (.cells #[.bool false, .int .i64 0, .int .i64 0] 136) := ⟨_, rfl⟩
  rw [← hw0]
  rw [HTB.out]
  have IN0 : Hid (RIn w w0 tb fb r rc now k s) := Lib.hid (by rw [hw0, htb]; exact IN.out)
  have c6 := cell_blk IN0.out.f 6
  have c7 := cell_blk IN0.out.f 7
  simp [frmC] at c6 c7
  clear hw0 htb
  have n1 : fb ≠ tb := HTB.out ▸ IN.out.n1
  have n2 : tb ≠ fb := fun e => n1 e.symm
  go_region_held3 (fun w' => w'.cell? ⟨fb, 6, none⟩ = some (.int .i64 k.a) ∧ w'.cell? ⟨fb, 7, none⟩ = some (.int .i64 k.b))
    (first | exact ⟨c6, c7⟩ | exact ⟨d6, d7⟩)
    ((first
      | (go_at_call 55; refine (refMask_any _ k.b).mono ?_; rintro e wm ⟨rfl, rfl⟩)
      | (go_at_call 88; refine (rand_any w0.drew r rc s now k.a (notB (mask k.b)) IN0.out.drew.e hn).mono ?_; rintro e w1 ⟨rfl, o1, h1⟩
         obtain ⟨t1, f1, o2⟩ := IN0.out.drew.acc HA.out o1 h1
         have T1 := Lib.hid t1
         have F1 := Lib.hid f1
         have O2 := Lib.hid o2
         have E1 := Lib.hid h1
         have d6 := cell_blk f1 6
         have d7 := cell_blk f1 7
         simp [frmC] at d6 d7
         have j1 := cell_blk f1 1
         simp [frmC, HL.out] at j1
         have e1 := free_blk f1 1
         have t00 := cell_blk t1 0
         have t01 := cell_blk t1 1
         have t02 := cell_blk t1 2
         have t10 := free_blk t1 0
         have t11 := free_blk t1 1
         have t12 := free_blk t1 2
         simp at t00 t01 t02
         clear o1 h1 t1 f1 o2)))
  go_wp2_with fail
  refine bodyPost_ret (v := .agg #[.bool false, (.int .i64 (0)), (.int .i64 (0))]) (by simp [results, Tryz.results57, go_sem, t00, t01, t02]) rfl ?_
  have o3 : Only [fb] w1 (w1.setCell ⟨fb, 1, none⟩ (.int .i64 2)) := ((Only.refl _ _).setCell (by simp) _)
  exact RLeaf.fin HS.out HO.out H0.out.1 H0.out.2 (o3.keep T1.out (by simp; omega)) (frm_set F1.out) (E1.out.keep o3 (by have := HA.out.fr; simp; omega) (by have := HA.out.fc; simp; omega)) (O2.out.trans o3 (by simp)) n1 (HTB.out ▸ IN.out.n2) (HTB.out ▸ IN.out.n3) (HTB.out ▸ IN.out.n4)

set_option maxRecDepth 100000 in
set_option maxHeartbeats 1000000 in
theorem rclear_2 (w : World) (fb r rc : Nat) (now : Int) (k : K) (s : MS) (hk : k.kind = 4) (hl : k.line = 2) (ho : k.over = false) (h0 : k.code = 0 ∧ k.val = 0) (hA : RAp fb r rc) (hrc : rc < w.heap.size) (hF : w.heap[fb]? = some (frmO k)) (hR : REnvAt w r rc s now) (hn : s.count ≤ 4000000000000000000) :
    Calls Tryz.prog 57 #[.pointer (some ⟨r, 0, none⟩), .pointer (some ⟨fb, 0, none⟩)] w (RLeaf fb r rc now k s w) := by
  have hs : stepK k s = ({ k with u := s.at k.q.bot, line := 3 }, s.put 1 k.q.bot (s.at k.q.bot)) := by
    unfold stepK stepClear; simp [ho, hk, hl]
  have HS := Lib.hid hs
  have HO := Lib.hid ho
  have H0 := Lib.hid h0
  have IN := Lib.hid (RIn.new hF hR hrc)
  have HA := Lib.hid hA
  have c1 := cell_blk IN.out.f 1
  have c3 := cell_blk IN.out.f 3
  simp [frmC, hl] at c1 c3
  have HL := Lib.hid hl
  obtain ⟨tb, htb⟩ : ∃ tb, tb = w.heap.size := ⟨_, rfl⟩
  have HTB := Lib.hid htb.symm
  have hlt := lt_of_blk hF
  clear hs h0 hA hR hF hl ho
  unfold resO at c1 c3
  go_enter Tryz.func57, Tryz.ntmps57
  go_wp2_with fail
  refine (rload_any (w.alloc resO) r rc s now k.q.bot IN.out.e hn).mono ?_; rintro e w1 ⟨rfl, o1, h1⟩
  obtain ⟨t1, f1, o2⟩ := IN.out.acc HA.out o1 h1
  rw [HTB.out] at t1
  have n1 : fb ≠ tb := HTB.out ▸ IN.out.n1
  have n2 : tb ≠ fb := fun e => n1 e.symm
  have T1 := Lib.hid t1
  have F1 := Lib.hid f1
  have O2 := Lib.hid o2
  have E1 := Lib.hid h1
  have d1 := cell_blk f1 1
  have d13 := cell_blk f1 13
  simp [frmC, HL.out] at d1 d13
  have e1 := free_blk f1 1
  have e13 := free_blk f1 13
  have t00 := cell_blk t1 0
  have t01 := cell_blk t1 1
  have t02 := cell_blk t1 2
  have t10 := free_blk t1 0
  have t11 := free_blk t1 1
  have t12 := free_blk t1 2
  simp at t00 t01 t02
  rw [HTB.out]
  clear o1 h1 t1 f1 o2 htb c1 c3
  go_wp2_with fail
  refine bodyPost_ret (v := .agg #[.bool false, (.int .i64 (0)), (.int .i64 (0))]) (by simp [results, Tryz.results57, go_sem, t00, t01, t02]) rfl ?_
  have o3 : Only [fb] w1 ((w1.setCell ⟨fb, 13, none⟩ (.int .u64 (s.at k.q.bot))).setCell ⟨fb, 1, none⟩ (.int .i64 3)) := (((Only.refl _ _).setCell (by simp) _).setCell (by simp) _)
  exact RLeaf.fin HS.out HO.out H0.out.1 H0.out.2 (o3.keep T1.out (by simp; omega)) (frm_set (frm_set F1.out)) (E1.out.keep o3 (by have := HA.out.fr; simp; omega) (by have := HA.out.fc; simp; omega)) (O2.out.trans o3 (by simp)) n1 (HTB.out ▸ IN.out.n2) (HTB.out ▸ IN.out.n3) (HTB.out ▸ IN.out.n4)

set_option maxRecDepth 100000 in
set_option maxHeartbeats 1000000 in
theorem rclear_3 (w : World) (fb r rc : Nat) (now : Int) (k : K) (s : MS) (hk : k.kind = 4) (hl : k.line = 3) (ho : k.over = false) (h0 : k.code = 0 ∧ k.val = 0) (hA : RAp fb r rc) (hrc : rc < w.heap.size) (hF : w.heap[fb]? = some (frmO k)) (hR : REnvAt w r rc s now) (hn : s.count ≤ 4000000000000000000) :
    Calls Tryz.prog 57 #[.pointer (some ⟨r, 0, none⟩), .pointer (some ⟨fb, 0, none⟩)] w (RLeaf fb r rc now k s w) := by
  obtain ⟨z, hz⟩ : ∃ z, z = sz k.u (s.at k.q.top) := ⟨_, rfl⟩
  have HZ := fun w => Lib.hid (show Calls Tryz.prog 84 #[.int .u64 k.u, .int .u64 (s.at k.q.top)] w fun e w' => e = .returned (.int .i64 z) ∧ w' = w from by rw [hz]; exact (rsize_any w _ _).mono fun _ _ h => ⟨h.1, h.2.symm⟩)
  have hs : stepK k s = (if z ≤ 0 then ({ k with v := s.at k.q.top } : K).fin 2 0 else { k with v := s.at k.q.top, line := 4 }, s.put 1 k.q.top (s.at k.q.top)) := by
    unfold stepK stepClear; simp [ho, hk, hl, hz]
  have HS := Lib.hid hs
  have HO := Lib.hid ho
  have H0 := Lib.hid h0
  have IN := Lib.hid (RIn.new hF hR hrc)
  have HA := Lib.hid hA
  have c1 := cell_blk IN.out.f 1
  have c2 := cell_blk IN.out.f 2
  simp [frmC, hl] at c1 c2
  have HL := Lib.hid hl
  obtain ⟨tb, htb⟩ : ∃ tb, tb = w.heap.size := ⟨_, rfl⟩
  have HTB := Lib.hid htb.symm
  have hlt := lt_of_blk hF
  clear hz
  clear hs h0 hA hR hF hl ho
  unfold resO at c1 c2
  go_enter Tryz.func57, Tryz.ntmps57
  go_wp2_with fail
  refine (rload_any (w.alloc resO) r rc s now k.q.top IN.out.e hn).mono ?_; rintro e w1 ⟨rfl, o1, h1⟩
  obtain ⟨t1, f1, o2⟩ := IN.out.acc HA.out o1 h1
  rw [HTB.out] at t1
  have n1 : fb ≠ tb := HTB.out ▸ IN.out.n1
  have n2 : tb ≠ fb := fun e => n1 e.symm
  have T1 := Lib.hid t1
  have F1 := Lib.hid f1
  have O2 := Lib.hid o2
  have E1 := Lib.hid h1
  have d1 := cell_blk f1 1
  have d14 := cell_blk f1 14
  simp [frmC, HL.out] at d1 d14
  have e1 := free_blk f1 1
  have e14 := free_blk f1 14
  rw [HTB.out]
  clear o1 h1 t1 f1 o2 htb c1 c2
  go_wp2_with fail
  obtain ⟨w2, hw2⟩ : ∃ w2, w2 = w1.setCell ⟨fb, 14, none⟩ (.int .u64 (s.at k.q.top)) := ⟨_, rfl⟩
  rw [← hw2]
  have o3 : Only [fb] w1 w2 := by rw [hw2]; exact (Only.refl _ _).setCell (by simp) _
  have f2 : w2.heap[fb]? = some (frmO { k with v := s.at k.q.top }) := by rw [hw2]; exact frm_set F1.out
  have F2 := Lib.hid f2
  have t2 := o3.keep T1.out (by simp; omega)
  have T2 := Lib.hid t2
  have E2 := Lib.hid (E1.out.keep o3 (by have := HA.out.fr; simp; omega) (by have := HA.out.fc; simp; omega))
  have O3 : Hid (Only [fb, r, rc] w w2) := Lib.hid (O2.out.trans o3 (by simp))
  have g1 := cell_blk f2 1
  have g5 := cell_blk f2 5
  have g13 := cell_blk f2 13
  have g14 := cell_blk f2 14
  simp [frmC, HL.out] at g1 g5 g13 g14
  have y1 := free_blk f2 1
  clear f2 hw2 o3 d1 d14 e1 e14
  by_cases hc : z ≤ 0
  · rw [if_pos hc] at HS
    have hd : decide (z ≤ 0) = true := decide_eq_true (by omega)
    clear t2
    go_quiet ((go_at_call 84; exact Calls.quiet_of_same (HZ _).out))
    go_wp2_with fail
    refine (end8_any _ 2 0).mono ?_; rintro e w9 ⟨rfl, o9'⟩
    have o9 : Only [] w2 w9 := o9'.undrewN
    have T9 := o9.keep T2.out (by simp)
    have t00 := cell_blk T9 0
    have t01 := cell_blk T9 1
    have t02 := cell_blk T9 2
    have t10 := free_blk T9 0
    have t11 := free_blk T9 1
    have t12 := free_blk T9 2
    simp at t00 t01 t02
    have O9 := Lib.hid o9
    clear o9 o9' T9
    go_wp2_with fail
    refine bodyPost_ret (v := .agg #[.bool true, (.int .i64 (2)), (.int .i64 (0))]) (by simp [results, Tryz.results57, go_sem, t00, t01, t02]) rfl ?_
    have o9 := O9.out
    exact RLeaf.fin HS.out rfl rfl rfl (o9.keep T2.out (by simp)) (o9.keep F2.out (by simp)) (E2.out.keep0 o9) (O3.out.then0 o9) n1 (HTB.out ▸ IN.out.n2) (HTB.out ▸ IN.out.n3) (HTB.out ▸ IN.out.n4)
  · rw [if_neg hc] at HS
    have hd : decide (z ≤ 0) = false := decide_eq_false (by omega)
    have hc2 : ¬ (z ≤ 0) := by omega
    have t00 := cell_blk t2 0
    have t01 := cell_blk t2 1
    have t02 := cell_blk t2 2
    have t10 := free_blk t2 0
    have t11 := free_blk t2 1
    have t12 := free_blk t2 2
    simp at t00 t01 t02
    clear t2
    go_quiet ((go_at_call 84; exact Calls.quiet_of_same (HZ _).out))
    go_wp2_with fail
    refine bodyPost_ret (v := .agg #[.bool false, (.int .i64 (0)), (.int .i64 (0))]) (by simp [results, Tryz.results57, go_sem, t00, t01, t02]) rfl ?_
    have o3 : Only [fb] w2 (w2.setCell ⟨fb, 1, none⟩ (.int .i64 4)) := ((Only.refl _ _).setCell (by simp) _)
    exact (RLeaf.fin HS.out HO.out H0.out.1 H0.out.2 (o3.keep T2.out (by simp; omega)) (frm_set F2.out) (E2.out.keep o3 (by have := HA.out.fr; simp; omega) (by have := HA.out.fc; simp; omega)) (O3.out.trans o3 (by simp)) n1 (HTB.out ▸ IN.out.n2) (HTB.out ▸ IN.out.n3) (HTB.out ▸ IN.out.n4)).drewN _

set_option maxRecDepth 100000 in
set_option maxHeartbeats 1000000 in
theorem rclear_4 (w : World) (fb r rc : Nat) (now : Int) (k : K) (s : MS) (hk : k.kind = 4) (hl : 4 ≤ k.line) (hl9 : k.line ≤ 9) (ho : k.over = false) (h0 : k.code = 0 ∧ k.val = 0) (hA : RAp fb r rc) (hrc : rc < w.heap.size) (hF : w.heap[fb]? = some (frmO k)) (hR : REnvAt w r rc s now) (hn : s.count ≤ 4000000000000000000) :
    Calls Tryz.prog 57 #[.pointer (some ⟨r, 0, none⟩), .pointer (some ⟨fb, 0, none⟩)] w (RLeaf fb r rc now k s w) := by
  have hs : stepK k s = (k.fin 1 0, s.put 4 k.a (orB (s.at k.a) (mask k.b))) := by
    unfold stepK stepClear
    simp only [ho, hk, if_neg (Bool.false_ne_true)]
    split
    · omega
    · omega
    · omega
    · rfl
  have HS := Lib.hid hs
  have HO := Lib.hid ho
  have H0 := Lib.hid h0
  have IN := Lib.hid (RIn.new hF hR hrc)
  have HA := Lib.hid hA
  have c1 := cell_blk IN.out.f 1
  simp [frmC] at c1
  obtain ⟨ln, hln⟩ : ∃ ln, ln = k.line := ⟨_, rfl⟩
  rw [← hln] at c1 hl hl9
  have m1 : ((ln : Int) == 1) = false := by simp; omega
  have m2 : ((ln : Int) == 2) = false := by simp; omega
  have m3 : ((ln : Int) == 3) = false := by simp; omega
  have HL := Lib.hid hl
  obtain ⟨tb, htb⟩ : ∃ tb, tb = w.heap.size := ⟨_, rfl⟩
  have HTB := Lib.hid htb.symm
  have hlt := lt_of_blk hF
  clear hs h0 hA hR hF hl ho hln
  unfold resO at c1
  go_enter Tryz.func57, Tryz.ntmps57
  go_wp2_with fail
  clear c1
  obtain ⟨w0, hw0⟩ : ∃ w0, w0 = w.alloc (.cells #[.bool false, .int .i64 0, .int .i64 0] 136) := ⟨_, rfl⟩
  rw [← hw0]
  rw [HTB.out]
  have IN0 : Hid (RIn w w0 tb fb r rc now k s) := Lib.hid (by rw [hw0, htb]; exact IN.out)
  have c6 := cell_blk IN0.out.f 6
  have c7 := cell_blk IN0.out.f 7
  simp [frmC] at c6 c7
  clear hw0 htb
  have n1 : fb ≠ tb := HTB.out ▸ IN.out.n1
  have n2 : tb ≠ fb := fun e => n1 e.symm
  go_region_held3 (fun w' => w'.cell? ⟨fb, 6, none⟩ = some (.int .i64 k.a) ∧ w'.cell? ⟨fb, 7, none⟩ = some (.int .i64 k.b))
    (first | exact ⟨c6, c7⟩ | exact ⟨d6, d7⟩)
    ((first
      | (go_at_call 55; refine (refMask_any _ k.b).mono ?_; rintro e wm ⟨rfl, rfl⟩)
      | (go_at_call 54; refine (ror_any w0.drew r rc s now k.a (mask k.b) IN0.out.drew.e hn).mono ?_; rintro e w1 ⟨rfl, o1, h1⟩
         obtain ⟨t1, f1, o2⟩ := IN0.out.drew.acc HA.out o1 h1
         have T1 := Lib.hid t1
         have F1 := Lib.hid f1
         have O2 := Lib.hid o2
         have E1 := Lib.hid h1
         have d6 := cell_blk f1 6
         have d7 := cell_blk f1 7
         simp [frmC] at d6 d7
         have j1 := cell_blk f1 1
         simp [frmC] at j1
         have e1 := free_blk f1 1
         have t00 := cell_blk t1 0
         have t01 := cell_blk t1 1
         have t02 := cell_blk t1 2
         have t10 := free_blk t1 0
         have t11 := free_blk t1 1
         have t12 := free_blk t1 2
         simp at t00 t01 t02
         clear o1 h1 t1 f1 o2)))
  go_wp2_with fail
  refine (end8_any _ 1 0).mono ?_; rintro e w9 ⟨rfl, o9'⟩
  have o9 : Only [] w1 w9 := o9'
  have T9 := o9.keep T1.out (by simp)
  have t00 := cell_blk T9 0
  have t01 := cell_blk T9 1
  have t02 := cell_blk T9 2
  have t10 := free_blk T9 0
  have t11 := free_blk T9 1
  have t12 := free_blk T9 2
  simp at t00 t01 t02
  have O9 := Lib.hid o9
  clear o9 o9' T9
  go_wp2_with fail
  refine bodyPost_ret (v := .agg #[.bool true, (.int .i64 (1)), (.int .i64 (0))]) (by simp [results, Tryz.results57, go_sem, t00, t01, t02]) rfl ?_
  have o9 := O9.out
  exact RLeaf.fin HS.out rfl rfl rfl (o9.keep T1.out (by simp)) (o9.keep F1.out (by simp)) (E1.out.keep0 o9) (O2.out.then0 o9) n1 (HTB.out ▸ IN.out.n2) (HTB.out ▸ IN.out.n3) (HTB.out ▸ IN.out.n4)
end Go.Proofs.YtfhkhknnoepfeaaGreat

/- The reference's machines of deques and bits: which line is performed. -/
namespace Go.Proofs.YtfhkhknnoepfeaaGreat
open Go.RowKit
set_option linter.unusedVariables false
set_option linter.unusedSimpArgs false

theorem rpush_any (w : World) (fb r rc : Nat) (now : Int) (k : K) (s : MS) (hk : k.kind = 0) (hok : k.ok) (ho : k.over = false) (h0 : k.code = 0 ∧ k.val = 0) (hA : RAp fb r rc) (hrc : rc < w.heap.size) (hF : w.heap[fb]? = some (frmO k)) (hR : REnvAt w r rc s now) (hn : s.count ≤ 4000000000000000000) :
    Calls Tryz.prog 51 #[.pointer (some ⟨r, 0, none⟩), .pointer (some ⟨fb, 0, none⟩)] w (RLeaf fb r rc now k s w) := by
  have h1 := hok.line
  by_cases e1 : k.line = 1
  · exact rpush_1 w fb r rc now k s hk e1 ho h0 hA hrc hF hR hn
  by_cases e2 : k.line = 2
  · exact rpush_2 w fb r rc now k s hk e2 ho h0 hA hrc hF hR hn
  by_cases e3 : k.line = 3
  · exact rpush_3 w fb r rc now k s hk e3 ho h0 hok hA hrc hF hR hn
  exact rpush_4 w fb r rc now k s hk (by omega) h1.2 ho h0 hA hrc hF hR hn

theorem rsteal_any (w : World) (fb r rc : Nat) (now : Int) (k : K) (s : MS) (hk : k.kind = 2) (hok : k.ok) (ho : k.over = false) (h0 : k.code = 0 ∧ k.val = 0) (hA : RAp fb r rc) (hrc : rc < w.heap.size) (hF : w.heap[fb]? = some (frmO k)) (hR : REnvAt w r rc s now) (hn : s.count ≤ 4000000000000000000) :
    Calls Tryz.prog 53 #[.pointer (some ⟨r, 0, none⟩), .pointer (some ⟨fb, 0, none⟩)] w (RLeaf fb r rc now k s w) := by
  have h1 := hok.line
  by_cases e1 : k.line = 1
  · exact rsteal_1 w fb r rc now k s hk e1 ho h0 hA hrc hF hR hn
  by_cases e2 : k.line = 2
  · exact rsteal_2 w fb r rc now k s hk e2 ho h0 hA hrc hF hR hn
  by_cases e3 : k.line = 3
  · exact rsteal_3 w fb r rc now k s hk e3 ho h0 hok hA hrc hF hR hn
  exact rsteal_4 w fb r rc now k s hk (by omega) h1.2 ho h0 hA hrc hF hR hn

theorem rclear_any (w : World) (fb r rc : Nat) (now : Int) (k : K) (s : MS) (hk : k.kind = 4) (hok : k.ok) (ho : k.over = false) (h0 : k.code = 0 ∧ k.val = 0) (hA : RAp fb r rc) (hrc : rc < w.heap.size) (hF : w.heap[fb]? = some (frmO k)) (hR : REnvAt w r rc s now) (hn : s.count ≤ 4000000000000000000) :
    Calls Tryz.prog 57 #[.pointer (some ⟨r, 0, none⟩), .pointer (some ⟨fb, 0, none⟩)] w (RLeaf fb r rc now k s w) := by
  have h1 := hok.line
  by_cases e1 : k.line = 1
  · exact rclear_1 w fb r rc now k s hk e1 ho h0 hA hrc hF hR hn
  by_cases e2 : k.line = 2
  · exact rclear_2 w fb r rc now k s hk e2 ho h0 hA hrc hF hR hn
  by_cases e3 : k.line = 3
  · exact rclear_3 w fb r rc now k s hk e3 ho h0 hA hrc hF hR hn
  exact rclear_4 w fb r rc now k s hk (by omega) h1.2 ho h0 hA hrc hF hR hn

theorem rpop_any (w : World) (fb r rc : Nat) (now : Int) (k : K) (s : MS) (hk : k.kind = 1) (hok : k.ok) (ho : k.over = false) (h0 : k.code = 0 ∧ k.val = 0) (hA : RAp fb r rc) (hrc : rc < w.heap.size) (hF : w.heap[fb]? = some (frmO k)) (hR : REnvAt w r rc s now) (hn : s.count ≤ 4000000000000000000) :
    Calls Tryz.prog 52 #[.pointer (some ⟨r, 0, none⟩), .pointer (some ⟨fb, 0, none⟩)] w (RLeaf fb r rc now k s w) := by
  have h1 := hok.line
  rcases (show k.line = 1 ∨ k.line = 2 ∨ k.line = 3 ∨ k.line = 4 ∨ k.line = 5 ∨ k.line = 6 ∨ k.line = 7 ∨ k.line = 8 ∨ k.line = 9 from by omega) with e | e | e | e | e | e | e | e | e
  · exact rpop_1 w fb r rc now k s hk e ho h0 hA hrc hF hR hn
  · exact rpop_2 w fb r rc now k s hk e ho h0 hA hrc hF hR hn
  · exact rpop_3 w fb r rc now k s hk e ho h0 hA hrc hF hR hn
  · exact rpop_4 w fb r rc now k s hk e ho h0 hA hrc hF hR hn
  · exact rpop_5 w fb r rc now k s hk e ho h0 hok hA hrc hF hR hn
  · exact rpop_6 w fb r rc now k s hk e ho h0 hA hrc hF hR hn
  · exact rpop_7 w fb r rc now k s hk e ho h0 hA hrc hF hR hn
  · exact rpop_8 w fb r rc now k s hk e ho h0 hok hA hrc hF hR hn
  · exact rpop_9 w fb r rc now k s hk e ho h0 hA hrc hF hR hn

/-- A line performed by another function, its result laid in place. -/
theorem RLeaf.over {w w1 : World} {tb fb r rc : Nat} {now : Int} {k : K} {s : MS} (IN : RIn w (w.alloc resO) tb fb r rc now k s) (hA : RAp fb r rc) (h : RLeaf fb r rc now k s (w.alloc resO) (.returned (.agg #[.bool (stepK k s).1.over, .int .i64 (stepK k s).1.code, .int .i64 (stepK k s).1.val])) w1) :
    w1.heap[tb]? = some resO ∧ RLeaf fb r rc now k s w (.returned (.agg #[.bool (stepK k s).1.over, .int .i64 (stepK k s).1.code, .int .i64 (stepK k s).1.val])) (((w1.setCell ⟨tb, 0, none⟩ (.bool (stepK k s).1.over)).setCell ⟨tb, 1, none⟩ (.int .i64 (stepK k s).1.code)).setCell ⟨tb, 2, none⟩ (.int .i64 (stepK k s).1.val)) := by
  obtain ⟨_, o, f, e⟩ := h
  have n1 := IN.n1
  have n2 := IN.n2
  have n3 := IN.n3
  have t1 := o.keep IN.t (by simp; omega)
  exact ⟨t1, RLeaf.fin (k' := (stepK k s).1) (s' := (stepK k s).2) rfl rfl rfl rfl t1 f e ((IN.o.mono (T := [fb, r, rc]) (by simp)).trans o (by simp)) n1 n2 n3 IN.n4⟩

set_option maxRecDepth 100000 in
set_option maxHeartbeats 1000000 in
theorem leaf_of (n : Nat) (F : FuncId) (w : World) (fb r rc : Nat) (now : Int) (k : K) (s : MS) (hk : k.kind = n) (hA : RAp fb r rc) (hrc : rc < w.heap.size) (hF : w.heap[fb]? = some (frmO k)) (hR : REnvAt w r rc s now)
    (hn : (n = 0 ∧ F = 51) ∨ (n = 1 ∧ F = 52) ∨ (n = 2 ∧ F = 53) ∨ (n = 4 ∧ F = 57))
    (hC : Calls Tryz.prog F #[.pointer (some ⟨r, 0, none⟩), .pointer (some ⟨fb, 0, none⟩)] (w.alloc resO) (RLeaf fb r rc now k s (w.alloc resO))) :
    Calls Tryz.prog 42 #[.pointer (some ⟨r, 0, none⟩), .pointer (some ⟨fb, 0, none⟩)] w (RLeaf fb r rc now k s w) := by
  have IN := Lib.hid (RIn.new hF hR hrc)
  have HA := Lib.hid hA
  have HC := Lib.hid hC
  have c0 := cell_blk IN.out.f 0
  simp [frmC] at c0
  have hlt := lt_of_blk hF
  obtain ⟨kk, hkk⟩ : ∃ kk, kk = (stepK k s).1 := ⟨_, rfl⟩
  have OV := Lib.hid (fun w1 h => RLeaf.over (w1 := w1) IN.out hA h)
  rw [← hkk] at OV
  have HC2 : Hid (Calls Tryz.prog F #[.pointer (some ⟨r, 0, none⟩), .pointer (some ⟨fb, 0, none⟩)] (w.alloc resO) fun e w1 => e = .returned (.agg #[.bool kk.over, .int .i64 kk.code, .int .i64 kk.val]) ∧ RLeaf fb r rc now k s (w.alloc resO) (.returned (.agg #[.bool kk.over, .int .i64 kk.code, .int .i64 kk.val])) w1) := Lib.hid (hC.mono (by
    rintro e w1 ⟨h1, h2⟩
    rw [← hkk] at h1
    subst h1
    exact ⟨rfl, by rw [hkk], h2⟩))
  rw [hk] at c0
  clear hA hF hR hC hkk HC hk
  unfold resO at c0
  rcases hn with ⟨rfl, rfl⟩ | ⟨rfl, rfl⟩ | ⟨rfl, rfl⟩ | ⟨rfl, rfl⟩
  all_goals
    go_enter Tryz.func42, Tryz.ntmps42
    go_wp2_with fail
    refine HC2.out.mono ?_; rintro e w1 ⟨rfl, h1⟩
    obtain ⟨t1, h2⟩ := OV.out w1 h1
    have H2 := Lib.hid h2
    have t00 := cell_blk t1 0
    have t01 := cell_blk t1 1
    have t02 := cell_blk t1 2
    have t10 := free_blk t1 0
    have t11 := free_blk t1 1
    have t12 := free_blk t1 2
    simp at t00 t01 t02
    clear t1 h1 h2
    go_wp2_with fail
    refine bodyPost_ret (v := .agg #[.bool kk.over, .int .i64 kk.code, .int .i64 kk.val]) (by simp [results, Tryz.results42, go_sem, t00, t01, t02]) rfl ?_
    exact H2.out

set_option maxRecDepth 100000 in
set_option maxHeartbeats 1000000 in
theorem leaf_set (w : World) (fb r rc : Nat) (now : Int) (k : K) (s : MS) (hk : k.kind = 3) (ho : k.over = false) (hA : RAp fb r rc) (hrc : rc < w.heap.size) (hF : w.heap[fb]? = some (frmO k)) (hR : REnvAt w r rc s now) (hn : s.count ≤ 4000000000000000000) :
    Calls Tryz.prog 42 #[.pointer (some ⟨r, 0, none⟩), .pointer (some ⟨fb, 0, none⟩)] w (RLeaf fb r rc now k s w) := by
  have hs : stepK k s = (k.fin 0 0, s.put 4 k.a (orB (s.at k.a) (mask k.b))) := by unfold stepK; simp [ho, hk]
  have HS := Lib.hid hs
  have IN := Lib.hid (RIn.new hF hR hrc)
  have HA := Lib.hid hA
  have c0 := cell_blk IN.out.f 0
  simp [frmC, hk] at c0
  have hlt := lt_of_blk hF
  obtain ⟨tb, htb⟩ : ∃ tb, tb = w.heap.size := ⟨_, rfl⟩
  have HTB := Lib.hid htb.symm
  clear hs hA hR hF ho hk
  unfold resO at c0
  go_enter Tryz.func42, Tryz.ntmps42
  go_wp2_with fail
  clear c0
  obtain ⟨w0, hw0⟩ : ∃ w0, w0 = w.alloc (.cells #[.bool false, .int .i64 0, .int .i64 0] 136) := ⟨_, rfl⟩
  rw [← hw0]
  rw [HTB.out]
  have IN0 : Hid (RIn w w0 tb fb r rc now k s) := Lib.hid (by rw [hw0, htb]; exact IN.out)
  have c6 := cell_blk IN0.out.f 6
  have c7 := cell_blk IN0.out.f 7
  simp [frmC] at c6 c7
  clear hw0 htb
  have n1 : fb ≠ tb := HTB.out ▸ IN.out.n1
  have n2 : tb ≠ fb := fun e => n1 e.symm
  go_region_held3 (fun w' => w'.cell? ⟨fb, 6, none⟩ = some (.int .i64 k.a) ∧ w'.cell? ⟨fb, 7, none⟩ = some (.int .i64 k.b))
    (first | exact ⟨c6, c7⟩ | exact ⟨d6, d7⟩)
    ((first
      | (go_at_call 55; refine (refMask_any _ k.b).mono ?_; rintro e wm ⟨rfl, rfl⟩)
      | (go_at_call 54; refine (ror_any w0.drew r rc s now k.a (mask k.b) IN0.out.drew.e hn).mono ?_; rintro e w1 ⟨rfl, o1, h1⟩
         obtain ⟨t1, f1, o2⟩ := IN0.out.drew.acc HA.out o1 h1
         have T1 := Lib.hid t1
         have F1 := Lib.hid f1
         have O2 := Lib.hid o2
         have E1 := Lib.hid h1
         have d6 := cell_blk f1 6
         have d7 := cell_blk f1 7
         simp [frmC] at d6 d7
         clear o1 h1 t1 f1 o2)))
  go_wp2_with fail
  refine (end8_any _ 0 0).mono ?_; rintro e w9 ⟨rfl, o9⟩
  have T9 := o9.keep T1.out (by simp)
  have t00 := cell_blk T9 0
  have t01 := cell_blk T9 1
  have t02 := cell_blk T9 2
  have t10 := free_blk T9 0
  have t11 := free_blk T9 1
  have t12 := free_blk T9 2
  simp at t00 t01 t02
  have O9 := Lib.hid o9
  clear o9 T9
  go_wp2_with fail
  refine bodyPost_ret (v := .agg #[.bool true, .int .i64 0, .int .i64 0]) (by simp [results, Tryz.results42, go_sem, t00, t01, t02]) rfl ?_
  have o9 := O9.out
  exact RLeaf.fin HS.out rfl rfl rfl (o9.keep T1.out (by simp)) (o9.keep F1.out (by simp)) (E1.out.keep0 o9) (O2.out.then0 o9) n1 (HTB.out ▸ IN.out.n2) (HTB.out ▸ IN.out.n3) (HTB.out ▸ IN.out.n4)

theorem leaf_any (w : World) (fb r rc : Nat) (now : Int) (k : K) (s : MS) (hk : k.kind ≤ 4) (hok : k.ok) (ho : k.over = false) (h0 : k.code = 0 ∧ k.val = 0) (hA : RAp fb r rc) (hrc : rc < w.heap.size) (hF : w.heap[fb]? = some (frmO k)) (hR : REnvAt w r rc s now) (hn : s.count ≤ 4000000000000000000) :
    Calls Tryz.prog 42 #[.pointer (some ⟨r, 0, none⟩), .pointer (some ⟨fb, 0, none⟩)] w (RLeaf fb r rc now k s w) := by
  have IN := RIn.new hF hR hrc
  have hrc2 : rc < (w.alloc resO).heap.size := by simp; omega
  rcases (show k.kind = 0 ∨ k.kind = 1 ∨ k.kind = 2 ∨ k.kind = 3 ∨ k.kind = 4 from by omega) with e | e | e | e | e
  · exact leaf_of 0 _ w fb r rc now k s e hA hrc hF hR (.inl ⟨rfl, rfl⟩) (rpush_any _ fb r rc now k s e hok ho h0 hA hrc2 IN.f IN.e hn)
  · exact leaf_of 1 _ w fb r rc now k s e hA hrc hF hR (.inr (.inl ⟨rfl, rfl⟩)) (rpop_any _ fb r rc now k s e hok ho h0 hA hrc2 IN.f IN.e hn)
  · exact leaf_of 2 _ w fb r rc now k s e hA hrc hF hR (.inr (.inr (.inl ⟨rfl, rfl⟩))) (rsteal_any _ fb r rc now k s e hok ho h0 hA hrc2 IN.f IN.e hn)
  · exact leaf_set w fb r rc now k s e ho hA hrc hF hR hn
  · exact leaf_of 4 _ w fb r rc now k s e hA hrc hF hR (.inr (.inr (.inr ⟨rfl, rfl⟩))) (rclear_any _ fb r rc now k s e hok ho h0 hA hrc2 IN.f IN.e hn)
end Go.Proofs.YtfhkhknnoepfeaaGreat

/- A whole struct stored over a whole block: the block is that struct. -/
namespace Go.Proofs.YtfhkhknnoepfeaaGreat
open Go.RowKit
set_option linter.unusedVariables false

theorem blk_setCells {b : Nat} {T : TypeId} : ∀ (vs : List Value) (o : Nat) (w : World) (arr : Array Value), w.heap[b]? = some (.cells arr T (0, 0)) → o + vs.length ≤ arr.size →
    ∃ arr' : Array Value, (w.setCells b o vs).heap[b]? = some (.cells arr' T (0, 0)) ∧ arr'.size = arr.size ∧ (∀ j, j < o ∨ o + vs.length ≤ j → arr'[j]? = arr[j]?) ∧ ∀ j, j < vs.length → arr'[o + j]? = vs[j]?
  | [], o, w, arr, h, _ => ⟨arr, h, rfl, fun _ _ => rfl, fun j hj => by simp at hj⟩
  | v :: r, o, w, arr, h, hl => by
    simp only [List.length_cons] at hl
    obtain ⟨arr', h1, h2, h3, h4⟩ := blk_setCells r (o + 1) (w.setCell ⟨b, o, none⟩ v) (arr.setIfInBounds o v) (blk_setCell h o v) (by simp; omega)
    refine ⟨arr', h1, by simpa using h2, fun j hj => ?_, fun j hj => ?_⟩
    · rw [h3 j (by simp at hj; omega), Array.getElem?_setIfInBounds_ne (by simp at hj; omega)]
    · cases j with
      | zero =>
        rw [Nat.add_zero, h3 o (by omega), Array.getElem?_setIfInBounds_self_of_lt (by omega)]
        rfl
      | succ j =>
        simp only [List.length_cons] at hj
        have := h4 j (by omega)
        rw [show o + (j + 1) = o + 1 + j from by omega, this]
        rfl

theorem only_setCells (b : Nat) : ∀ (vs : List Value) (o : Nat) (w : World), Only [b] w (w.setCells b o vs)
  | [], _, w => Only.refl _ _
  | v :: r, o, w => ((Only.refl [b] w).setCell (by simp) v).trans (only_setCells b r (o + 1) _) (by simp)

/-- What a store of a whole struct leaves. -/
def Stored (w w' : World) (b : Nat) (cs : List Value) : Prop := Only [b] w w' ∧ ∀ (arr : Array Value) (T : TypeId), w.heap[b]? = some (.cells arr T (0, 0)) → arr.size = cs.length → w'.heap[b]? = some (.cells cs.toArray T (0, 0))

theorem stored_setCells (w : World) (b : Nat) (cs : List Value) : Stored w (w.setCells b 0 cs) b cs := by
  refine ⟨only_setCells b cs 0 w, fun arr T h hs => ?_⟩
  obtain ⟨arr', h1, h2, _, h4⟩ := blk_setCells cs 0 w arr h (by omega)
  rw [h1]
  congr 2
  apply Array.ext_getElem?
  intro i
  by_cases hi : i < cs.length
  · have := h4 i hi
    rw [Nat.zero_add] at this
    rw [this]; simp
  · rw [Array.getElem?_eq_none (by omega), Array.getElem?_eq_none (by simp; omega)]

theorem wpList_store_agg {P : Program} {ops : Array Oper} {rest : List Oper} {op : Oper} {a : Act} {w : World} {Q : Exit → Act → World → Prop} (hgd : op.guard = none) (ty : TypeId) (x y : Operand) (ho : op.op = .store ty x y)
    (b : Nat) (cs : List Value) (hx : a.eval x = .pointer (some ⟨b, 0, none⟩)) (hy : a.eval y = .agg cs.toArray) (n : Nat) (hn : cs.length = n)
    (arr : Array Value) (T : TypeId) (hb : w.heap[b]? = some (.cells arr T (0, 0))) (ha : arr.size = n) (hi : (P.info? ty).map (·.size) = some n) (h1 : cs.all (·.oneCell') = true)
    (h : ∀ w', Stored w w' b cs → wpList P ops Q rest (a.put op.dst undef) w') : wpList P ops Q (op :: rest) a w := by
  subst hn
  refine wpList_store_mid hgd ty x y ho b 0 cs.toArray hx hy (fun j hj => ?_) (by simpa using hi) (by simpa using h1) (h _ (by simpa using stored_setCells w b cs))
  rw [Nat.zero_add, cell_blk hb]
  exact ⟨by rw [Array.getElem?_eq_getElem (by simp at hj; omega)]; rfl, free_blk hb j⟩

/-- The results of a function: a struct in a place of its own, and a value. -/
theorem run_results_cell_tmp {P : Program} {fn : Func} {tmps : Array Value} {w : World} (x y : Nat) (t : TypeId) {a : Addr} {v u : Value} (hF : fn.results = #[.cell x t, .tmp y]) (hx : tmps.getD x undef = .pointer (some a)) (hl : (loadVar t a).run P w = .ok v w) (hy : tmps.getD y undef = u) :
    (results fn tmps).run P w = .ok (.tuple #[v, u]) w := by
  have h1 : asAddr (tmps.getD x undef) = pure a := by rw [hx]; rfl
  rw [Array.getD_eq_getD_getElem?] at h1 hy
  unfold results
  rw [hF]
  simp [h1, hy, hl, Result.andThen_ok]
theorem run_results_cell {P : Program} {fn : Func} {tmps : Array Value} {w : World} (x : Nat) (t : TypeId) {a : Addr} {v : Value} (hF : fn.results = #[.cell x t]) (hx : tmps.getD x undef = .pointer (some a)) (hl : (loadVar t a).run P w = .ok v w) :
    (results fn tmps).run P w = .ok v w := by
  have h1 : asAddr (tmps.getD x undef) = pure a := by rw [hx]; rfl
  rw [Array.getD_eq_getD_getElem?] at h1
  unfold results
  rw [hF]
  simp [h1, hl]

theorem rangeAt_blk {w : World} {b : Nat} {cs : List Value} {T : TypeId} {f : Nat × Nat} (h : w.heap[b]? = some (.cells cs.toArray T f)) : w.rangeAt b 0 cs := fun j v hv => by
  rw [Nat.zero_add, cell_blk h]
  simpa using hv

theorem there_blk {w : World} {b : Nat} {arr : Array Value} {T : TypeId} (h : w.heap[b]? = some (.cells arr T (0, 0))) : w.there b 0 arr.size := fun j hj => by
  rw [Nat.zero_add, cell_blk h]
  exact ⟨by rw [Array.getElem?_eq_getElem hj]; rfl, free_blk h j⟩
end Go.Proofs.YtfhkhknnoepfeaaGreat
