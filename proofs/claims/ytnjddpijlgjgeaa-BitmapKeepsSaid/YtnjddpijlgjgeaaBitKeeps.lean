/- The law BitmapKeeps of chapter 12, walked. (Written by wip/gen_bitkeeps2.py.) -/
import Derived.Test.YtnjddpijlgjgeaaBitKeepsW
import Derived.Test.YtnjddpijlgjgeaaDqRow
import Derived.Test.YtnjddpijlgjgeaaDqStart
import Derived.Deep.RegionHeld3
namespace Go.Proofs.Ytnjddpijlgjgeaa
open Go.RowKit
set_option linter.unusedVariables false

theorem refBit_any (w : World) (x b : Int) (hx : 0 ≤ x ∧ x ≤ 18446744073709551615) (hb : 0 ≤ b ∧ b < 64) (h : Bt b x) :
    Calls Try.prog 35 #[.int .u64 x, .int .i64 b] w fun e w' => e = .returned (.bool true) ∧ w = w' := by
  obtain ⟨i, rfl⟩ : ∃ i : Nat, b = i := ⟨b.toNat, by omega⟩
  have hi : i < 64 := by omega
  have A := Lib.hid (power_any i w hi)
  have em : mask (i : Int) = ((2 ^ i : Nat) : Int) := by unfold mask; rw [if_neg (by omega), Int.toNat_natCast]
  unfold Bt at h
  rw [em] at h
  obtain ⟨p, hp⟩ : ∃ p, p = 2 ^ i := ⟨_, rfl⟩
  have hp0 : 0 < p := by rw [hp]; exact Nat.two_pow_pos i
  have hpm : p < 18446744073709551616 := by rw [hp]; exact pow_lt64 hi
  rw [← hp] at A h
  obtain ⟨hx0, hx1⟩ := hx
  obtain ⟨x, rfl⟩ := Int.eq_ofNat_of_zero_le hx0
  obtain ⟨y, hy⟩ : ∃ y, y = x / p := ⟨_, rfl⟩
  have hy2 : y % 2 = 1 := by rw [hy]; omega
  have hq : (x : Int) / (p : Int) = (y : Int) := by rw [hy]; rfl
  have hyx : y ≤ x := by rw [hy]; exact Nat.div_le_self _ _
  have hpz : ((p : Int) == 0) = false := by simp; omega
  have hfin : ((y : Int) % 2 == 1) = true := by simp; omega
  clear em hp h hy
  go_enter Try.func35, Try.ntmps35
  go_wp2_with fail
  refine A.out.mono ?_; rintro e w1 ⟨rfl, rfl⟩
  go_wp2_with fail
  go_ret
  exact ⟨rfl, rfl⟩

theorem at_bare_set {zs : List Int} {x d : Int} (h : d ≠ 6) : (bareMS (zs.set 6 x)).at d = (bareMS zs).at d := by
  unfold MS.at
  rw [bareMS_cells, bareMS_cells, List.length_set]
  by_cases hd : 0 ≤ d ∧ d < zs.length
  · rw [if_pos hd, if_pos hd, List.getD_eq_getElem?_getD, List.getD_eq_getElem?_getD, List.getElem?_set_ne (by omega)]
  · rw [if_neg hd, if_neg hd]
theorem mask_bd (b : Int) : 0 ≤ mask b ∧ mask b ≤ 18446744073709551615 := by
  unfold mask
  split
  · omega
  · have : 2 ^ b.toNat < 2 ^ 64 := Nat.pow_lt_pow_right (by omega) (by omega)
    generalize 2 ^ b.toNat = p at *
    omega

set_option maxRecDepth 100000 in
set_option maxHeartbeats 8000000 in
theorem BitmapKeeps_small (w : World) (size bit : Int) (hsz : 0 ≤ size ∧ size ≤ 255) (hbit : 0 ≤ bit ∧ bit ≤ 255) (ao : Option Addr) (len cap : Nat) (zs : List Int) (hzc : CellsAt w ao (zs.map (.int .u8))) (wz : ∀ z ∈ zs, (Lit.int .u8 z).wf = true) (hlen : len = zs.length) (h100 : len ≤ 100) :
    Calls Try.prog 9 #[.int .u8 size, .int .u8 bit, .slice ao len cap] w fun e w' => e = .returned (.bool true) ∧ Only [] w w' := by
  obtain ⟨hsz0, hsz1⟩ := hsz
  obtain ⟨hbit0, hbit1⟩ := hbit
  obtain ⟨b, hbb⟩ : ∃ b : Int, bit % 64 = b := ⟨_, rfl⟩
  have hb0 : 0 ≤ b := by omega
  have hb1 : b < 64 := by omega
  obtain ⟨k, hk⟩ : ∃ k : Nat, size % 3 = k := ⟨(size % 3).toNat, by omega⟩
  have hk2 : k ≤ 2 := by omega
  have HBB : Hid (0 ≤ b ∧ b < 64) := Lib.hid ⟨hb0, hb1⟩
  have HB := Lib.hid hzc
  have HWZ := Lib.hid wz
  have HLEN := Lib.hid hlen
  have hh : ¬ (100 < (len : Int)) := by omega
  have DQ4 := fun wq v h => Lib.hid (show Calls Try.prog 16 #[.int .i64 4, .int .u64 0, .int .i64 k, v] wq fun e w' => e = .returned (.slice (some ⟨wq.heap.size, 0, none⟩) 7 7) ∧ Only [] wq w' ∧ RowAt w' (.slice (some ⟨wq.heap.size, 0, none⟩) 7 7) wq.heap.size 22 ((deqTo 4 ((0 : Nat) : Int) k (entZ [5, 6]) k).map (.int .u64)) from deque_row wq 4 k ((0 : Nat) : Int) v [5, 6] (by omega) (by omega) (by omega) (by omega) h (by simp))
  clear hzc wz hlen
  go_enter Try.func9, Try.ntmps9
  go_wp2_with fail
  refine (queue_any _ 4).mono ?_; rintro e u0 ⟨rfl, o0⟩
  simp only [Q4.v]
  have U0 := Lib.hid o0
  clear o0
  go_wp2_with fail
  obtain ⟨qb, hqb⟩ : ∃ qb, qb = u0.heap.size := ⟨_, rfl⟩
  obtain ⟨wq, hwq⟩ : ∃ wq, wq = (u0.alloc (.cells #[.int .i64 0, .int .i64 1, .int .i64 2, .int .i64 4] 25)).alloc (.cells #[.int .i64 5, .int .i64 6] 3) := ⟨_, rfl⟩
  rw [← hqb, ← hwq]
  have ow : Only [] u0 wq := by rw [hwq]; exact ((Only.refl _ _).alloc _).alloc _
  have QBq : Hid (wq.heap[qb]? = some (.cells #[.int .i64 0, .int .i64 1, .int .i64 2, .int .i64 4] 25 (0, 0))) := Lib.hid (by rw [hwq, hqb, blk_alloc_old (by simp)]; exact blk_alloc_new _ _)
  have NV : Hid (Ns wq (.slice (some ⟨qb + 1, 0, none⟩) 2 2) [5, 6]) := Lib.hid (ns_new (T := 3) (f := (0, 0)) [5, 6] (by
    rw [hwq, hqb]
    have h := blk_alloc_new (u0.alloc (.cells #[.int .i64 0, .int .i64 1, .int .i64 2, .int .i64 4] 25)) (.cells #[.int .i64 5, .int .i64 6] 3)
    rw [show (u0.alloc (.cells #[.int .i64 0, .int .i64 1, .int .i64 2, .int .i64 4] 25)).heap.size = u0.heap.size + 1 from by simp] at h
    exact h) rfl)
  have Oq := Lib.hid (U0.out.then0 ow)
  have qlt := lt_of_blk QBq.out
  clear hwq hqb ow
  go_wp2_with fail
  refine (DQ4 _ _ NV.out).out.mono ?_; rintro e wd ⟨rfl, od, hd⟩
  have Od := Lib.hid (Oq.out.then0 od)
  have RD := Lib.hid hd
  have QBd := Lib.hid (od.keep QBq.out (by simp))
  have sd := od.size
  have soq := Oq.out.size
  obtain ⟨B, hBq⟩ : ∃ B, B = wq.heap.size := ⟨_, rfl⟩
  rw [← hBq] at RD ⊢
  have hBw : w.heap.size ≤ B := by omega
  have hBqb : qb < B := by omega
  have hBd : B < wd.heap.size ∨ True := .inr trivial
  clear hBq hBd
  obtain ⟨Z0, hZ0⟩ : ∃ Z0, Z0 = deqTo 4 ((0 : Nat) : Int) k (entZ [5, 6]) k := ⟨_, rfl⟩
  rw [← hZ0] at RD
  have DS : Hid (DQ (bareMS (deqTo 4 ((0 : Nat) : Int) k (entZ [5, 6]) k)) 4 0 ((List.range k).map (entZ [5, 6]))) := Lib.hid (dq_start (t := 0) (size := k) (f := entZ [5, 6]) (by omega) (by omega) (by omega) (by omega) (fun i => by have := entZ_bd [5, 6] i; omega) (by rw [bareMS_cells]))
  have W0 : Hid (∀ x ∈ Z0, 0 ≤ x ∧ x ≤ 18446744073709551615) := Lib.hid (by intro x hx; rw [hZ0] at hx; exact deqTo_bd (c := 4) (first := ((0 : Nat) : Int)) (size := k) (f := entZ [5, 6]) (by omega) (fun i => by have := entZ_bd [5, 6] i; omega) k x hx)
  have L0 : Hid (Z0.length = 7) := Lib.hid (by rw [hZ0, deqTo_len])
  have HZ0 := Lib.hid hZ0
  clear od hd DQ4 hZ0
  by_cases hkp : 0 < k
  · have hlen : 6 < (Z0.map (Value.int .u64)).length := by rw [List.length_map, L0.out]; omega
    have s0 := (RD.out.spot hlen).1
    have f0 := (RD.out.spot hlen).2
    obtain ⟨old, hold⟩ : ∃ old, old = (Z0.map (Value.int .u64))[6] := ⟨_, rfl⟩
    rw [← hold] at s0
    obtain ⟨w1, hw1⟩ : ∃ w1, w1 = wd.setCell ⟨B, 6, none⟩ (.int .u64 (mask b)) := ⟨_, rfl⟩
    obtain ⟨Z, hZ⟩ : ∃ Z, Z = Z0.set 6 (mask b) := ⟨_, rfl⟩
    have CZ : Hid (CellsAt w1 (some ⟨B, 0, none⟩) (Z.map (.int .u64))) := Lib.hid (by
      have h1 := RD.out.store hlen (.int .u64 (mask b))
      rw [← hw1, ← List.map_set, ← hZ] at h1
      obtain ⟨a, cap, e, hc, _⟩ := h1.cells
      have e1 : some (⟨B, 0, none⟩ : Addr) = some a := by injection e
      rw [e1]; exact hc)
    have O1 : Hid (Only [] w w1) := Lib.hid (by rw [hw1]; exact Od.out.trans ((Only.refl [B] wd).setCell (by simp) _) (by simp; omega))
    have QB1 : Hid (w1.heap[qb]? = some (.cells #[.int .i64 0, .int .i64 1, .int .i64 2, .int .i64 4] 25 (0, 0))) := Lib.hid (by rw [hw1]; exact ((Only.refl [B] wd).setCell (by simp) _).keep QBd.out (by simp; omega))
    have LZ : Hid (7 = Z.length) := Lib.hid (by rw [hZ, List.length_set, L0.out])
    have WZ : Hid (∀ x ∈ Z, 0 ≤ x ∧ x ≤ 18446744073709551615) := Lib.hid (by
      intro x hx
      rw [hZ] at hx
      rcases List.mem_or_eq_of_mem_set hx with h | h
      · exact W0.out x h
      · rw [h]; exact mask_bd b)
    have AZ : Hid (∀ d : Int, d ≠ 6 → (bareMS Z).at d = (bareMS (deqTo 4 ((0 : Nat) : Int) k (entZ [5, 6]) k)).at d) := Lib.hid (fun d hd => by rw [hZ, at_bare_set hd, HZ0.out])
    have HW1 := Lib.hid hw1
    clear hw1 hZ hold
    go_wp2_with fail
    refine (refMask_any _ b).mono ?_; rintro e y0 ⟨rfl, rfl⟩
    go_wp2_with fail
    rw [← HW1.out]
    clear s0 f0
    refine (bare_any w1 _ 7 7 Z CZ.out LZ.out (by omega)).mono ?_; rintro e w2 ⟨en, m, bc, ck, r, rc, rfl, o2, hB, lo, hi'⟩
    have B2 := Lib.hid hB.ee
    have O2 := Lib.hid (O1.out.then0 o2)
    have Q0 := Lib.hid (o2.keep QB1.out (by simp))
    have s2 := o2.size
    obtain ⟨lo1, lo2, lo3, lo4, lo5, lo6⟩ := lo
    obtain ⟨hi1, hi2, hi3, hi4, hi5, hi6⟩ := hi'
    have hs1 := O1.out.size
    obtain ⟨S0, hS0⟩ : ∃ S0, S0 = bareMS Z := ⟨_, rfl⟩
    rw [← hS0] at B2
    have START : Hid (BK k b (newPush (q0 4) 9) (newSet 6 b) (newClear 6 b (q0 4)) (newSteal (q0 4)) S0 0 ((List.range k).map (entZ [5, 6]))) := Lib.hid (by
      rw [hS0]
      exact BK.start DS.out (by rw [bareMS_cells, deqTo_len]) (by simp) (by rw [bareMS_cells]; exact LZ.out.symm) AZ.out)
    have SOK : Hid S0.ok := Lib.hid (by intro x hx; rw [hS0, bareMS_cells] at hx; exact WZ.out x hx)
    have SC : Hid (S0.count = 7) := Lib.hid (by rw [hS0, bareMS_count, ← LZ.out]; rfl)
    have k00 := cell_blk Q0.out 0
    have k01 := cell_blk Q0.out 1
    have k02 := cell_blk Q0.out 2
    have k03 := cell_blk Q0.out 3
    simp at k00 k01 k02 k03
    clear o2 hB hS0
    go_wp2_with fail
    go_region_held3 (fun w' => w'.cell? ⟨qb, 0, none⟩ = some (.int .i64 0) ∧ w'.cell? ⟨qb, 1, none⟩ = some (.int .i64 1) ∧ w'.cell? ⟨qb, 2, none⟩ = some (.int .i64 2) ∧ w'.cell? ⟨qb, 3, none⟩ = some (.int .i64 4))
      (first | exact ⟨k00, k01, k02, k03⟩ | exact ⟨k10, k11, k12, k13⟩ | exact ⟨k20, k21, k22, k23⟩ | exact ⟨k30, k31, k32, k33⟩ | exact ⟨k40, k41, k42, k43⟩)
      ((first
        | (go_at_call 19; refine (show Calls Try.prog 19 #[.agg #[.int .i64 0, .int .i64 1, .int .i64 2, .int .i64 4], .int .i64 9] _ _ from push_new _ (q0 4) 9).mono ?_; rintro e v1 ⟨p1, rfl, a1, b1, c1, d1⟩
           simp only [ifc, machT, newPush]
           have A1 := Lib.hid a1.undrew
           have B1_1 := Lib.hid b1
           have z1 := A1.out.size
           have C1 : w2.heap.size ≤ p1 := c1
           have Q1 := Lib.hid (A1.out.keep Q0.out (by simp))
           have k10 := cell_blk Q1.out 0
           have k11 := cell_blk Q1.out 1
           have k12 := cell_blk Q1.out 2
           have k13 := cell_blk Q1.out 3
           simp at k10 k11 k12 k13
           clear a1 b1)
        | (go_at_call 32; refine (show Calls Try.prog 32 #[.int .i64 6, .int .i64 b] _ _ from set_new _ 6 b).mono ?_; rintro e v2 ⟨p2, rfl, a2, b2, c2, d2⟩
           simp only [ifc, machT, newSet]
           have A2 := Lib.hid a2
           have B2_2 := Lib.hid b2
           have z2 := A2.out.size
           have B1_2 := Lib.hid (A2.out.keep B1_1.out (by simp))
           have Q2 := Lib.hid (A2.out.keep Q1.out (by simp))
           have k20 := cell_blk Q2.out 0
           have k21 := cell_blk Q2.out 1
           have k22 := cell_blk Q2.out 2
           have k23 := cell_blk Q2.out 3
           simp at k20 k21 k22 k23
           clear a2 b2)
        | (go_at_call 33; refine (show Calls Try.prog 33 #[.int .i64 6, .int .i64 b, .agg #[.int .i64 0, .int .i64 1, .int .i64 2, .int .i64 4]] _ _ from clear_new _ 6 b (q0 4)).mono ?_; rintro e v3 ⟨p3, rfl, a3, b3, c3, d3⟩
           simp only [ifc, machT, newClear]
           have A3 := Lib.hid a3
           have B3_3 := Lib.hid b3
           have z3 := A3.out.size
           have B1_3 := Lib.hid (A3.out.keep B1_2.out (by simp))
           have B2_3 := Lib.hid (A3.out.keep B2_2.out (by simp))
           have Q3 := Lib.hid (A3.out.keep Q2.out (by simp))
           have k30 := cell_blk Q3.out 0
           have k31 := cell_blk Q3.out 1
           have k32 := cell_blk Q3.out 2
           have k33 := cell_blk Q3.out 3
           simp at k30 k31 k32 k33
           clear a3 b3)
        | (go_at_call 26; refine (show Calls Try.prog 26 #[.agg #[.int .i64 0, .int .i64 1, .int .i64 2, .int .i64 4]] _ _ from steal_new _ (q0 4)).mono ?_; rintro e v4 ⟨p4, rfl, a4, b4, c4, d4⟩
           simp only [ifc, machT, newSteal]
           have A4 := Lib.hid a4
           have B4_4 := Lib.hid b4
           have z4 := A4.out.size
           have B1_4 := Lib.hid (A4.out.keep B1_3.out (by simp))
           have B2_4 := Lib.hid (A4.out.keep B2_3.out (by simp))
           have B3_4 := Lib.hid (A4.out.keep B3_3.out (by simp))
           have Q4 := Lib.hid (A4.out.keep Q3.out (by simp))
           have k40 := cell_blk Q4.out 0
           have k41 := cell_blk Q4.out 1
           have k42 := cell_blk Q4.out 2
           have k43 := cell_blk Q4.out 3
           simp at k40 k41 k42 k43
           clear a4 b4)))
    have D : Hid (Dist4 w p1 p2 p3 p4 en m bc ck) := Lib.hid (by
      have := B2.out.em; have := B2.out.ec; have := B2.out.ek
      exact ⟨⟨by omega, by omega, by omega, by omega, by omega⟩, ⟨by omega, by omega, by omega, by omega, by omega⟩, ⟨by omega, by omega, by omega, by omega, by omega⟩, ⟨by omega, by omega, by omega, by omega, by omega⟩, by omega, by omega, by omega, by omega, by omega, by omega, by omega, by omega, by omega, by omega⟩)
    have O4 := Lib.hid ((((O2.out.then0 A1.out).then0 A2.out).then0 A3.out).then0 A4.out)
    have E4 := Lib.hid ((((B2.out.keep0 A1.out).keep0 A2.out).keep0 A3.out).keep0 A4.out)
    clear k00 k01 k02 k03 k10 k11 k12 k13 k20 k21 k22 k23 k30 k31 k32 k33 k40 k41 k42 k43
    have naa : ∀ w, (nilAhead 299 100 (.pointer (some ⟨p1, 0, none⟩)) "Step").run Try.prog w = .ok (some false) w := step_ahead 0 p1
    have nba : ∀ w, (method 299 100 (.pointer (some ⟨p1, 0, none⟩)) "Step").run Try.prog w = .ok (100, .pointer (some ⟨p1, 0, none⟩)) w := step_method 0 p1
    have nca : ∀ w, (nilAhead 299 100 (.pointer (some ⟨p1, 0, none⟩)) "Result").run Try.prog w = .ok (some false) w := result_ahead 0 p1
    have nda : ∀ w, (method 299 100 (.pointer (some ⟨p1, 0, none⟩)) "Result").run Try.prog w = .ok (99, .pointer (some ⟨p1, 0, none⟩)) w := result_method 0 p1
    have nea : ∀ w, (binOp .eql 37 (.iface 100 (.pointer (some ⟨p1, 0, none⟩))) .nilIface).run Try.prog w = .ok (.bool false) w := ifc_nil 0 p1
    have nab : ∀ w, (nilAhead 299 115 (.pointer (some ⟨p2, 0, none⟩)) "Step").run Try.prog w = .ok (some false) w := step_ahead 3 p2
    have nbb : ∀ w, (method 299 115 (.pointer (some ⟨p2, 0, none⟩)) "Step").run Try.prog w = .ok (114, .pointer (some ⟨p2, 0, none⟩)) w := step_method 3 p2
    have ncb : ∀ w, (nilAhead 299 115 (.pointer (some ⟨p2, 0, none⟩)) "Result").run Try.prog w = .ok (some false) w := result_ahead 3 p2
    have ndb : ∀ w, (method 299 115 (.pointer (some ⟨p2, 0, none⟩)) "Result").run Try.prog w = .ok (99, .pointer (some ⟨p2, 0, none⟩)) w := result_method 3 p2
    have neb : ∀ w, (binOp .eql 37 (.iface 115 (.pointer (some ⟨p2, 0, none⟩))) .nilIface).run Try.prog w = .ok (.bool false) w := ifc_nil 3 p2
    have nac : ∀ w, (nilAhead 299 118 (.pointer (some ⟨p3, 0, none⟩)) "Step").run Try.prog w = .ok (some false) w := step_ahead 4 p3
    have nbc : ∀ w, (method 299 118 (.pointer (some ⟨p3, 0, none⟩)) "Step").run Try.prog w = .ok (119, .pointer (some ⟨p3, 0, none⟩)) w := step_method 4 p3
    have ncc : ∀ w, (nilAhead 299 118 (.pointer (some ⟨p3, 0, none⟩)) "Result").run Try.prog w = .ok (some false) w := result_ahead 4 p3
    have ndc : ∀ w, (method 299 118 (.pointer (some ⟨p3, 0, none⟩)) "Result").run Try.prog w = .ok (99, .pointer (some ⟨p3, 0, none⟩)) w := result_method 4 p3
    have nec : ∀ w, (binOp .eql 37 (.iface 118 (.pointer (some ⟨p3, 0, none⟩))) .nilIface).run Try.prog w = .ok (.bool false) w := ifc_nil 4 p3
    have nad : ∀ w, (nilAhead 299 112 (.pointer (some ⟨p4, 0, none⟩)) "Step").run Try.prog w = .ok (some false) w := step_ahead 2 p4
    have nbd : ∀ w, (method 299 112 (.pointer (some ⟨p4, 0, none⟩)) "Step").run Try.prog w = .ok (112, .pointer (some ⟨p4, 0, none⟩)) w := step_method 2 p4
    have ncd : ∀ w, (nilAhead 299 112 (.pointer (some ⟨p4, 0, none⟩)) "Result").run Try.prog w = .ok (some false) w := result_ahead 2 p4
    have ndd : ∀ w, (method 299 112 (.pointer (some ⟨p4, 0, none⟩)) "Result").run Try.prog w = .ok (99, .pointer (some ⟨p4, 0, none⟩)) w := result_method 2 p4
    have ned : ∀ w, (binOp .eql 37 (.iface 112 (.pointer (some ⟨p4, 0, none⟩))) .nilIface).run Try.prog w = .ok (.bool false) w := ifc_nil 2 p4
    go_wp2_with fail
    refine (awake12_any _).mono ?_; rintro e w5 ⟨rfl, o5⟩
    have I5 : Hid (BKInv w p1 p2 p3 p4 en m bc ck k b 7 0 0 false w5) := Lib.hid ⟨newPush (q0 4) 9, newSet 6 b, newClear 6 b (q0 4), newSteal (q0 4), S0, 0, _, ⟨START.out, o5.keep B1_4.out (by simp), o5.keep B2_4.out (by simp), o5.keep B3_4.out (by simp), o5.keep B4_4.out (by simp), E4.out.keep0 o5, SOK.out, fun _ => newPush_ok 4 9 (by omega), fun _ => newSet_ok 6 b, fun _ => newClear_ok 6 b (q0 4) (q0_clear 4), fun _ => newSteal_ok 4 (by omega), O4.out.then0 o5⟩, by rw [SC.out]; omega, .inr (.inr ⟨rfl, by simp [newPush]⟩), .inr (by simp [newClear]), rfl⟩
    clear o5
    go_wp2_with fail
    try clear lo1
    try clear lo2
    try clear lo3
    try clear lo4
    try clear lo5
    try clear lo6
    try clear hi1
    try clear hi2
    try clear hi3
    try clear hi4
    try clear hi5
    try clear hi6
    try clear hs1
    try clear s2
    try clear z1
    try clear z2
    try clear z3
    try clear z4
    try clear C1
    try clear c1
    try clear c2
    try clear c3
    try clear c4
    try clear d1
    try clear d2
    try clear d3
    try clear d4
    try clear sd
    try clear soq
    try clear qlt
    try clear hBw
    try clear hBqb
    try clear hbb
    try clear hk
    try clear hbit0
    try clear hbit1
    try clear hsz0
    try clear hsz1
    try clear hb0
    try clear hb1
    go_loopw [18, 19] (fun pv i wr => ∃ (j : Nat) (pb : Bool), j ≤ len + 40 ∧ i = .int .i64 j ∧ pv = .bool pb ∧ BKInv w p1 p2 p3 p4 en m bc ck k b (7 + j) ((j + 2) / 3 - (len + 2) / 3) ((j + 1) / 3 - (len + 1) / 3) pb wr) (fun _ i _ => len + 40 - (intOf i).toNat)
    case atStart => exact ⟨0, false, Nat.zero_le _, rfl, rfl, by have := I5.out.less (g0 := (0 + 2) / 3 - (len + 2) / 3) (g1 := (0 + 1) / 3 - (len + 1) / 3) (by omega) (by omega); exact this⟩
    case round =>
      obtain ⟨j, pb, hj, rfl, rfl, hI⟩ := hrel
      have I := Lib.hid hI
      have OI : Hid (Only [] w wr) := Lib.hid (by obtain ⟨P, S, C, Y, s, t, L, h, _⟩ := hI; exact h.o)
      clear hI
      by_cases hlt : j < len + 40
      · by_cases hjl : j < len
        · have hge : ¬ ((len : Int) ≤ (j : Int)) := by omega
          have h40 : ¬ ((len : Int) + 40 ≤ (j : Int)) := by omega
          obtain ⟨ob, off, hao, hcl⟩ := HB.out (by rw [List.length_map]; have := HLEN.out; omega)
          subst hao
          have hc := hcl j (by rw [List.length_map]; have := HLEN.out; omega)
          simp only [List.getElem_map] at hc
          have hcell := OI.out.keepCell hc (by simp)
          have hz := wf_u8 (HWZ.out (zs[j]'(by have := HLEN.out; omega)) (List.getElem_mem _))
          obtain ⟨z, hzz⟩ : ∃ z, z = zs[j]'(by have := HLEN.out; omega) := ⟨_, rfl⟩
          rw [← hzz] at hcell hz
          obtain ⟨hz0, hz1⟩ := hz
          clear hzz hc hcl
          rcases (show z % 3 = 0 ∨ z % 3 = 1 ∨ z % 3 = 2 from by omega) with hm | hm | hm
          · cases pb with
            | false =>
              have GP := Lib.hid (I.out.goP D.out hk2 HBB.out (by omega))
              go_wp2_with fail
              refine GP.out.mono ?_; rintro e w6 ⟨b6, rfl, i6⟩
              have I6 := Lib.hid i6
              clear i6
              go_wp2_with fail
              go_roundw
              case rel => exact ⟨j + 1, b6, by omega, by go_num, rfl, by have := I6.out.less (g0 := (j + 1 + 2) / 3 - (len + 2) / 3) (g1 := (j + 1 + 1) / 3 - (len + 1) / 3) (by omega) (by omega); rwa [show (7 : Int) + j + 1 = 7 + ((j + 1 : Nat) : Int) from by omega] at this⟩
              case measure => simp [intOf]; omega
            | true =>
              have GS := Lib.hid (I.out.goS D.out hk2 HBB.out (by omega))
              go_wp2_with fail
              refine GS.out.mono ?_; rintro e w6 ⟨b6, rfl, i6⟩
              have I6 := Lib.hid i6
              clear i6
              go_wp2_with fail
              go_roundw
              case rel => exact ⟨j + 1, true, by omega, by go_num, rfl, by have := I6.out.less (g0 := (j + 1 + 2) / 3 - (len + 2) / 3) (g1 := (j + 1 + 1) / 3 - (len + 1) / 3) (by omega) (by omega); rwa [show (7 : Int) + j + 1 = 7 + ((j + 1 : Nat) : Int) from by omega] at this⟩
              case measure => simp [intOf]; omega
          · have GC := Lib.hid (I.out.goC D.out hk2 HBB.out (by omega))
            go_wp2_with fail
            refine GC.out.mono ?_; rintro e w6 ⟨b6, rfl, i6⟩
            have I6 := Lib.hid i6
            clear i6
            go_wp2_with fail
            go_roundw
            case rel => exact ⟨j + 1, pb, by omega, by go_num, rfl, by have := I6.out.less (g0 := (j + 1 + 2) / 3 - (len + 2) / 3) (g1 := (j + 1 + 1) / 3 - (len + 1) / 3) (by omega) (by omega); rwa [show (7 : Int) + j + 1 = 7 + ((j + 1 : Nat) : Int) from by omega] at this⟩
            case measure => simp [intOf]; omega
          · have GY := Lib.hid (I.out.goY D.out hk2 HBB.out (by omega))
            go_wp2_with fail
            refine GY.out.mono ?_; rintro e w6 ⟨b6, rfl, i6⟩
            have I6 := Lib.hid i6
            clear i6
            go_wp2_with fail
            go_roundw
            case rel => exact ⟨j + 1, pb, by omega, by go_num, rfl, by have := I6.out.less (g0 := (j + 1 + 2) / 3 - (len + 2) / 3) (g1 := (j + 1 + 1) / 3 - (len + 1) / 3) (by omega) (by omega); rwa [show (7 : Int) + j + 1 = 7 + ((j + 1 : Nat) : Int) from by omega] at this⟩
            case measure => simp [intOf]; omega
        · have hge : (len : Int) ≤ (j : Int) := by omega
          have h40 : ¬ ((len : Int) + 40 ≤ (j : Int)) := by omega
          rcases (show (j : Int) % 3 = 0 ∨ (j : Int) % 3 = 1 ∨ (j : Int) % 3 = 2 from by omega) with hm | hm | hm
          · cases pb with
            | false =>
              have GP := Lib.hid (I.out.goP D.out hk2 HBB.out (by omega))
              go_wp2_with fail
              refine GP.out.mono ?_; rintro e w6 ⟨b6, rfl, i6⟩
              have I6 := Lib.hid i6
              clear i6
              go_wp2_with fail
              go_roundw
              case rel => exact ⟨j + 1, b6, by omega, by go_num, rfl, by have := I6.out.less (g0 := (j + 1 + 2) / 3 - (len + 2) / 3) (g1 := (j + 1 + 1) / 3 - (len + 1) / 3) (by omega) (by omega); rwa [show (7 : Int) + j + 1 = 7 + ((j + 1 : Nat) : Int) from by omega] at this⟩
              case measure => simp [intOf]; omega
            | true =>
              have GS := Lib.hid (I.out.goS D.out hk2 HBB.out (by omega))
              go_wp2_with fail
              refine GS.out.mono ?_; rintro e w6 ⟨b6, rfl, i6⟩
              have I6 := Lib.hid i6
              clear i6
              go_wp2_with fail
              go_roundw
              case rel => exact ⟨j + 1, true, by omega, by go_num, rfl, by have := I6.out.less (g0 := (j + 1 + 2) / 3 - (len + 2) / 3) (g1 := (j + 1 + 1) / 3 - (len + 1) / 3) (by omega) (by omega); rwa [show (7 : Int) + j + 1 = 7 + ((j + 1 : Nat) : Int) from by omega] at this⟩
              case measure => simp [intOf]; omega
          · have GC := Lib.hid (I.out.goC D.out hk2 HBB.out (by omega))
            go_wp2_with fail
            refine GC.out.mono ?_; rintro e w6 ⟨b6, rfl, i6⟩
            have I6 := Lib.hid i6
            clear i6
            go_wp2_with fail
            go_roundw
            case rel => exact ⟨j + 1, pb, by omega, by go_num, rfl, by have := I6.out.less (g0 := (j + 1 + 2) / 3 - (len + 2) / 3) (g1 := (j + 1 + 1) / 3 - (len + 1) / 3) (by omega) (by omega); rwa [show (7 : Int) + j + 1 = 7 + ((j + 1 : Nat) : Int) from by omega] at this⟩
            case measure => simp [intOf]; omega
          · have GY := Lib.hid (I.out.goY D.out hk2 HBB.out (by omega))
            go_wp2_with fail
            refine GY.out.mono ?_; rintro e w6 ⟨b6, rfl, i6⟩
            have I6 := Lib.hid i6
            clear i6
            go_wp2_with fail
            go_roundw
            case rel => exact ⟨j + 1, pb, by omega, by go_num, rfl, by have := I6.out.less (g0 := (j + 1 + 2) / 3 - (len + 2) / 3) (g1 := (j + 1 + 1) / 3 - (len + 1) / 3) (by omega) (by omega); rwa [show (7 : Int) + j + 1 = 7 + ((j + 1 : Nat) : Int) from by omega] at this⟩
            case measure => simp [intOf]; omega
      · have HJ := Lib.hid (show j = len + 40 from by omega)
        have hge40 : (len : Int) + 40 ≤ (j : Int) := by omega
        obtain ⟨oI, s, ln, hE, hok, hsz, hl1, hl2, hl3⟩ := I.out.fin (by have := HJ.out; omega) (by have := HJ.out; omega)
        have E := Lib.hid hE
        have e22 := hE.mem
        have O9 := Lib.hid oI
        have hx0 := MS.at_bd hok 6
        obtain ⟨x, hx⟩ : ∃ x, x = s.at 6 := ⟨_, rfl⟩
        rw [← hx] at hx0 hl3
        have BX := Lib.hid hl3
        have PK := fun q c => Lib.hid ((peek_any (wr.drewN q) m bc s c hE.mm).mono fun _ _ h => (⟨h.1, h.2.symm⟩ : _ ∧ _ = wr.drewN q))
        have SZ := fun w => Lib.hid (show Calls Try.prog 21 #[.int .u64 (s.at 1), .int .u64 (s.at 0)] w fun e w' => e = .returned (.int .i64 ln) ∧ w' = w from by rw [← hsz]; exact (rsize_any w _ _).mono fun _ _ h => ⟨h.1, h.2.symm⟩)
        clear hsz hE hok oI hl3
        go_wp2_with fail
        go_quiet ((first | (go_at_call 22; exact Calls.quiet_of_same (PK _ _).out) | (go_at_call 21; exact Calls.quiet_of_same (SZ _).out)))
        have P6 := Lib.hid (show Calls Try.prog 22 #[.pointer (some ⟨m, 0, none⟩), .int .i64 6] (wr.drewN nq) fun e w' => e = .returned (.int .u64 x) ∧ w' = wr.drewN nq from by rw [hx]; exact (PK nq 6).out)
        clear PK SZ hx
        by_cases h0 : ln = 0
        · subst h0
          go_wp2_with fail
          all_goals go_ret
          all_goals exact ⟨rfl, O9.out.drewN _⟩
        · have BT := Lib.hid (show Bt b x from by rcases BX.out with h | h; exact absurd h h0; exact h)
          go_wp2_with fail
          refine P6.out.mono ?_; rintro e y0 ⟨rfl, rfl⟩
          go_wp2_with fail
          refine (refBit_any _ x b hx0 HBB.out BT.out).mono ?_; rintro e y0 ⟨rfl, rfl⟩
          go_wp2_with fail
          go_ret
          exact ⟨rfl, O9.out.drewN _⟩
  · obtain rfl : k = 0 := by omega
    have CZ : Hid (CellsAt wd (some ⟨B, 0, none⟩) (Z0.map (.int .u64))) := Lib.hid (by
      obtain ⟨a, cap, e, hc, _⟩ := RD.out.cells
      have e1 : some (⟨B, 0, none⟩ : Addr) = some a := by injection e
      rw [e1]; exact hc)
    have O1 := Lib.hid Od.out
    have QB1 := Lib.hid QBd.out
    have LZ : Hid (7 = Z0.length) := Lib.hid L0.out.symm
    have WZ := Lib.hid W0.out
    have AZ : Hid (∀ d : Int, d ≠ 6 → (bareMS Z0).at d = (bareMS (deqTo 4 ((0 : Nat) : Int) 0 (entZ [5, 6]) 0)).at d) := Lib.hid (fun d hd => by rw [HZ0.out])
    obtain ⟨w1, hw1⟩ : ∃ w1, w1 = wd := ⟨_, rfl⟩
    obtain ⟨Z, hZ⟩ : ∃ Z, Z = Z0 := ⟨_, rfl⟩
    obtain ⟨k, hk0⟩ : ∃ k : Nat, k = 0 := ⟨_, rfl⟩
    go_wp2_with fail
    rw [← hw1] at CZ O1 QB1 ⊢
    rw [← hZ] at CZ LZ WZ AZ
    clear hw1 hZ
    refine (bare_any w1 _ 7 7 Z CZ.out LZ.out (by omega)).mono ?_; rintro e w2 ⟨en, m, bc, ck, r, rc, rfl, o2, hB, lo, hi'⟩
    have B2 := Lib.hid hB.ee
    have O2 := Lib.hid (O1.out.then0 o2)
    have Q0 := Lib.hid (o2.keep QB1.out (by simp))
    have s2 := o2.size
    obtain ⟨lo1, lo2, lo3, lo4, lo5, lo6⟩ := lo
    obtain ⟨hi1, hi2, hi3, hi4, hi5, hi6⟩ := hi'
    have hs1 := O1.out.size
    obtain ⟨S0, hS0⟩ : ∃ S0, S0 = bareMS Z := ⟨_, rfl⟩
    rw [← hS0] at B2
    have START : Hid (BK 0 b (newPush (q0 4) 9) (newSet 6 b) (newClear 6 b (q0 4)) (newSteal (q0 4)) S0 0 ((List.range 0).map (entZ [5, 6]))) := Lib.hid (by
      rw [hS0]
      exact BK.start DS.out (by rw [bareMS_cells, deqTo_len]) (by simp) (by rw [bareMS_cells]; exact LZ.out.symm) AZ.out)
    have SOK : Hid S0.ok := Lib.hid (by intro x hx; rw [hS0, bareMS_cells] at hx; exact WZ.out x hx)
    have SC : Hid (S0.count = 7) := Lib.hid (by rw [hS0, bareMS_count, ← LZ.out]; rfl)
    have k00 := cell_blk Q0.out 0
    have k01 := cell_blk Q0.out 1
    have k02 := cell_blk Q0.out 2
    have k03 := cell_blk Q0.out 3
    simp at k00 k01 k02 k03
    clear o2 hB hS0
    go_wp2_with fail
    go_region_held3 (fun w' => w'.cell? ⟨qb, 0, none⟩ = some (.int .i64 0) ∧ w'.cell? ⟨qb, 1, none⟩ = some (.int .i64 1) ∧ w'.cell? ⟨qb, 2, none⟩ = some (.int .i64 2) ∧ w'.cell? ⟨qb, 3, none⟩ = some (.int .i64 4))
      (first | exact ⟨k00, k01, k02, k03⟩ | exact ⟨k10, k11, k12, k13⟩ | exact ⟨k20, k21, k22, k23⟩ | exact ⟨k30, k31, k32, k33⟩ | exact ⟨k40, k41, k42, k43⟩)
      ((first
        | (go_at_call 19; refine (show Calls Try.prog 19 #[.agg #[.int .i64 0, .int .i64 1, .int .i64 2, .int .i64 4], .int .i64 9] _ _ from push_new _ (q0 4) 9).mono ?_; rintro e v1 ⟨p1, rfl, a1, b1, c1, d1⟩
           simp only [ifc, machT, newPush]
           have A1 := Lib.hid a1.undrew
           have B1_1 := Lib.hid b1
           have z1 := A1.out.size
           have C1 : w2.heap.size ≤ p1 := c1
           have Q1 := Lib.hid (A1.out.keep Q0.out (by simp))
           have k10 := cell_blk Q1.out 0
           have k11 := cell_blk Q1.out 1
           have k12 := cell_blk Q1.out 2
           have k13 := cell_blk Q1.out 3
           simp at k10 k11 k12 k13
           clear a1 b1)
        | (go_at_call 32; refine (show Calls Try.prog 32 #[.int .i64 6, .int .i64 b] _ _ from set_new _ 6 b).mono ?_; rintro e v2 ⟨p2, rfl, a2, b2, c2, d2⟩
           simp only [ifc, machT, newSet]
           have A2 := Lib.hid a2
           have B2_2 := Lib.hid b2
           have z2 := A2.out.size
           have B1_2 := Lib.hid (A2.out.keep B1_1.out (by simp))
           have Q2 := Lib.hid (A2.out.keep Q1.out (by simp))
           have k20 := cell_blk Q2.out 0
           have k21 := cell_blk Q2.out 1
           have k22 := cell_blk Q2.out 2
           have k23 := cell_blk Q2.out 3
           simp at k20 k21 k22 k23
           clear a2 b2)
        | (go_at_call 33; refine (show Calls Try.prog 33 #[.int .i64 6, .int .i64 b, .agg #[.int .i64 0, .int .i64 1, .int .i64 2, .int .i64 4]] _ _ from clear_new _ 6 b (q0 4)).mono ?_; rintro e v3 ⟨p3, rfl, a3, b3, c3, d3⟩
           simp only [ifc, machT, newClear]
           have A3 := Lib.hid a3
           have B3_3 := Lib.hid b3
           have z3 := A3.out.size
           have B1_3 := Lib.hid (A3.out.keep B1_2.out (by simp))
           have B2_3 := Lib.hid (A3.out.keep B2_2.out (by simp))
           have Q3 := Lib.hid (A3.out.keep Q2.out (by simp))
           have k30 := cell_blk Q3.out 0
           have k31 := cell_blk Q3.out 1
           have k32 := cell_blk Q3.out 2
           have k33 := cell_blk Q3.out 3
           simp at k30 k31 k32 k33
           clear a3 b3)
        | (go_at_call 26; refine (show Calls Try.prog 26 #[.agg #[.int .i64 0, .int .i64 1, .int .i64 2, .int .i64 4]] _ _ from steal_new _ (q0 4)).mono ?_; rintro e v4 ⟨p4, rfl, a4, b4, c4, d4⟩
           simp only [ifc, machT, newSteal]
           have A4 := Lib.hid a4
           have B4_4 := Lib.hid b4
           have z4 := A4.out.size
           have B1_4 := Lib.hid (A4.out.keep B1_3.out (by simp))
           have B2_4 := Lib.hid (A4.out.keep B2_3.out (by simp))
           have B3_4 := Lib.hid (A4.out.keep B3_3.out (by simp))
           have Q4 := Lib.hid (A4.out.keep Q3.out (by simp))
           have k40 := cell_blk Q4.out 0
           have k41 := cell_blk Q4.out 1
           have k42 := cell_blk Q4.out 2
           have k43 := cell_blk Q4.out 3
           simp at k40 k41 k42 k43
           clear a4 b4)))
    have D : Hid (Dist4 w p1 p2 p3 p4 en m bc ck) := Lib.hid (by
      have := B2.out.em; have := B2.out.ec; have := B2.out.ek
      exact ⟨⟨by omega, by omega, by omega, by omega, by omega⟩, ⟨by omega, by omega, by omega, by omega, by omega⟩, ⟨by omega, by omega, by omega, by omega, by omega⟩, ⟨by omega, by omega, by omega, by omega, by omega⟩, by omega, by omega, by omega, by omega, by omega, by omega, by omega, by omega, by omega, by omega⟩)
    have O4 := Lib.hid ((((O2.out.then0 A1.out).then0 A2.out).then0 A3.out).then0 A4.out)
    have E4 := Lib.hid ((((B2.out.keep0 A1.out).keep0 A2.out).keep0 A3.out).keep0 A4.out)
    clear k00 k01 k02 k03 k10 k11 k12 k13 k20 k21 k22 k23 k30 k31 k32 k33 k40 k41 k42 k43
    have naa : ∀ w, (nilAhead 299 100 (.pointer (some ⟨p1, 0, none⟩)) "Step").run Try.prog w = .ok (some false) w := step_ahead 0 p1
    have nba : ∀ w, (method 299 100 (.pointer (some ⟨p1, 0, none⟩)) "Step").run Try.prog w = .ok (100, .pointer (some ⟨p1, 0, none⟩)) w := step_method 0 p1
    have nca : ∀ w, (nilAhead 299 100 (.pointer (some ⟨p1, 0, none⟩)) "Result").run Try.prog w = .ok (some false) w := result_ahead 0 p1
    have nda : ∀ w, (method 299 100 (.pointer (some ⟨p1, 0, none⟩)) "Result").run Try.prog w = .ok (99, .pointer (some ⟨p1, 0, none⟩)) w := result_method 0 p1
    have nea : ∀ w, (binOp .eql 37 (.iface 100 (.pointer (some ⟨p1, 0, none⟩))) .nilIface).run Try.prog w = .ok (.bool false) w := ifc_nil 0 p1
    have nab : ∀ w, (nilAhead 299 115 (.pointer (some ⟨p2, 0, none⟩)) "Step").run Try.prog w = .ok (some false) w := step_ahead 3 p2
    have nbb : ∀ w, (method 299 115 (.pointer (some ⟨p2, 0, none⟩)) "Step").run Try.prog w = .ok (114, .pointer (some ⟨p2, 0, none⟩)) w := step_method 3 p2
    have ncb : ∀ w, (nilAhead 299 115 (.pointer (some ⟨p2, 0, none⟩)) "Result").run Try.prog w = .ok (some false) w := result_ahead 3 p2
    have ndb : ∀ w, (method 299 115 (.pointer (some ⟨p2, 0, none⟩)) "Result").run Try.prog w = .ok (99, .pointer (some ⟨p2, 0, none⟩)) w := result_method 3 p2
    have neb : ∀ w, (binOp .eql 37 (.iface 115 (.pointer (some ⟨p2, 0, none⟩))) .nilIface).run Try.prog w = .ok (.bool false) w := ifc_nil 3 p2
    have nac : ∀ w, (nilAhead 299 118 (.pointer (some ⟨p3, 0, none⟩)) "Step").run Try.prog w = .ok (some false) w := step_ahead 4 p3
    have nbc : ∀ w, (method 299 118 (.pointer (some ⟨p3, 0, none⟩)) "Step").run Try.prog w = .ok (119, .pointer (some ⟨p3, 0, none⟩)) w := step_method 4 p3
    have ncc : ∀ w, (nilAhead 299 118 (.pointer (some ⟨p3, 0, none⟩)) "Result").run Try.prog w = .ok (some false) w := result_ahead 4 p3
    have ndc : ∀ w, (method 299 118 (.pointer (some ⟨p3, 0, none⟩)) "Result").run Try.prog w = .ok (99, .pointer (some ⟨p3, 0, none⟩)) w := result_method 4 p3
    have nec : ∀ w, (binOp .eql 37 (.iface 118 (.pointer (some ⟨p3, 0, none⟩))) .nilIface).run Try.prog w = .ok (.bool false) w := ifc_nil 4 p3
    have nad : ∀ w, (nilAhead 299 112 (.pointer (some ⟨p4, 0, none⟩)) "Step").run Try.prog w = .ok (some false) w := step_ahead 2 p4
    have nbd : ∀ w, (method 299 112 (.pointer (some ⟨p4, 0, none⟩)) "Step").run Try.prog w = .ok (112, .pointer (some ⟨p4, 0, none⟩)) w := step_method 2 p4
    have ncd : ∀ w, (nilAhead 299 112 (.pointer (some ⟨p4, 0, none⟩)) "Result").run Try.prog w = .ok (some false) w := result_ahead 2 p4
    have ndd : ∀ w, (method 299 112 (.pointer (some ⟨p4, 0, none⟩)) "Result").run Try.prog w = .ok (99, .pointer (some ⟨p4, 0, none⟩)) w := result_method 2 p4
    have ned : ∀ w, (binOp .eql 37 (.iface 112 (.pointer (some ⟨p4, 0, none⟩))) .nilIface).run Try.prog w = .ok (.bool false) w := ifc_nil 2 p4
    go_wp2_with fail
    refine (awake12_any _).mono ?_; rintro e w5 ⟨rfl, o5⟩
    have I5 : Hid (BKInv w p1 p2 p3 p4 en m bc ck 0 b 7 0 0 false w5) := Lib.hid ⟨newPush (q0 4) 9, newSet 6 b, newClear 6 b (q0 4), newSteal (q0 4), S0, 0, _, ⟨START.out, o5.keep B1_4.out (by simp), o5.keep B2_4.out (by simp), o5.keep B3_4.out (by simp), o5.keep B4_4.out (by simp), E4.out.keep0 o5, SOK.out, fun _ => newPush_ok 4 9 (by omega), fun _ => newSet_ok 6 b, fun _ => newClear_ok 6 b (q0 4) (q0_clear 4), fun _ => newSteal_ok 4 (by omega), O4.out.then0 o5⟩, by rw [SC.out]; omega, .inr (.inr ⟨rfl, by simp [newPush]⟩), .inr (by simp [newClear]), rfl⟩
    clear o5
    go_wp2_with fail
    try clear lo1
    try clear lo2
    try clear lo3
    try clear lo4
    try clear lo5
    try clear lo6
    try clear hi1
    try clear hi2
    try clear hi3
    try clear hi4
    try clear hi5
    try clear hi6
    try clear hs1
    try clear s2
    try clear z1
    try clear z2
    try clear z3
    try clear z4
    try clear C1
    try clear c1
    try clear c2
    try clear c3
    try clear c4
    try clear d1
    try clear d2
    try clear d3
    try clear d4
    try clear sd
    try clear soq
    try clear qlt
    try clear hBw
    try clear hBqb
    try clear hbb
    try clear hk
    try clear hbit0
    try clear hbit1
    try clear hsz0
    try clear hsz1
    try clear hb0
    try clear hb1
    go_loopw [18, 19] (fun pv i wr => ∃ (j : Nat) (pb : Bool), j ≤ len + 40 ∧ i = .int .i64 j ∧ pv = .bool pb ∧ BKInv w p1 p2 p3 p4 en m bc ck 0 b (7 + j) ((j + 2) / 3 - (len + 2) / 3) ((j + 1) / 3 - (len + 1) / 3) pb wr) (fun _ i _ => len + 40 - (intOf i).toNat)
    case atStart => exact ⟨0, false, Nat.zero_le _, rfl, rfl, by have := I5.out.less (g0 := (0 + 2) / 3 - (len + 2) / 3) (g1 := (0 + 1) / 3 - (len + 1) / 3) (by omega) (by omega); exact this⟩
    case round =>
      obtain ⟨j, pb, hj, rfl, rfl, hI⟩ := hrel
      have I := Lib.hid hI
      have OI : Hid (Only [] w wr) := Lib.hid (by obtain ⟨P, S, C, Y, s, t, L, h, _⟩ := hI; exact h.o)
      clear hI
      by_cases hlt : j < len + 40
      · by_cases hjl : j < len
        · have hge : ¬ ((len : Int) ≤ (j : Int)) := by omega
          have h40 : ¬ ((len : Int) + 40 ≤ (j : Int)) := by omega
          obtain ⟨ob, off, hao, hcl⟩ := HB.out (by rw [List.length_map]; have := HLEN.out; omega)
          subst hao
          have hc := hcl j (by rw [List.length_map]; have := HLEN.out; omega)
          simp only [List.getElem_map] at hc
          have hcell := OI.out.keepCell hc (by simp)
          have hz := wf_u8 (HWZ.out (zs[j]'(by have := HLEN.out; omega)) (List.getElem_mem _))
          obtain ⟨z, hzz⟩ : ∃ z, z = zs[j]'(by have := HLEN.out; omega) := ⟨_, rfl⟩
          rw [← hzz] at hcell hz
          obtain ⟨hz0, hz1⟩ := hz
          clear hzz hc hcl
          rcases (show z % 3 = 0 ∨ z % 3 = 1 ∨ z % 3 = 2 from by omega) with hm | hm | hm
          · cases pb with
            | false =>
              have GP := Lib.hid (I.out.goP D.out hk2 HBB.out (by omega))
              go_wp2_with fail
              refine GP.out.mono ?_; rintro e w6 ⟨b6, rfl, i6⟩
              have I6 := Lib.hid i6
              clear i6
              go_wp2_with fail
              go_roundw
              case rel => exact ⟨j + 1, b6, by omega, by go_num, rfl, by have := I6.out.less (g0 := (j + 1 + 2) / 3 - (len + 2) / 3) (g1 := (j + 1 + 1) / 3 - (len + 1) / 3) (by omega) (by omega); rwa [show (7 : Int) + j + 1 = 7 + ((j + 1 : Nat) : Int) from by omega] at this⟩
              case measure => simp [intOf]; omega
            | true =>
              have GS := Lib.hid (I.out.goS D.out hk2 HBB.out (by omega))
              go_wp2_with fail
              refine GS.out.mono ?_; rintro e w6 ⟨b6, rfl, i6⟩
              have I6 := Lib.hid i6
              clear i6
              go_wp2_with fail
              go_roundw
              case rel => exact ⟨j + 1, true, by omega, by go_num, rfl, by have := I6.out.less (g0 := (j + 1 + 2) / 3 - (len + 2) / 3) (g1 := (j + 1 + 1) / 3 - (len + 1) / 3) (by omega) (by omega); rwa [show (7 : Int) + j + 1 = 7 + ((j + 1 : Nat) : Int) from by omega] at this⟩
              case measure => simp [intOf]; omega
          · have GC := Lib.hid (I.out.goC D.out hk2 HBB.out (by omega))
            go_wp2_with fail
            refine GC.out.mono ?_; rintro e w6 ⟨b6, rfl, i6⟩
            have I6 := Lib.hid i6
            clear i6
            go_wp2_with fail
            go_roundw
            case rel => exact ⟨j + 1, pb, by omega, by go_num, rfl, by have := I6.out.less (g0 := (j + 1 + 2) / 3 - (len + 2) / 3) (g1 := (j + 1 + 1) / 3 - (len + 1) / 3) (by omega) (by omega); rwa [show (7 : Int) + j + 1 = 7 + ((j + 1 : Nat) : Int) from by omega] at this⟩
            case measure => simp [intOf]; omega
          · have GY := Lib.hid (I.out.goY D.out hk2 HBB.out (by omega))
            go_wp2_with fail
            refine GY.out.mono ?_; rintro e w6 ⟨b6, rfl, i6⟩
            have I6 := Lib.hid i6
            clear i6
            go_wp2_with fail
            go_roundw
            case rel => exact ⟨j + 1, pb, by omega, by go_num, rfl, by have := I6.out.less (g0 := (j + 1 + 2) / 3 - (len + 2) / 3) (g1 := (j + 1 + 1) / 3 - (len + 1) / 3) (by omega) (by omega); rwa [show (7 : Int) + j + 1 = 7 + ((j + 1 : Nat) : Int) from by omega] at this⟩
            case measure => simp [intOf]; omega
        · have hge : (len : Int) ≤ (j : Int) := by omega
          have h40 : ¬ ((len : Int) + 40 ≤ (j : Int)) := by omega
          rcases (show (j : Int) % 3 = 0 ∨ (j : Int) % 3 = 1 ∨ (j : Int) % 3 = 2 from by omega) with hm | hm | hm
          · cases pb with
            | false =>
              have GP := Lib.hid (I.out.goP D.out hk2 HBB.out (by omega))
              go_wp2_with fail
              refine GP.out.mono ?_; rintro e w6 ⟨b6, rfl, i6⟩
              have I6 := Lib.hid i6
              clear i6
              go_wp2_with fail
              go_roundw
              case rel => exact ⟨j + 1, b6, by omega, by go_num, rfl, by have := I6.out.less (g0 := (j + 1 + 2) / 3 - (len + 2) / 3) (g1 := (j + 1 + 1) / 3 - (len + 1) / 3) (by omega) (by omega); rwa [show (7 : Int) + j + 1 = 7 + ((j + 1 : Nat) : Int) from by omega] at this⟩
              case measure => simp [intOf]; omega
            | true =>
              have GS := Lib.hid (I.out.goS D.out hk2 HBB.out (by omega))
              go_wp2_with fail
              refine GS.out.mono ?_; rintro e w6 ⟨b6, rfl, i6⟩
              have I6 := Lib.hid i6
              clear i6
              go_wp2_with fail
              go_roundw
              case rel => exact ⟨j + 1, true, by omega, by go_num, rfl, by have := I6.out.less (g0 := (j + 1 + 2) / 3 - (len + 2) / 3) (g1 := (j + 1 + 1) / 3 - (len + 1) / 3) (by omega) (by omega); rwa [show (7 : Int) + j + 1 = 7 + ((j + 1 : Nat) : Int) from by omega] at this⟩
              case measure => simp [intOf]; omega
          · have GC := Lib.hid (I.out.goC D.out hk2 HBB.out (by omega))
            go_wp2_with fail
            refine GC.out.mono ?_; rintro e w6 ⟨b6, rfl, i6⟩
            have I6 := Lib.hid i6
            clear i6
            go_wp2_with fail
            go_roundw
            case rel => exact ⟨j + 1, pb, by omega, by go_num, rfl, by have := I6.out.less (g0 := (j + 1 + 2) / 3 - (len + 2) / 3) (g1 := (j + 1 + 1) / 3 - (len + 1) / 3) (by omega) (by omega); rwa [show (7 : Int) + j + 1 = 7 + ((j + 1 : Nat) : Int) from by omega] at this⟩
            case measure => simp [intOf]; omega
          · have GY := Lib.hid (I.out.goY D.out hk2 HBB.out (by omega))
            go_wp2_with fail
            refine GY.out.mono ?_; rintro e w6 ⟨b6, rfl, i6⟩
            have I6 := Lib.hid i6
            clear i6
            go_wp2_with fail
            go_roundw
            case rel => exact ⟨j + 1, pb, by omega, by go_num, rfl, by have := I6.out.less (g0 := (j + 1 + 2) / 3 - (len + 2) / 3) (g1 := (j + 1 + 1) / 3 - (len + 1) / 3) (by omega) (by omega); rwa [show (7 : Int) + j + 1 = 7 + ((j + 1 : Nat) : Int) from by omega] at this⟩
            case measure => simp [intOf]; omega
      · have HJ := Lib.hid (show j = len + 40 from by omega)
        have hge40 : (len : Int) + 40 ≤ (j : Int) := by omega
        obtain ⟨oI, s, ln, hE, hok, hsz, hl1, hl2, hl3⟩ := I.out.fin (by have := HJ.out; omega) (by have := HJ.out; omega)
        have E := Lib.hid hE
        have e22 := hE.mem
        have O9 := Lib.hid oI
        have hx0 := MS.at_bd hok 6
        obtain ⟨x, hx⟩ : ∃ x, x = s.at 6 := ⟨_, rfl⟩
        rw [← hx] at hx0 hl3
        have BX := Lib.hid hl3
        have PK := fun q c => Lib.hid ((peek_any (wr.drewN q) m bc s c hE.mm).mono fun _ _ h => (⟨h.1, h.2.symm⟩ : _ ∧ _ = wr.drewN q))
        have SZ := fun w => Lib.hid (show Calls Try.prog 21 #[.int .u64 (s.at 1), .int .u64 (s.at 0)] w fun e w' => e = .returned (.int .i64 ln) ∧ w' = w from by rw [← hsz]; exact (rsize_any w _ _).mono fun _ _ h => ⟨h.1, h.2.symm⟩)
        clear hsz hE hok oI hl3
        go_wp2_with fail
        go_quiet ((first | (go_at_call 22; exact Calls.quiet_of_same (PK _ _).out) | (go_at_call 21; exact Calls.quiet_of_same (SZ _).out)))
        have P6 := Lib.hid (show Calls Try.prog 22 #[.pointer (some ⟨m, 0, none⟩), .int .i64 6] (wr.drewN nq) fun e w' => e = .returned (.int .u64 x) ∧ w' = wr.drewN nq from by rw [hx]; exact (PK nq 6).out)
        clear PK SZ hx
        by_cases h0 : ln = 0
        · subst h0
          go_wp2_with fail
          all_goals go_ret
          all_goals exact ⟨rfl, O9.out.drewN _⟩
        · have BT := Lib.hid (show Bt b x from by rcases BX.out with h | h; exact absurd h h0; exact h)
          go_wp2_with fail
          refine P6.out.mono ?_; rintro e y0 ⟨rfl, rfl⟩
          go_wp2_with fail
          refine (refBit_any _ x b hx0 HBB.out BT.out).mono ?_; rintro e y0 ⟨rfl, rfl⟩
          go_wp2_with fail
          go_ret
          exact ⟨rfl, O9.out.drewN _⟩

theorem BitmapKeeps_any (w : World) (size : Int) (ws : (Lit.int .u8 size).wf = true) (bit : Int) (wb : (Lit.int .u8 bit).wf = true) (ao : Option Addr) (cap : Nat) (zs : List Int) (hzc : CellsAt w ao (zs.map (.int .u8))) (wz : ∀ z ∈ zs, (Lit.int .u8 z).wf = true) (hl : zs.length ≤ cap) (hm : cap ≤ maxLen) :
    Calls Try.prog 9 #[.int .u8 size, .int .u8 bit, .slice ao zs.length cap] w fun e w' => e = .returned (.bool true) ∧ Only [] w w' := by
  by_cases h : zs.length ≤ 100
  · exact BitmapKeeps_small w size bit (wf_u8 ws) (wf_u8 wb) ao _ cap zs hzc wz rfl h
  · have h4 : 100 < zs.length := by omega
    generalize zs.length = len at *
    have h5 : (100 : Int) < (len : Int) := by omega
    clear hzc wz h
    go_enter Try.func9, Try.ntmps9
    go_wp2_with fail
    go_ret
    exact ⟨rfl, Only.refl _ _⟩
end Go.Proofs.Ytnjddpijlgjgeaa
