/- The law ThiefLast of chapter 10, walked: the text. (Written by wip/gen_thieflast.py.) -/
import Derived.Test.YtnjddpijlgjgeaaThfLast
import Derived.Deep.RegionHeld3
namespace Go.Proofs.Ytnjddpijlgjgeaa
open Go.RowKit
set_option linter.unusedVariables false

set_option maxRecDepth 100000 in
set_option maxHeartbeats 4000000 in
theorem ThiefLast_any (w : World) (first : Int) (wf : (Lit.int .u64 first).wf = true) (value : Int) (wv : (Lit.int .i64 value).wf = true) (ao : Option Addr) (cap len : Nat) (bs : List Bool) (hlen : len = bs.length) (hl : len ≤ 9223372036854775807) (hb : CellsAt w ao (bs.map .bool)) :
    Calls Try.prog 5 #[.int .u64 first, .int .i64 value, .slice ao len cap] w fun e w' => e = .returned (.bool true) ∧ Only [] w w' := by
  obtain ⟨hf0, hf1⟩ := wf_u64 wf
  obtain ⟨t0, ht0⟩ : ∃ t0 : Nat, first / 2 = t0 := ⟨(first / 2).toNat, by omega⟩
  have ht1 : t0 ≤ 9223372036854775807 := by omega
  have HB := Lib.hid hb
  have HLEN := Lib.hid hlen
  have DQ3 := fun wq v h => Lib.hid (show Calls Try.prog 16 #[.int .i64 3, .int .u64 t0, .int .i64 1, v] wq fun e w' => ∃ ao cap, e = .returned (.slice ao 6 cap) ∧ Only [] wq w' ∧ CellsAt w' ao ((deqTo 3 t0 1 (entZ [value]) 1).map (.int .u64)) from deque_any wq 3 1 t0 v [value] (by omega) (by omega) (by omega) (by omega) h (by simp))
  clear hb hlen wf wv
  go_enter Try.func5, Try.ntmps5
  go_wp2_with fail
  refine (queue_any _ 3).mono ?_; rintro e u0 ⟨rfl, o0⟩
  simp only [Q4.v]
  have U0 := Lib.hid o0
  clear o0
  go_wp2_with fail
  obtain ⟨qb, hqb⟩ : ∃ qb, qb = u0.heap.size := ⟨_, rfl⟩
  obtain ⟨wq, hwq⟩ : ∃ wq, wq = (u0.alloc (.cells #[.int .i64 0, .int .i64 1, .int .i64 2, .int .i64 3] 25)).alloc (.cells #[.int .i64 value] 3) := ⟨_, rfl⟩
  rw [← hqb, ← hwq]
  have ow : Only [] u0 wq := by rw [hwq]; exact ((Only.refl _ _).alloc _).alloc _
  have QBq : Hid (wq.heap[qb]? = some (.cells #[.int .i64 0, .int .i64 1, .int .i64 2, .int .i64 3] 25 (0, 0))) := Lib.hid (by rw [hwq, hqb, blk_alloc_old (by simp)]; exact blk_alloc_new _ _)
  have NV : Hid (Ns wq (.slice (some ⟨qb + 1, 0, none⟩) 1 1) [value]) := Lib.hid (ns_new (T := 3) (f := (0, 0)) [value] (by
    rw [hwq, hqb]
    have h := blk_alloc_new (u0.alloc (.cells #[.int .i64 0, .int .i64 1, .int .i64 2, .int .i64 3] 25)) (.cells #[.int .i64 value] 3)
    rw [show (u0.alloc (.cells #[.int .i64 0, .int .i64 1, .int .i64 2, .int .i64 3] 25)).heap.size = u0.heap.size + 1 from by simp] at h
    exact h) rfl)
  have Oq := Lib.hid (U0.out.then0 ow)
  have qlt := lt_of_blk QBq.out
  clear hwq hqb ow
  go_wp2_with fail
  refine (DQ3 _ _ NV.out).out.mono ?_; rintro e w1 ⟨da, dcap, rfl, o1, hd⟩
  have O1 := Lib.hid (Oq.out.then0 o1)
  have HD := Lib.hid hd
  have QB1 := Lib.hid (o1.keep QBq.out (by simp))
  have s1 := o1.size
  clear o1 hd DQ3
  go_wp2_with fail
  refine (bare_any w1 da dcap 6 _ HD.out (by rw [deqTo_len]) (by omega)).mono ?_; rintro e w2 ⟨en, m, bc, ck, r, rc, rfl, o2, hB, lo, hi'⟩
  have B2 := Lib.hid hB.ee
  have O2 := Lib.hid (O1.out.then0 o2)
  have QB2 := Lib.hid (o2.keep QB1.out (by simp))
  have s2 := o2.size
  obtain ⟨lo1, lo2, lo3, lo4, lo5, lo6⟩ := lo
  obtain ⟨hi1, hi2, hi3, hi4, hi5, hi6⟩ := hi'
  have hs1 := O1.out.size
  obtain ⟨S0, hS0⟩ : ∃ S0, S0 = bareMS (deqTo 3 t0 1 (entZ [value]) 1) := ⟨_, rfl⟩
  rw [← hS0] at B2
  obtain ⟨E, hE⟩ : ∃ E, E = entZ [value] 0 := ⟨_, rfl⟩
  have hEb := entZ_bd [value] 0
  rw [← hE] at hEb
  obtain ⟨hE0, hE1⟩ := hEb
  have DS : Hid (DQ S0 3 t0 [E]) := Lib.hid (by rw [hE]; exact dq_start (t := t0) (size := 1) (f := entZ [value]) (by omega) (by omega) (by omega) (by omega) (fun i => by have := entZ_bd [value] i; omega) (by rw [hS0, bareMS_cells]))
  have SOK : Hid S0.ok := Lib.hid (by intro x hx; rw [hS0, bareMS_cells] at hx; exact deqTo_bd (c := 3) (first := (t0 : Int)) (size := 1) (f := entZ [value]) (by omega) (fun i => by have := entZ_bd [value] i; omega) 1 x hx)
  have SC : Hid (S0.count = 6) := Lib.hid (by rw [hS0, bareMS_count, deqTo_len]; rfl)
  have HEE := Lib.hid hE
  have g0 := cell_blk QB2.out 0
  have g1 := cell_blk QB2.out 1
  have g2 := cell_blk QB2.out 2
  have g3 := cell_blk QB2.out 3
  simp at g0 g1 g2 g3
  clear o2 hB hS0 hE
  go_wp2_with fail
  go_region_held3 (fun w' => w'.cell? ⟨qb, 0, none⟩ = some (.int .i64 0) ∧ w'.cell? ⟨qb, 1, none⟩ = some (.int .i64 1) ∧ w'.cell? ⟨qb, 2, none⟩ = some (.int .i64 2) ∧ w'.cell? ⟨qb, 3, none⟩ = some (.int .i64 3))
    (first | exact ⟨g0, g1, g2, g3⟩ | exact ⟨k0, k1, k2, k3⟩ | exact ⟨m0, m1, m2, m3⟩)
    ((first
      | (go_at_call 20; refine (show Calls Try.prog 20 #[.agg #[.int .i64 0, .int .i64 1, .int .i64 2, .int .i64 3]] _ _ from pop_new _ (q0 3)).mono ?_; rintro e v1 ⟨px, rfl, a1, b1, c1, d1⟩
         simp only [ifc, machT, newPop]
         have A1 := Lib.hid a1.undrew
         have B1 := Lib.hid b1
         have C1 : w2.heap.size ≤ px := c1
         have z1 := A1.out.size
         have Q1 := Lib.hid (A1.out.keep QB2.out (by simp))
         have k0 := cell_blk Q1.out 0
         have k1 := cell_blk Q1.out 1
         have k2 := cell_blk Q1.out 2
         have k3 := cell_blk Q1.out 3
         simp at k0 k1 k2 k3
         clear a1 b1)
      | (go_at_call 26; refine (show Calls Try.prog 26 #[.agg #[.int .i64 0, .int .i64 1, .int .i64 2, .int .i64 3]] _ _ from steal_new _ (q0 3)).mono ?_; rintro e v2 ⟨py, rfl, a2, b2, c2, d2⟩
         simp only [ifc, machT, newSteal]
         have A2 := Lib.hid a2
         have BY := Lib.hid b2
         have BX := Lib.hid (a2.keep B1.out (by simp))
         have z2 := a2.size
         have Q2 := Lib.hid (a2.keep Q1.out (by simp))
         have m0 := cell_blk Q2.out 0
         have m1 := cell_blk Q2.out 1
         have m2 := cell_blk Q2.out 2
         have m3 := cell_blk Q2.out 3
         simp at m0 m1 m2 m3
         clear a2 b2)))
  have D : Hid (Dist2 w px py en m bc ck) := Lib.hid (by
    have := B2.out.em; have := B2.out.ec; have := B2.out.ek
    exact ⟨⟨by omega, by omega, by omega, by omega, by omega⟩, ⟨by omega, by omega, by omega, by omega, by omega⟩, by omega, by omega, by omega, by omega, by omega, by omega, by omega⟩)
  have O4 := Lib.hid ((O2.out.then0 A1.out).then0 A2.out)
  have E4 := Lib.hid ((B2.out.keep0 A1.out).keep0 A2.out)
  clear g0 g1 g2 g3 k0 k1 k2 k3 m0 m1 m2 m3
  have nax : ∀ w, (nilAhead 299 105 (.pointer (some ⟨px, 0, none⟩)) "Step").run Try.prog w = .ok (some false) w := step_ahead 1 px
  have nbx : ∀ w, (method 299 105 (.pointer (some ⟨px, 0, none⟩)) "Step").run Try.prog w = .ok (107, .pointer (some ⟨px, 0, none⟩)) w := step_method 1 px
  have ncx : ∀ w, (nilAhead 299 105 (.pointer (some ⟨px, 0, none⟩)) "Result").run Try.prog w = .ok (some false) w := result_ahead 1 px
  have ndx : ∀ w, (method 299 105 (.pointer (some ⟨px, 0, none⟩)) "Result").run Try.prog w = .ok (99, .pointer (some ⟨px, 0, none⟩)) w := result_method 1 px
  have nex : ∀ w, (binOp .eql 37 (.iface 105 (.pointer (some ⟨px, 0, none⟩))) .nilIface).run Try.prog w = .ok (.bool false) w := ifc_nil 1 px
  have nay : ∀ w, (nilAhead 299 112 (.pointer (some ⟨py, 0, none⟩)) "Step").run Try.prog w = .ok (some false) w := step_ahead 2 py
  have nby : ∀ w, (method 299 112 (.pointer (some ⟨py, 0, none⟩)) "Step").run Try.prog w = .ok (112, .pointer (some ⟨py, 0, none⟩)) w := step_method 2 py
  have ncy : ∀ w, (nilAhead 299 112 (.pointer (some ⟨py, 0, none⟩)) "Result").run Try.prog w = .ok (some false) w := result_ahead 2 py
  have ndy : ∀ w, (method 299 112 (.pointer (some ⟨py, 0, none⟩)) "Result").run Try.prog w = .ok (99, .pointer (some ⟨py, 0, none⟩)) w := result_method 2 py
  have ney : ∀ w, (binOp .eql 37 (.iface 112 (.pointer (some ⟨py, 0, none⟩))) .nilIface).run Try.prog w = .ok (.bool false) w := ifc_nil 2 py
  go_wp2_with fail
  refine (awake10_any _).mono ?_; rintro e w5 ⟨rfl, o5⟩
  have I5 : Hid (TLInv w px py en m bc ck t0 E 6 0 w5) := Lib.hid ⟨newPop (q0 3), newSteal (q0 3), S0, t0, [E], none, ⟨TL.start DS.out, rfl, o5.keep BX.out (by simp), o5.keep BY.out (by simp), E4.out.keep0 o5, SOK.out, fun _ => newPop_ok 3 (by omega), fun _ => newSteal_ok 3 (by omega), O4.out.then0 o5⟩, by rw [SC.out]; omega, .inr (by simp [newPop]), .inr (by simp [newSteal])⟩
  clear o5
  go_wp2_with fail
  go_loopw [13] (fun i wr => ∃ j : Nat, j ≤ 40 ∧ i = .int .i64 j ∧ TLInv w px py en m bc ck t0 E (6 + j) 0 wr) (fun i _ => 40 - (intOf i).toNat)
  case atStart => exact ⟨0, Nat.zero_le _, rfl, I5.out⟩
  case round =>
    obtain ⟨j, hj, rfl, hI⟩ := hrel
    have I := Lib.hid hI
    have OI : Hid (Only [] w wr) := Lib.hid (by obtain ⟨x, y, s, t, L, res, h, _⟩ := hI; exact h.o)
    clear hI
    by_cases hlt : j < 40
    · have GX := Lib.hid (I.out.goX D.out ht1 (by omega))
      have GY := Lib.hid (I.out.goY D.out ht1 (by omega))
      by_cases hjl : j < len
      · have hge : ¬ ((len : Int) ≤ (j : Int)) := by omega
        obtain ⟨b, off, hao, hcl⟩ := HB.out (by rw [List.length_map]; have := HLEN.out; omega)
        subst hao
        have hc := hcl j (by rw [List.length_map]; have := HLEN.out; omega)
        simp only [List.getElem_map] at hc
        have hcell := OI.out.keepCell hc (by simp)
        obtain ⟨bv, hbv⟩ : ∃ bv, bv = bs[j]'(by have := HLEN.out; omega) := ⟨_, rfl⟩
        rw [← hbv] at hcell
        clear hbv hc hcl
        cases bv with
        | true =>
          go_wp2_with fail
          refine GX.out.mono ?_; rintro e w6 ⟨b6, rfl, o6, i6⟩
          have I6 := Lib.hid i6
          clear o6 i6
          go_wp2_with fail
          go_roundw
          case rel => exact ⟨j + 1, by omega, by go_num, by have := I6.out; rwa [show (6 : Int) + j + 1 = 6 + ((j + 1 : Nat) : Int) from by omega] at this⟩
          case measure => simp [intOf]; omega
        | false =>
          go_wp2_with fail
          refine GY.out.mono ?_; rintro e w6 ⟨b6, rfl, o6, i6⟩
          have I6 := Lib.hid i6
          clear o6 i6
          go_wp2_with fail
          go_roundw
          case rel => exact ⟨j + 1, by omega, by go_num, by have := I6.out; rwa [show (6 : Int) + j + 1 = 6 + ((j + 1 : Nat) : Int) from by omega] at this⟩
          case measure => simp [intOf]; omega
      · have hge : (len : Int) ≤ (j : Int) := by omega
        by_cases hev : j % 2 = 0
        · have h2 : (((j : Int) % 2) == 0) = true := by simp; omega
          go_wp2_with fail
          refine GX.out.mono ?_; rintro e w6 ⟨b6, rfl, o6, i6⟩
          have I6 := Lib.hid i6
          clear o6 i6
          go_wp2_with fail
          go_roundw
          case rel => exact ⟨j + 1, by omega, by go_num, by have := I6.out; rwa [show (6 : Int) + j + 1 = 6 + ((j + 1 : Nat) : Int) from by omega] at this⟩
          case measure => simp [intOf]; omega
        · have h2 : (((j : Int) % 2) == 0) = false := by simp; omega
          go_wp2_with fail
          refine GY.out.mono ?_; rintro e w6 ⟨b6, rfl, o6, i6⟩
          have I6 := Lib.hid i6
          clear o6 i6
          go_wp2_with fail
          go_roundw
          case rel => exact ⟨j + 1, by omega, by go_num, by have := I6.out; rwa [show (6 : Int) + j + 1 = 6 + ((j + 1 : Nat) : Int) from by omega] at this⟩
          case measure => simp [intOf]; omega
    · have HJ := Lib.hid (show j = 40 from by omega)
      have hge40 : 40 ≤ j := by omega
      go_wp2_with fail
      go_loopw [14] (fun i wr => ∃ n : Nat, n ≤ 20 ∧ i = .int .i64 n ∧ TLInv w px py en m bc ck t0 E (46 + n * 2) n wr) (fun i _ => 20 - (intOf i).toNat)
      case atStart => exact ⟨0, Nat.zero_le _, rfl, by have := I.out; rw [HJ.out] at this; exact this⟩
      case round =>
        obtain ⟨n, hn, rfl, hI⟩ := hrel
        have I := Lib.hid hI
        clear hI
        by_cases hlt : n < 20
        · have GX := Lib.hid (I.out.half D.out ht1 (by omega))
          go_wp2_with fail
          refine GX.out.mono ?_; rintro e w6 ⟨b6, rfl, o6, i6⟩
          have GY := Lib.hid (i6.whole D.out ht1 (by omega))
          clear o6 i6
          go_wp2_with fail
          refine GY.out.mono ?_; rintro e w7 ⟨b7, rfl, o7, i7⟩
          have I7 := Lib.hid i7
          clear o7 i7
          go_wp2_with fail
          go_roundw
          case rel => exact ⟨n + 1, by omega, by go_num, by have := I7.out; rwa [show (46 : Int) + n * 2 + 1 + 1 = 46 + ((n + 1 : Nat) : Int) * 2 from by omega] at this⟩
          case measure => simp [intOf]; omega
        · obtain ⟨oI, xc, xv, yc, yv, ⟨hx1, hx2⟩, ⟨hy1, hy2⟩, hfin⟩ := I.out.fin (by omega) ⟨hE0, hE1⟩
          have OI := Lib.hid oI
          have HFIN := Lib.hid hfin
          clear oI hfin
          go_wp2_with fail
          refine (result_any _ px xc xv hx1 hx2).mono ?_; rintro e w8 ⟨rfl, o8⟩
          have hy1' := o8.keepCell hy1 (by simp)
          have hy2' := o8.keepCell hy2 (by simp)
          have O8 := Lib.hid (OI.out.then0 o8)
          clear o8 hx1 hx2 hy1 hy2
          go_wp2_with fail
          refine (result_any _ py yc yv hy1' hy2').mono ?_; rintro e w9 ⟨rfl, o9⟩
          have O9 := Lib.hid (O8.out.then0 o9)
          clear o9 hy1' hy2'
          have NB := fun (w : World) => Lib.hid (show Calls Try.prog 28 #[.slice (some ⟨w.heap.size, 0, none⟩) 1 1, .int .i64 0, .int .i64 1000] (w.alloc (.cells #[.int .i64 value] 3)) fun e w' => e = .returned (.int .i64 E) ∧ Only [] (w.alloc (.cells #[.int .i64 value] 3)) w' from by
            rw [HEE.out]
            exact number_any _ _ [value] 0 1000 (ns_new (T := 3) (f := (0, 0)) [value] (blk_alloc_new w _) rfl) (by omega) (by simp) (by omega))
          go_wp2_with fail
          refine (NB _).out.mono ?_; rintro e w10 ⟨rfl, o10⟩
          have O10 := Lib.hid ((O9.out.alloc (.cells #[.int .i64 value] 3)).then0 o10)
          clear o10 NB
          rcases HFIN.out with ⟨rfl, rfl, h3⟩ | ⟨rfl, rfl, h3⟩
          all_goals
            go_wp2_with fail
            go_ret
            exact ⟨rfl, O10.out⟩
end Go.Proofs.Ytnjddpijlgjgeaa
