/- The law ThiefQueue of chapter 10, walked. (Written by wip/gen_thfqueue.py.) -/
import Derived.Test.YtnjddpijlgjgeaaThfAwake
import Derived.Test.YtnjddpijlgjgeaaMidRow
namespace Go.Proofs.Ytnjddpijlgjgeaa
open Go.RowKit
set_option linter.unusedVariables false

theorem infoI : (Try.prog.info? 3).map (fun i => (i.zero, i.size, i.bytes)) = some (some (.int .i64 0), 1, 8) := by kernel_rfl

theorem drw3 (d : Int) : drw d 3 = 0 ∨ drw d 3 = 1 ∨ drw d 3 = 2 := by
  have := drw_bd d 3
  omega

set_option maxRecDepth 100000 in
set_option maxHeartbeats 4000000 in
theorem ThiefQueue_small (w : World) (n first : Int) (hn : 0 ≤ n ∧ n ≤ 255) (hf : 0 ≤ first ∧ first ≤ 18446744073709551615) (ao : Option Addr) (len cap : Nat) (zs : List Int) (hz : CellsAt w ao (zs.map (.int .i64))) (hlen : len = zs.length) (h100 : len ≤ 100) :
    Calls Try.prog 6 #[.int .u8 n, .int .u64 first, .slice ao len cap] w fun e w' => e = .returned (.bool true) ∧ Only [] w w' := by
  obtain ⟨hn0, hn1⟩ := hn
  obtain ⟨hf0, hf1⟩ := hf
  obtain ⟨i0, hi, hz0, hz1, hz2⟩ := info_parts infoI
  obtain ⟨c, hc⟩ : ∃ c : Nat, 1 + n % 9 = c := ⟨(1 + n % 9).toNat, by omega⟩
  have hc1 : 1 ≤ c := by omega
  have hc9 : c ≤ 9 := by omega
  obtain ⟨t0, ht0⟩ : ∃ t0 : Nat, first / 2 = t0 := ⟨(first / 2).toNat, by omega⟩
  have ht1 : t0 ≤ 9223372036854775807 := by omega
  have HZ := Lib.hid hz
  have HLEN := Lib.hid hlen
  have hh : ¬ (100 < (len : Int)) := by omega
  clear hz hlen
  go_enter Try.func6, Try.ntmps6
  go_wp2_with fail
  refine (queue_any _ c).mono ?_; rintro e u0 ⟨rfl, o0⟩
  simp only [Q4.v]
  have U0 := Lib.hid o0
  clear o0
  go_wp2_with fail
  obtain ⟨wq, hwq⟩ : ∃ wq, wq = u0.alloc (.cells #[.int .i64 0, .int .i64 1, .int .i64 2, .int .i64 c] 25) := ⟨_, rfl⟩
  rw [← hwq]
  obtain ⟨qb, hqb⟩ : ∃ qb, qb = u0.heap.size := ⟨_, rfl⟩
  rw [← hqb]
  have ow : Only [] u0 wq := by rw [hwq]; exact (Only.refl _ _).alloc _
  have QBq : Hid (wq.heap[qb]? = some (.cells #[.int .i64 0, .int .i64 1, .int .i64 2, .int .i64 c] 25 (0, 0))) := Lib.hid (by rw [hwq, hqb]; exact blk_alloc_new _ _)
  have Oq := Lib.hid (U0.out.then0 ow)
  have qlo : w.heap.size ≤ qb := by have := U0.out.size; omega
  have qlt := lt_of_blk QBq.out
  clear hwq hqb ow
  go_wp2_with fail
  refine (deque_any wq c 0 t0 _ [] hc1 (by omega) (by omega) (by omega) ⟨none, 0, rfl, CellsAt.nil _ _, fun _ => ⟨rfl, rfl⟩, Nat.le_refl _⟩ (by simp)).mono ?_; rintro e w1 ⟨da, dcap, rfl, o1, hd⟩
  have O1 := Lib.hid (Oq.out.then0 o1)
  have HD := Lib.hid hd
  have QB1 := Lib.hid (o1.keep QBq.out (by simp))
  have s1 := o1.size
  clear o1 hd
  go_wp2_with fail
  refine (bare_any w1 da dcap (c + 3) _ HD.out (by rw [deqTo_len]) (by omega)).mono ?_; rintro e w2 ⟨en, m, bc, ck, r, rc, rfl, o2, hB, lo, hi'⟩
  have B2 := Lib.hid hB
  have O2 := Lib.hid (O1.out.then0 o2)
  have QB2 := Lib.hid (o2.keep QB1.out (by simp))
  have s2 := o2.size
  obtain ⟨lo1, lo2, lo3, lo4, lo5, lo6⟩ := lo
  obtain ⟨hi1, hi2, hi3, hi4, hi5, hi6⟩ := hi'
  clear o2 hB
  go_wp2_with fail
  refine (awake10_any _).mono ?_; rintro e w3 ⟨rfl, o3⟩
  have B3 := Lib.hid (B2.out.keep0 o3)
  have O3 := Lib.hid (O2.out.then0 o3)
  have QB3 := Lib.hid (o3.keep QB2.out (by simp))
  have s3 := o3.size
  have hs1 := O1.out.size
  clear o3 B2 QB2
  obtain ⟨S0, hS0⟩ : ∃ S0, S0 = bareMS (deqTo c t0 0 (entZ []) 0) := ⟨_, rfl⟩
  rw [← hS0] at B3
  have DS : Hid (DQ S0 c t0 []) := Lib.hid (show DQ S0 c t0 ((List.range 0).map (entZ [])) from dq_start (t := t0) (size := 0) (f := entZ []) hc1 (by omega) (by omega) (by omega) (fun i => by have := entZ_bd [] i; omega) (by rw [hS0, bareMS_cells]))
  have SOK : Hid S0.ok := Lib.hid (by intro x hx; rw [hS0, bareMS_cells] at hx; exact deqTo_bd (c := c) (first := (t0 : Int)) (size := 0) (f := entZ []) (by omega) (fun i => by have := entZ_bd [] i; omega) 0 x hx)
  have SC : Hid (S0.count = c + 3) := Lib.hid (by rw [hS0, bareMS_count, deqTo_len]; rfl)
  clear hS0
  go_wp2_with fail
  go_loopw [12, 13] (fun v i wr => ∃ (j : Nat) (L : List Int) (t : Nat) (s : MS) (ln : Nat), j ≤ len ∧ i = .int .i64 j ∧ Mid wr w3.heap.size v ln (L.map (.int .i64)) ∧ ln ≤ j ∧ EnvAt wr en m bc ck s 0 ∧ DQ s c t L ∧ (∀ x ∈ L, inI x) ∧ s.ok ∧ s.count ≤ c + 3 + j * 20 ∧ t ≤ t0 + j ∧ w3.heap.size ≤ wr.heap.size ∧ Only [] w wr ∧
      wr.heap[qb]? = some (.cells #[.int .i64 0, .int .i64 1, .int .i64 2, .int .i64 c] 25 (0, 0))) (fun _ i _ => len - (intOf i).toNat)
  case atStart => exact ⟨0, [], t0, S0, 0, Nat.zero_le _, rfl, Mid.nil _ _, Nat.le_refl _, B3.out.ee, DS.out, by simp, SOK.out, by rw [SC.out]; omega, by omega, Nat.le_refl _, O3.out, QB3.out⟩
  case round =>
    obtain ⟨j, L, t, s, ln, hj, rfl, hown, hLj, hE, hD, hI, hso, hcn, htj, hsz, hO, hQB⟩ := hrel
    have hbc : bc < wr.heap.size := by omega
    have qlt4 : qb < wr.heap.size := by omega
    have qm : qb ≠ m ∧ qb ≠ bc := by omega
    have W := Lib.hid hown
    have E := Lib.hid hE
    have D := Lib.hid hD
    have I := Lib.hid hI
    have SO := Lib.hid hso
    have O := Lib.hid hO
    have QB := Lib.hid hQB
    have g0 := cell_blk hQB 0
    have g1 := cell_blk hQB 1
    have g2 := cell_blk hQB 2
    have g3 := cell_blk hQB 3
    simp at g0 g1 g2 g3
    have hLc : L.length ≤ c := hD.fit
    obtain ⟨⟨so, sc, rfl⟩, hln⟩ := hown.slice
    rw [List.length_map] at hln
    rw [hln] at hLc
    have HLN := Lib.hid hln
    clear hown hE hD hI hso hO hQB hln
    by_cases hlt : j < len
    · obtain ⟨b, off, rfl, hcl⟩ := HZ.out.ints (by have := HLEN.out; omega)
      have hcell : wr.cell? ⟨b, off + j, none⟩ = some (.int .i64 (zs.getD j 0)) := O.out.keepCell (hcl j (by have := HLEN.out; omega)) (by simp)
      obtain ⟨z, hz⟩ : ∃ z, z = zs.getD j 0 := ⟨_, rfl⟩
      rw [← hz] at hcell
      clear hcl hz
      have RD := Lib.hid (refDraw_any 3 z wr (by omega))
      rcases drw3 z with hd3 | hd3 | hd3
      · rw [hd3] at RD
        clear hd3
        rcases push_alone D.out (j : Int) 16 with ⟨hl, s', ha, hd⟩ | ⟨hl, s', ha, hd⟩
        · have HA := Lib.hid ha
          have HD2 := Lib.hid hd
          have hb1 : decide (ln < c) = false := by have := HLN.out; simp; omega
          have hb2 : ¬ (ln < c) := by have := HLN.out; omega
          clear ha hd hl
          go_wp2_with fail
          refine RD.out.mono ?_; rintro e y0 ⟨rfl, rfl⟩
          go_wp2_with fail
          refine (push_new _ (q0 c) j).mono ?_; rintro e v1 ⟨p1, rfl, a1, b1, c1, d1⟩
          have A1 := Lib.hid a1
          have X1 := Lib.hid (apart_new E.out hbc c1)
          have F1 := Lib.hid (E.out.keep0 A1.out)
          have Q1 := Lib.hid (A1.out.keep QB.out (by simp))
          have BB1 := Lib.hid b1
          have z1 := A1.out.size
          clear a1 b1
          go_wp2_with fail
          refine (alone_is v1 p1 en m bc ck (newPush (q0 c) j) s 0 20 (by omega) 0 rfl rfl (newPush_ok c j (by omega)) SO.out F1.out X1.out.1 X1.out.2 BB1.out (by omega) HA.out).mono ?_; rintro e x1 ⟨rfl, o1, e1⟩
          have EE1 := Lib.hid e1
          have QX1 := Lib.hid (o1.keep Q1.out (by simp; omega))
          have OW1 : Hid (Only [] w x1) := Lib.hid ((O.out.then0 A1.out).trans o1 (by have := O.out.size; simp; omega))
          have WW2 := Lib.hid (W.out.keep ((A1.out.mono (T := [p1, m, bc]) (by simp)).trans o1 (by simp)) (by simp; omega))
          have ss := alone_ok 20 (newPush (q0 c) j) s (fun _ => newPush_ok c j (by omega)) SO.out
          rw [HA.out] at ss
          have SS1 := Lib.hid ss
          clear ss
          have y1 := o1.size
          clear o1 e1 g0 g1 g2 g3
          go_wp2_with fail
          go_roundw
          case rel => exact ⟨j + 1, L, t, s', ln, by omega, by go_num, WW2.out, by omega, EE1.out, HD2.out, I.out, SS1.out.1, by have := SS1.out.2.2.2; omega, by omega, by omega, OW1.out, QX1.out⟩
          case measure => simp [intOf]; omega
        · have HA := Lib.hid ha
          have HD2 := Lib.hid hd
          have hb1 : decide (ln < c) = true := by have := HLN.out; simp; omega
          have hb2 : ln < c := by have := HLN.out; omega
          clear ha hd
          go_wp2_with fail
          refine RD.out.mono ?_; rintro e y0 ⟨rfl, rfl⟩
          go_wp2_with fail
          refine (push_new _ (q0 c) j).mono ?_; rintro e v1 ⟨p1, rfl, a1, b1, c1, d1⟩
          have A1 := Lib.hid a1
          have X1 := Lib.hid (apart_new E.out hbc c1)
          have F1 := Lib.hid (E.out.keep0 A1.out)
          have Q1 := Lib.hid (A1.out.keep QB.out (by simp))
          have BB1 := Lib.hid b1
          have z1 := A1.out.size
          clear a1 b1
          go_wp2_with fail
          refine (alone_is v1 p1 en m bc ck (newPush (q0 c) j) s 0 20 (by omega) 0 rfl rfl (newPush_ok c j (by omega)) SO.out F1.out X1.out.1 X1.out.2 BB1.out (by omega) HA.out).mono ?_; rintro e x1 ⟨rfl, o1, e1⟩
          have EE1 := Lib.hid e1
          have QX1 := Lib.hid (o1.keep Q1.out (by simp; omega))
          have OW1 : Hid (Only [] w x1) := Lib.hid ((O.out.then0 A1.out).trans o1 (by have := O.out.size; simp; omega))
          have WW2 := Lib.hid (W.out.keep ((A1.out.mono (T := [p1, m, bc]) (by simp)).trans o1 (by simp)) (by simp; omega))
          have ss := alone_ok 20 (newPush (q0 c) j) s (fun _ => newPush_ok c j (by omega)) SO.out
          rw [HA.out] at ss
          have SS1 := Lib.hid ss
          clear ss
          have y1 := o1.size
          clear o1 e1 g0 g1 g2 g3
          have AW := Lib.hid (WW2.out.keep ((Only.refl [] x1).alloc (.cells #[Value.int .i64 j] 3)) (by simp))
          go_wp2_with (at_builtin; refine wpList_append_mid _ rfl _ _ 23 rfl w3.heap.size 3 i0 (.int .i64 0) 8 Try.underlying23 hi hz0 hz1 hz2 rfl (by decide) _ ln _ rfl AW.out (by omega) (by simp; omega) ⟨x1.heap.size, 0, none⟩ 1 (.int .i64 j) rfl (by rw [cell_blk (blk_alloc_new _ _)]; rfl) rfl ?_)
          intro v2 w5 hown2 hgrow2
          obtain ⟨S5, hS5, oS5⟩ := hgrow2
          have ls5 := oS5.size
          have q5 : ∀ t, t < w3.heap.size → t ∉ S5 := fun t ht hm => by have := (hS5 t hm).1; omega
          have a5 : Only [] x1 (x1.alloc (.cells #[Value.int .i64 j] 3)) := (Only.refl [] x1).alloc _
          have OW5 : Hid (Only [] w w5) := Lib.hid ((OW1.out.then0 a5).trans oS5 (fun t ht => .inr (by have := (hS5 t ht).1; have := O3.out.size; omega)))
          have E5 := Lib.hid ((EE1.out.keep0 a5).keep oS5 (q5 _ (by omega)) (q5 _ (by omega)) (q5 _ (by omega)) (q5 _ (by omega)))
          have QX5 := Lib.hid (oS5.keep (a5.keep QX1.out (by simp)) (q5 _ (by omega)))
          have WW5 : Hid (Mid w5 w3.heap.size v2 (ln + 1) ((L ++ [(j : Int)]).map (.int .i64))) := Lib.hid (by rw [List.map_append]; exact hown2)
          have zs5 : w3.heap.size ≤ w5.heap.size := by have := a5.size; omega
          clear hown2 oS5 hS5 q5 a5 ls5
          go_wp2_with fail
          go_roundw
          case rel => exact ⟨j + 1, L ++ [(j : Int)], t, s', ln + 1, by omega, by go_num, WW5.out, by omega, E5.out, HD2.out, (by intro x hx; simp at hx; rcases hx with hx | rfl; exact I.out x hx; exact ⟨by omega, by omega⟩), SS1.out.1, by have := SS1.out.2.2.2; omega, by omega, zs5, OW5.out, QX5.out⟩
          case measure => simp [intOf]; omega
      · rw [hd3] at RD
        clear hd3
        rcases (show L = [] ∨ ∃ L' x, L = L' ++ [x] from by rcases List.eq_nil_or_concat L with h | ⟨L', x, h⟩; exact .inl h; exact .inr ⟨L', x, by rw [h, List.concat_eq_append]⟩) with rfl | ⟨L', x, rfl⟩
        · obtain ⟨s', ha, hd⟩ := pop_none D.out 18
          have HA := Lib.hid ha
          have HD2 := Lib.hid hd
          obtain rfl : ln = 0 := by have := HLN.out; simp at this; omega
          clear ha hd
          go_wp2_with fail
          refine RD.out.mono ?_; rintro e y0 ⟨rfl, rfl⟩
          go_wp2_with fail
          refine (pop_new _ (q0 c)).mono ?_; rintro e v1 ⟨p1, rfl, a1, b1, c1, d1⟩
          have A1 := Lib.hid a1
          have X1 := Lib.hid (apart_new E.out hbc c1)
          have F1 := Lib.hid (E.out.keep0 A1.out)
          have Q1 := Lib.hid (A1.out.keep QB.out (by simp))
          have BB1 := Lib.hid b1
          have z1 := A1.out.size
          clear a1 b1
          go_wp2_with fail
          refine (alone_is v1 p1 en m bc ck (newPop (q0 c)) s 0 20 (by omega) 1 rfl rfl (newPop_ok c (by omega)) SO.out F1.out X1.out.1 X1.out.2 BB1.out (by omega) HA.out).mono ?_; rintro e x1 ⟨rfl, o1, e1⟩
          have EE1 := Lib.hid e1
          have QX1 := Lib.hid (o1.keep Q1.out (by simp; omega))
          have OW1 : Hid (Only [] w x1) := Lib.hid ((O.out.then0 A1.out).trans o1 (by have := O.out.size; simp; omega))
          have WW2 := Lib.hid (W.out.keep ((A1.out.mono (T := [p1, m, bc]) (by simp)).trans o1 (by simp)) (by simp; omega))
          have ss := alone_ok 20 (newPop (q0 c)) s (fun _ => newPop_ok c (by omega)) SO.out
          rw [HA.out] at ss
          have SS1 := Lib.hid ss
          clear ss
          have y1 := o1.size
          clear o1 e1 g0 g1 g2 g3
          go_wp2_with fail
          go_roundw
          case rel => exact ⟨j + 1, [], t, s', 0, by omega, by go_num, WW2.out, by omega, EE1.out, HD2.out, by simp, SS1.out.1, by have := SS1.out.2.2.2; omega, by omega, by omega, OW1.out, QX1.out⟩
          case measure => simp [intOf]; omega
        · obtain ⟨s', mm, t', ha, hm7, htt, hd, -, -⟩ := pop_some D.out (I.out x (by simp)) 13
          have hd' := hd (by omega)
          have hln1 : ln = L'.length + 1 := by have := HLN.out; simp at this; omega
          have W' : Mid wr w3.heap.size (.slice so ln sc) (L'.length + 1) (L'.map (.int .i64) ++ [.int .i64 x]) := by have := W.out; rw [hln1, List.map_append] at this; rw [hln1]; exact this
          obtain ⟨g, goff, cp, e, hcp1, hcp2, hcx, hsh⟩ := W'.shrink
          simp at e
          obtain ⟨rfl, hln2, rfl⟩ := e
          obtain ⟨l', hl'⟩ : ∃ l', l' = L'.length := ⟨_, rfl⟩
          rw [← hl'] at hln2 hcp1
          subst hln2
          have HL' := Lib.hid hl'
          have HA := Lib.hid ha
          have HD2 := Lib.hid hd'
          have htj2 : t' ≤ t0 + (j + 1) := by omega
          have hsub : (l' : Int) + 1 - 1 = (l' : Int) := by omega
          clear ha hd hd' W' hcx hsh hl' htt hln1
          go_wp2_with fail
          refine RD.out.mono ?_; rintro e y0 ⟨rfl, rfl⟩
          go_wp2_with fail
          refine (pop_new _ (q0 c)).mono ?_; rintro e v1 ⟨p1, rfl, a1, b1, c1, d1⟩
          have A1 := Lib.hid a1
          have X1 := Lib.hid (apart_new E.out hbc c1)
          have F1 := Lib.hid (E.out.keep0 A1.out)
          have Q1 := Lib.hid (A1.out.keep QB.out (by simp))
          have BB1 := Lib.hid b1
          have z1 := A1.out.size
          clear a1 b1
          go_wp2_with fail
          refine (alone_is v1 p1 en m bc ck (newPop (q0 c)) s 0 20 (by omega) 1 rfl rfl (newPop_ok c (by omega)) SO.out F1.out X1.out.1 X1.out.2 BB1.out (by omega) HA.out).mono ?_; rintro e x1 ⟨rfl, o1, e1⟩
          have EE1 := Lib.hid e1
          have QX1 := Lib.hid (o1.keep Q1.out (by simp; omega))
          have OW1 : Hid (Only [] w x1) := Lib.hid ((O.out.then0 A1.out).trans o1 (by have := O.out.size; simp; omega))
          have WW2 := Lib.hid (W.out.keep ((A1.out.mono (T := [p1, m, bc]) (by simp)).trans o1 (by simp)) (by simp; omega))
          have ss := alone_ok 20 (newPop (q0 c)) s (fun _ => newPop_ok c (by omega)) SO.out
          rw [HA.out] at ss
          have SS1 := Lib.hid ss
          clear ss
          have y1 := o1.size
          clear o1 e1 g0 g1 g2 g3
          obtain ⟨g2, goff2, cp2, e2, -, -, hcx, hsh⟩ := Mid.shrink (n := L'.length) (xs := L'.map (.int .i64)) (x := .int .i64 x) (by have := WW2.out; rw [List.map_append] at this; rw [← HL'.out]; exact this)
          simp at e2
          obtain ⟨⟨rfl, rfl⟩, -, rfl⟩ := e2
          rw [← HL'.out] at hcx hsh
          have SH := Lib.hid hsh
          clear hsh
          go_wp2_with fail
          go_roundw
          case rel => exact ⟨j + 1, L', t', s', l', by omega, by go_num, SH.out, by omega, EE1.out, HD2.out, (fun y hy => I.out y (by simp [hy])), SS1.out.1, by have := SS1.out.2.2.2; omega, htj2, by omega, OW1.out, QX1.out⟩
          case measure => simp [intOf]; omega
      · rw [hd3] at RD
        clear hd3
        cases L with
        | nil =>
          obtain ⟨s', ha, hd⟩ := steal_none D.out 18
          have HA := Lib.hid ha
          have HD2 := Lib.hid hd
          obtain rfl : ln = 0 := by have := HLN.out; simp at this; omega
          clear ha hd
          go_wp2_with fail
          refine RD.out.mono ?_; rintro e y0 ⟨rfl, rfl⟩
          go_wp2_with fail
          refine (steal_new _ (q0 c)).mono ?_; rintro e v1 ⟨p1, rfl, a1, b1, c1, d1⟩
          have A1 := Lib.hid a1
          have X1 := Lib.hid (apart_new E.out hbc c1)
          have F1 := Lib.hid (E.out.keep0 A1.out)
          have Q1 := Lib.hid (A1.out.keep QB.out (by simp))
          have BB1 := Lib.hid b1
          have z1 := A1.out.size
          clear a1 b1
          go_wp2_with fail
          refine (alone_is v1 p1 en m bc ck (newSteal (q0 c)) s 0 20 (by omega) 2 rfl rfl (newSteal_ok c (by omega)) SO.out F1.out X1.out.1 X1.out.2 BB1.out (by omega) HA.out).mono ?_; rintro e x1 ⟨rfl, o1, e1⟩
          have EE1 := Lib.hid e1
          have QX1 := Lib.hid (o1.keep Q1.out (by simp; omega))
          have OW1 : Hid (Only [] w x1) := Lib.hid ((O.out.then0 A1.out).trans o1 (by have := O.out.size; simp; omega))
          have WW2 := Lib.hid (W.out.keep ((A1.out.mono (T := [p1, m, bc]) (by simp)).trans o1 (by simp)) (by simp; omega))
          have ss := alone_ok 20 (newSteal (q0 c)) s (fun _ => newSteal_ok c (by omega)) SO.out
          rw [HA.out] at ss
          have SS1 := Lib.hid ss
          clear ss
          have y1 := o1.size
          clear o1 e1 g0 g1 g2 g3
          go_wp2_with fail
          go_roundw
          case rel => exact ⟨j + 1, [], t, s', 0, by omega, by go_num, WW2.out, by omega, EE1.out, HD2.out, by simp, SS1.out.1, by have := SS1.out.2.2.2; omega, by omega, by omega, OW1.out, QX1.out⟩
          case measure => simp [intOf]; omega
        | cons x L' =>
          obtain ⟨s', ha, hd⟩ := steal_some D.out (I.out x (by simp)) 16 (by omega)
          have hln1 : ln = L'.length + 1 := by have := HLN.out; simp at this; omega
          have W' : Mid wr w3.heap.size (.slice so ln sc) (L'.length + 1) (.int .i64 x :: L'.map (.int .i64)) := by have := W.out; rw [hln1, List.map_cons] at this; rw [hln1]; exact this
          obtain ⟨g, goff, cp, e, hcp1, hcp2, hcx, -, -⟩ := W'.behead
          simp at e
          obtain ⟨rfl, hln2, rfl⟩ := e
          obtain ⟨l', hl'⟩ : ∃ l', l' = L'.length := ⟨_, rfl⟩
          rw [← hl'] at hln2 hcp1
          subst hln2
          have HL' := Lib.hid hl'
          have HA := Lib.hid ha
          have HD2 := Lib.hid hd
          clear ha hd W' hcx hl' hln1
          go_wp2_with fail
          refine RD.out.mono ?_; rintro e y0 ⟨rfl, rfl⟩
          go_wp2_with fail
          refine (steal_new _ (q0 c)).mono ?_; rintro e v1 ⟨p1, rfl, a1, b1, c1, d1⟩
          have A1 := Lib.hid a1
          have X1 := Lib.hid (apart_new E.out hbc c1)
          have F1 := Lib.hid (E.out.keep0 A1.out)
          have Q1 := Lib.hid (A1.out.keep QB.out (by simp))
          have BB1 := Lib.hid b1
          have z1 := A1.out.size
          clear a1 b1
          go_wp2_with fail
          refine (alone_is v1 p1 en m bc ck (newSteal (q0 c)) s 0 20 (by omega) 2 rfl rfl (newSteal_ok c (by omega)) SO.out F1.out X1.out.1 X1.out.2 BB1.out (by omega) HA.out).mono ?_; rintro e x1 ⟨rfl, o1, e1⟩
          have EE1 := Lib.hid e1
          have QX1 := Lib.hid (o1.keep Q1.out (by simp; omega))
          have OW1 : Hid (Only [] w x1) := Lib.hid ((O.out.then0 A1.out).trans o1 (by have := O.out.size; simp; omega))
          have WW2 := Lib.hid (W.out.keep ((A1.out.mono (T := [p1, m, bc]) (by simp)).trans o1 (by simp)) (by simp; omega))
          have ss := alone_ok 20 (newSteal (q0 c)) s (fun _ => newSteal_ok c (by omega)) SO.out
          rw [HA.out] at ss
          have SS1 := Lib.hid ss
          clear ss
          have y1 := o1.size
          clear o1 e1 g0 g1 g2 g3
          obtain ⟨g2, goff2, cp2, e2, -, -, hcx, hs1, hs2⟩ := Mid.behead (n := L'.length) (xs := L'.map (.int .i64)) (x := .int .i64 x) (by have := WW2.out; rw [List.map_cons] at this; rw [← HL'.out]; exact this)
          simp at e2
          obtain ⟨⟨rfl, rfl⟩, -, rfl⟩ := e2
          rw [← HL'.out] at hs1 hs2
          have SH1 := Lib.hid hs1
          have SH2 := Lib.hid hs2
          clear hs1 hs2
          by_cases hc1' : sc = 1
          · obtain ⟨rfl, e3, e4⟩ := SH2.out hc1'
            have E3 := Lib.hid e3
            have E4 := Lib.hid e4
            subst hc1'
            clear e3 e4
            go_wp2_with fail
            go_roundw
            case rel => exact ⟨j + 1, L', t + 1, s', 0, by omega, by go_num, (by rw [E3.out]; exact E4.out), by omega, EE1.out, HD2.out, (fun y hy => I.out y (by simp [hy])), SS1.out.1, by have := SS1.out.2.2.2; omega, by omega, by omega, OW1.out, QX1.out⟩
            case measure => simp [intOf]; omega
          · have hc2' : 1 < sc := by omega
            have hc3' : ¬ (sc = 1) := hc1'
            clear hc1'
            go_wp2_with fail
            go_roundw
            case rel => exact ⟨j + 1, L', t + 1, s', l', by omega, by go_num, SH1.out hc2', by omega, EE1.out, HD2.out, (fun y hy => I.out y (by simp [hy])), SS1.out.1, by have := SS1.out.2.2.2; omega, by omega, by omega, OW1.out, QX1.out⟩
            case measure => simp [intOf]; omega
    · obtain rfl : j = len := by omega
      go_wp2_with fail
      go_ret
      exact ⟨rfl, O.out⟩

theorem ThiefQueue_any (w : World) (n : Int) (wn : (Lit.int .u8 n).wf = true) (first : Int) (wf : (Lit.int .u64 first).wf = true) (zs : List Int) (v : Value) (hv : Ns w v zs) (wz : ∀ z ∈ zs, (Lit.int .i64 z).wf = true) (hl : zs.length ≤ 9223372036854775807) :
    Calls Try.prog 6 #[.int .u8 n, .int .u64 first, v] w fun e w' => e = .returned (.bool true) ∧ Only [] w w' := by
  obtain ⟨ao, cap, rfl, h1, h2, h3⟩ := hv
  by_cases h : zs.length ≤ 100
  · exact ThiefQueue_small w n first (wf_u8 wn) (wf_u64 wf) ao _ cap zs h1 rfl h
  · have h4 : 100 < zs.length := by omega
    generalize zs.length = len at *
    clear h1 h2 h3 wz h
    go_enter Try.func6, Try.ntmps6
    go_wp2_with fail
    go_ret
    exact ⟨rfl, Only.refl _ _⟩
end Go.Proofs.Ytnjddpijlgjgeaa
