/- The law OwnerStack of chapter 9, walked. -/
import Derived.Test.YtnjddpijlgjgeaaOwnAwake
import Derived.Laws.AppendOwn
namespace Go.Proofs.Ytnjddpijlgjgeaa
open Go.RowKit
set_option linter.unusedVariables false

theorem infoI : (Try.prog.info? 3).map (fun i => (i.zero, i.size, i.bytes)) = some (some (.int .i64 0), 1, 8) := by kernel_rfl

/-- A row of the call's own, behind a call that writes elsewhere. -/
theorem own_keep {S : List Nat} {w w' : World} {base : Nat} {T : TypeId} {sz : Nat} {v : Value} {n : Nat} {xs : List Value} (h : w.ownsRow base T sz v n xs) (o : Only S w w') (hS : ∀ t ∈ S, t < base ∨ w.heap.size ≤ t) : w'.ownsRow base T sz v n xs := by
  obtain ⟨h1, h2 | ⟨g, cap, cur, e, hg, hh, r⟩⟩ := h
  · exact ⟨h1, .inl h2⟩
  · refine ⟨h1, .inr ⟨g, cap, cur, e, hg, o.keep hh ?_, r⟩⟩
    intro hm
    have := lt_of_blk hh
    rcases hS g hm with h | h <;> omega

/-- The last element goes. -/
theorem own_shrink {w : World} {base : Nat} {T : TypeId} {v : Value} {n : Nat} {xs : List Value} {x : Value} (h : w.ownsRow base T 1 v (n + 1) (xs ++ [x])) :
    ∃ g cap, v = .slice (some ⟨g, 0, none⟩) (n + 1) cap ∧ n + 1 ≤ cap ∧ cap ≤ 9223372036854775807 ∧ w.cell? ⟨g, n, none⟩ = some x ∧ w.ownsRow base T 1 (.slice (some ⟨g, 0, none⟩) n cap) n xs := by
  obtain ⟨hl, ⟨rfl, h0⟩ | ⟨g, cap, cur, rfl, hb, hh, hn, hc, hs, ht⟩⟩ := h
  · omega
  · simp at hl
    have hget : ∀ i, i < n + 1 → cur[i]? = (xs ++ [x])[i]? := by
      intro i hi
      have : (cur.toList.take ((n + 1) * 1))[i]? = (xs ++ [x])[i]? := by rw [ht]
      rw [List.getElem?_take] at this
      simpa [hi] using this
    refine ⟨g, cap, rfl, hn, by unfold maxLen at hc; omega, ?_, by omega, .inr ⟨g, cap, cur, rfl, hb, hh, by omega, hc, hs, ?_⟩⟩
    · rw [cell_blk hh, hget n (by omega), ← hl]; simp
    · apply List.ext_getElem?
      intro i
      rw [List.getElem?_take]
      by_cases hi : i < n * 1
      · rw [if_pos hi]
        have := hget i (by omega)
        simp only [Array.getElem?_toList]
        rw [this, List.getElem?_append_left (by omega)]
      · rw [if_neg hi, List.getElem?_eq_none (by omega)]

theorem own_slice1 {w : World} {base : Nat} {T : TypeId} {v : Value} {n : Nat} {xs : List Value} (h : w.ownsRow base T 1 v n xs) : ∃ ao cap, v = .slice ao n cap := by
  obtain ⟨hl, ⟨rfl, rfl⟩ | ⟨g, cap, cur, rfl, _⟩⟩ := h
  · exact ⟨none, 0, rfl⟩
  · exact ⟨_, cap, rfl⟩

theorem cell_one_new2 (w : World) (v : Value) (T : TypeId) : ∀ j u, [v][j]? = some u → (w.alloc (.cells #[v] T)).cell? ((⟨w.heap.size, 0, none⟩ : Addr).add j) = some u := by
  intro j u hu
  have hj : j = 0 := by
    rcases Nat.eq_zero_or_pos j with h | h
    · exact h
    · simp [List.getElem?_eq_none (show [v].length ≤ j by simp; omega)] at hu
  subst hj
  simp at hu
  subst hu
  rw [Go.WideShapes.add_plain, cell_blk (blk_alloc_new _ _)]
  simp

/-- Behind an append to a row of the call's own: only that row's block may have changed. -/
theorem own_grown {w w' : World} {base : Nat} {T : TypeId} {sz : Nat} {v : Value} {n : Nat} {xs : List Value} (h : w.ownsRow base T sz v n xs) (hg : w.grownBy w' v.ownBlock) : ∃ S : List Nat, (∀ t ∈ S, base ≤ t ∧ t < w.heap.size) ∧ Only S w w' := by
  obtain ⟨h1, ⟨rfl, _⟩ | ⟨g, cap, cur, rfl, hb, hh, r⟩⟩ := h
  · exact ⟨[], by simp, (Only.refl [] w).grown hg (fun k hk => by cases hk)⟩
  · exact ⟨[g], by simp; exact ⟨hb, lt_of_blk hh⟩, (Only.refl [g] w).grown hg (fun k hk => by simp [Value.ownBlock] at hk; simp [hk])⟩

set_option maxRecDepth 100000 in
set_option maxHeartbeats 4000000 in
theorem OwnerStack_small (w : World) (n first : Int) (hn : 0 ≤ n ∧ n ≤ 255) (hf : 0 ≤ first ∧ first ≤ 18446744073709551615) (ao : Option Addr) (len cap : Nat) (zs : List Int) (hz : CellsAt w ao (zs.map (.int .i64))) (wf : ∀ z ∈ zs, (Lit.int .i64 z).wf = true) (hlen : len = zs.length) (h100 : len ≤ 100) :
    Calls Try.prog 3 #[.int .u8 n, .int .u64 first, .slice ao len cap] w fun e w' => e = .returned (.bool true) ∧ Only [] w w' := by
  obtain ⟨hn0, hn1⟩ := hn
  obtain ⟨hf0, hf1⟩ := hf
  obtain ⟨i0, hi, hz0, hz1, hz2⟩ := info_parts infoI
  obtain ⟨c, hc⟩ : ∃ c : Nat, 1 + n % 9 = c := ⟨(1 + n % 9).toNat, by omega⟩
  have hc1 : 1 ≤ c := by omega
  have hc9 : c ≤ 9 := by omega
  obtain ⟨t0, ht0⟩ : ∃ t0 : Nat, first / 2 = t0 := ⟨(first / 2).toNat, by omega⟩
  have ht1 : t0 ≤ 9223372036854775807 := by omega
  have HZ := Lib.hid hz
  have HWF := Lib.hid wf
  have HLEN := Lib.hid hlen
  have hc2 : ((c : Int) + 3) = ((c + 3 : Nat) : Int) := by omega
  have HC2 := Lib.hid hc2
  have hh : ¬ (100 < (len : Int)) := by omega
  clear hz wf hlen hc2
  go_enter Try.func3, Try.ntmps3
  go_wp2_with fail
  refine (queue_any _ c).mono ?_; rintro e u0 ⟨rfl, o0⟩
  simp only [Q4.v]
  have U0 := Lib.hid o0
  clear o0
  go_wp2_with fail
  obtain ⟨wq, hwq⟩ : ∃ wq, wq = u0.alloc (.cells #[.int .i64 0, .int .i64 1, .int .i64 2, .int .i64 c] 25) := ⟨_, rfl⟩
  rw [← hwq]
  obtain ⟨qb, hqb⟩ : ∃ qb, qb = u0.heap.size := ⟨_, rfl⟩
  rw [← hqb]
  have ow : Only [] u0 wq := by rw [hwq]; exact (Only.refl _ _).alloc _
  have QBq : Hid (wq.heap[qb]? = some (.cells #[.int .i64 0, .int .i64 1, .int .i64 2, .int .i64 c] 25 (0, 0))) := Lib.hid (by rw [hwq, hqb]; exact blk_alloc_new _ _)
  have Oq := Lib.hid (U0.out.then0 ow)
  have qlo : w.heap.size ≤ qb := by have := U0.out.size; omega
  have qlt := lt_of_blk QBq.out
  clear hwq hqb ow
  go_wp2_with fail
  refine (deque_any wq c 0 t0 _ [] hc1 (by omega) (by omega) (by omega) ⟨none, 0, rfl, CellsAt.nil _ _, fun _ => ⟨rfl, rfl⟩, Nat.le_refl _⟩ (by simp)).mono ?_; rintro e w1 ⟨da, dcap, rfl, o1, hd⟩
  have O1 := Lib.hid (Oq.out.then0 o1)
  have HD := Lib.hid hd
  have QB1 := Lib.hid (o1.keep QBq.out (by simp))
  have s1 := o1.size
  clear o1 hd
  go_wp2_with fail
  refine (bare_any w1 da dcap (c + 3) _ HD.out (by rw [deqTo_len]) (by omega)).mono ?_; rintro e w2 ⟨en, m, bc, ck, r, rc, rfl, o2, hB, lo, hi'⟩
  have B2 := Lib.hid hB
  have O2 := Lib.hid (O1.out.then0 o2)
  have QB2 := Lib.hid (o2.keep QB1.out (by simp))
  have s2 := o2.size
  obtain ⟨lo1, lo2, lo3, lo4, lo5, lo6⟩ := lo
  obtain ⟨hi1, hi2, hi3, hi4, hi5, hi6⟩ := hi'
  clear o2 hB
  go_wp2_with fail
  refine (awake09_any _).mono ?_; rintro e w3 ⟨rfl, o3⟩
  have B3 := Lib.hid (B2.out.keep0 o3)
  have O3 := Lib.hid (O2.out.then0 o3)
  have QB3 := Lib.hid (o3.keep QB2.out (by simp))
  have s3 := o3.size
  have hs1 := O1.out.size
  clear o3 B2 QB2
  obtain ⟨S0, hS0⟩ : ∃ S0, S0 = bareMS (deqTo c t0 0 (entZ []) 0) := ⟨_, rfl⟩
  rw [← hS0] at B3
  have DS : Hid (DQ S0 c t0 []) := Lib.hid (show DQ S0 c t0 ((List.range 0).map (entZ [])) from dq_start (t := t0) (size := 0) (f := entZ []) hc1 (by omega) (by omega) (by omega) (fun i => by have := entZ_bd [] i; omega) (by rw [hS0, bareMS_cells]))
  have SOK : Hid S0.ok := Lib.hid (by intro x hx; rw [hS0, bareMS_cells] at hx; exact deqTo_bd (c := c) (first := (t0 : Int)) (size := 0) (f := entZ []) (by omega) (fun i => by have := entZ_bd [] i; omega) 0 x hx)
  have SC : Hid (S0.count = c + 3) := Lib.hid (by rw [hS0, bareMS_count, deqTo_len]; rfl)
  clear hS0
  go_wp2_with fail
  go_loopw [12, 13] (fun v i wr => ∃ (j : Nat) (L : List Int) (t : Nat) (s : MS), j ≤ len ∧ i = .int .i64 j ∧ wr.ownsRow w3.heap.size 3 1 v L.length (L.map (.int .i64)) ∧ L.length ≤ j ∧ EnvAt wr en m bc ck s 0 ∧ DQ s c t L ∧ (∀ x ∈ L, inI x) ∧ s.ok ∧ s.count ≤ c + 3 + j * 20 ∧ t ≤ t0 + j ∧ w3.heap.size ≤ wr.heap.size ∧ Only [] w wr ∧
      wr.heap[qb]? = some (.cells #[.int .i64 0, .int .i64 1, .int .i64 2, .int .i64 c] 25 (0, 0))) (fun _ i _ => len - (intOf i).toNat)
  case atStart => exact ⟨0, [], t0, S0, Nat.zero_le _, rfl, World.ownsRow_nil _ _ _ _, Nat.le_refl _, B3.out.ee, DS.out, by simp, SOK.out, by rw [SC.out]; omega, by omega, Nat.le_refl _, O3.out, QB3.out⟩
  case round =>
    obtain ⟨j, L, t, s, hj, rfl, hown, hLj, hE, hD, hI, hso, hcn, htj, hsz, hO, hQB⟩ := hrel
    have hbc : bc < wr.heap.size := by omega
    have qlt4 : qb < wr.heap.size := by omega
    have qm : qb ≠ m ∧ qb ≠ bc := by omega
    have W := Lib.hid hown
    have E := Lib.hid hE
    have D := Lib.hid hD
    have I := Lib.hid hI
    have SO := Lib.hid hso
    have O := Lib.hid hO
    have QB := Lib.hid hQB
    have g0 := cell_blk hQB 0
    have g1 := cell_blk hQB 1
    have g2 := cell_blk hQB 2
    have g3 := cell_blk hQB 3
    simp at g0 g1 g2 g3
    have hLc : L.length ≤ c := hD.fit
    obtain ⟨ln, hln⟩ : ∃ ln, ln = L.length := ⟨_, rfl⟩
    rw [← hln] at hLc hLj
    have HLN := Lib.hid hln
    obtain ⟨so, sc, rfl⟩ : ∃ so sc, u12 = .slice so ln sc := by rw [hln]; exact own_slice1 hown
    clear hown hE hD hI hso hO hQB hln
    by_cases hlt : j < len
    · obtain ⟨b, off, rfl, hcl⟩ := HZ.out.ints (by have := HLEN.out; omega)
      have hcell : wr.cell? ⟨b, off + j, none⟩ = some (.int .i64 (zs.getD j 0)) := O.out.keepCell (hcl j (by have := HLEN.out; omega)) (by simp)
      have HCL := Lib.hid hcl
      have hin : inI (zs.getD j 0) := by
        have hm : zs.getD j 0 ∈ zs := by
          have := HLEN.out
          rw [List.getD_eq_getElem?_getD, List.getElem?_eq_getElem (by omega)]
          exact List.getElem_mem _
        exact wf_i64 (HWF.out _ hm)
      obtain ⟨z, hz⟩ : ∃ z, z = zs.getD j 0 := ⟨_, rfl⟩
      rw [← hz] at hcell hin
      have HZJ := Lib.hid hz
      have HIN := Lib.hid hin
      clear hcl hz hin
      by_cases hpos : 0 < z
      · rcases push_alone D.out z 16 with ⟨hl, s', ha, hd⟩ | ⟨hl, s', ha, hd⟩
        · have HA := Lib.hid ha
          have HD2 := Lib.hid hd
          have hb1 : ((ln : Int) == (c : Int)) = true := by have := HLN.out; simp; omega
          clear ha hd hl
          go_wp2_with fail
          go_region_held3 (fun w' => w'.cell? ⟨qb, 0, none⟩ = some (.int .i64 0) ∧ w'.cell? ⟨qb, 1, none⟩ = some (.int .i64 1) ∧ w'.cell? ⟨qb, 2, none⟩ = some (.int .i64 2) ∧ w'.cell? ⟨qb, 3, none⟩ = some (.int .i64 c) ∧ w'.cell? ⟨b, off + j, none⟩ = some (.int .i64 z))
            (first | exact ⟨g0, g1, g2, g3, hcell⟩ | exact ⟨k0, k1, k2, k3, hcell1⟩ | exact ⟨m0, m1, m2, m3, hcell2⟩)
            ((first
              | (go_at_call 19; refine (push_new _ (q0 c) z).mono ?_; rintro e v1 ⟨p1, rfl, a1, b1, c1, d1⟩
                 have A1 := Lib.hid a1.undrew
                 have X1 := Lib.hid (apart_new E.out hbc c1)
                 have F1 := Lib.hid (E.out.keep0 A1.out)
                 have Q1 := Lib.hid (A1.out.keep QB.out (by simp))
                 have BB1 := Lib.hid b1
                 have hcell1 := A1.out.keepCell hcell (by simp)
                 have z1 := A1.out.size
                 have k0 := cell_blk Q1.out 0
                 have k1 := cell_blk Q1.out 1
                 have k2 := cell_blk Q1.out 2
                 have k3 := cell_blk Q1.out 3
                 simp at k0 k1 k2 k3
                 clear a1 b1)
              | (go_at_call 18; refine (alone_is v1 p1 en m bc ck (newPush (q0 c) z) s 0 20 (by omega) 0 rfl rfl (newPush_ok c z (by omega)) SO.out F1.out X1.out.1 X1.out.2 BB1.out (by omega) HA.out).mono ?_; rintro e x1 ⟨rfl, o1, e1⟩
                 have EE1 := Lib.hid e1
                 have QX1 := Lib.hid (o1.keep Q1.out (by simp; have : wr.heap.size ≤ p1 := c1; omega))
                 have OW1 : Hid (Only [] w x1) := Lib.hid ((O.out.then0 A1.out).trans o1 (by have := O.out.size; have : wr.heap.size ≤ p1 := c1; simp; omega))
                 have WW2 := Lib.hid (own_keep W.out ((A1.out.mono (T := [p1, m, bc]) (by simp)).trans o1 (by simp)) (by have : wr.heap.size ≤ p1 := c1; simp; omega))
                 have hcell2 : x1.cell? ⟨b, off + j, none⟩ = some (.int .i64 z) := by rw [HZJ.out]; exact OW1.out.keepCell (HCL.out j (by have := HLEN.out; omega)) (by simp)
                 have SS1 := Lib.hid (by have := alone_ok 20 (newPush (q0 c) z) s (fun _ => newPush_ok c z (by omega)) SO.out; rw [HA.out] at this; exact this)
                 have y1 := o1.size
                 have m0 := cell_blk QX1.out 0
                 have m1 := cell_blk QX1.out 1
                 have m2 := cell_blk QX1.out 2
                 have m3 := cell_blk QX1.out 3
                 simp at m0 m1 m2 m3
                 clear o1 e1)))
          go_wp2_with fail
          go_roundw
          case rel => exact ⟨j + 1, L, t, s', by omega, by go_num, WW2.out, by have := HLN.out; omega, EE1.out, HD2.out, I.out, SS1.out.1, by have := SS1.out.2.2.2; omega, by omega, by omega, OW1.out, QX1.out⟩
          case measure => simp [intOf]; omega
        · have HA := Lib.hid ha
          have HD2 := Lib.hid hd
          have hb1 : ((ln : Int) == (c : Int)) = false := by have := HLN.out; simp; omega
          clear ha hd
          go_wp2_with fail
          go_region_held3 (fun w' => w'.cell? ⟨qb, 0, none⟩ = some (.int .i64 0) ∧ w'.cell? ⟨qb, 1, none⟩ = some (.int .i64 1) ∧ w'.cell? ⟨qb, 2, none⟩ = some (.int .i64 2) ∧ w'.cell? ⟨qb, 3, none⟩ = some (.int .i64 c) ∧ w'.cell? ⟨b, off + j, none⟩ = some (.int .i64 z))
            (first | exact ⟨g0, g1, g2, g3, hcell⟩ | exact ⟨k0, k1, k2, k3, hcell1⟩ | exact ⟨m0, m1, m2, m3, hcell2⟩)
            ((first
              | (go_at_call 19; refine (push_new _ (q0 c) z).mono ?_; rintro e v1 ⟨p1, rfl, a1, b1, c1, d1⟩
                 have A1 := Lib.hid a1.undrew
                 have X1 := Lib.hid (apart_new E.out hbc c1)
                 have F1 := Lib.hid (E.out.keep0 A1.out)
                 have Q1 := Lib.hid (A1.out.keep QB.out (by simp))
                 have BB1 := Lib.hid b1
                 have hcell1 := A1.out.keepCell hcell (by simp)
                 have z1 := A1.out.size
                 have k0 := cell_blk Q1.out 0
                 have k1 := cell_blk Q1.out 1
                 have k2 := cell_blk Q1.out 2
                 have k3 := cell_blk Q1.out 3
                 simp at k0 k1 k2 k3
                 clear a1 b1)
              | (go_at_call 18; refine (alone_is v1 p1 en m bc ck (newPush (q0 c) z) s 0 20 (by omega) 0 rfl rfl (newPush_ok c z (by omega)) SO.out F1.out X1.out.1 X1.out.2 BB1.out (by omega) HA.out).mono ?_; rintro e x1 ⟨rfl, o1, e1⟩
                 have EE1 := Lib.hid e1
                 have QX1 := Lib.hid (o1.keep Q1.out (by simp; have : wr.heap.size ≤ p1 := c1; omega))
                 have OW1 : Hid (Only [] w x1) := Lib.hid ((O.out.then0 A1.out).trans o1 (by have := O.out.size; have : wr.heap.size ≤ p1 := c1; simp; omega))
                 have WW2 := Lib.hid (own_keep W.out ((A1.out.mono (T := [p1, m, bc]) (by simp)).trans o1 (by simp)) (by have : wr.heap.size ≤ p1 := c1; simp; omega))
                 have hcell2 : x1.cell? ⟨b, off + j, none⟩ = some (.int .i64 z) := by rw [HZJ.out]; exact OW1.out.keepCell (HCL.out j (by have := HLEN.out; omega)) (by simp)
                 have SS1 := Lib.hid (by have := alone_ok 20 (newPush (q0 c) z) s (fun _ => newPush_ok c z (by omega)) SO.out; rw [HA.out] at this; exact this)
                 have y1 := o1.size
                 have m0 := cell_blk QX1.out 0
                 have m1 := cell_blk QX1.out 1
                 have m2 := cell_blk QX1.out 2
                 have m3 := cell_blk QX1.out 3
                 simp at m0 m1 m2 m3
                 clear o1 e1)))
          have AW := Lib.hid (own_keep WW2.out ((Only.refl [] x1).alloc (.cells #[Value.int .i64 z] 3)) (by simp))
          have hl20 : L.length ≤ 100 := by have := HLN.out; omega
          go_wp2_with (at_builtin; refine wpList_append_own _ rfl _ _ 23 rfl w3.heap.size 3 i0 (.int .i64 0) 1 8 Try.underlying23 hi hz0 hz1 hz2 rfl (by decide) _ L.length _ (by rw [HLN.out]; rfl) AW.out ⟨x1.heap.size, 0, none⟩ 1 1 [.int .i64 z] rfl rfl (cell_one_new2 _ _ _) (by simp [Value.oneCell']) (by unfold maxLen; omega) (by omega) (by simp; omega) ?_)
          intro v2 w5 hown2 hgrow2 _
          obtain ⟨S5, hS5, oS5⟩ := own_grown AW.out hgrow2
          have ls5 := oS5.size
          have q5 : ∀ t, t < w3.heap.size → t ∉ S5 := fun t ht hm => by have := (hS5 t hm).1; omega
          have a5 : Only [] x1 (x1.alloc (.cells #[Value.int .i64 z] 3)) := (Only.refl [] x1).alloc _
          have OW5 : Hid (Only [] w w5) := Lib.hid ((OW1.out.then0 a5).trans oS5 (fun t ht => .inr (by have := (hS5 t ht).1; have := O3.out.size; omega)))
          have E5 := Lib.hid ((EE1.out.keep0 a5).keep oS5 (q5 _ (by omega)) (q5 _ (by omega)) (q5 _ (by omega)) (q5 _ (by omega)))
          have QX5 := Lib.hid (oS5.keep (a5.keep QX1.out (by simp)) (q5 _ (by omega)))
          have WW5 : Hid (w5.ownsRow w3.heap.size 3 1 v2 (L ++ [z]).length ((L ++ [z]).map (.int .i64))) := Lib.hid (by rw [List.length_append, List.map_append]; exact hown2)
          have zs5 : w3.heap.size ≤ w5.heap.size := by have := a5.size; omega
          clear hown2 hgrow2 oS5 hS5 q5 a5 ls5
          go_wp2_with fail
          go_roundw
          case rel => exact ⟨j + 1, L ++ [z], t, s', by omega, by go_num, WW5.out, by have := HLN.out; simp; omega, E5.out, HD2.out, (by intro x hx; simp at hx; rcases hx with hx | rfl; exact I.out x hx; exact HIN.out), SS1.out.1, by have := SS1.out.2.2.2; omega, by omega, zs5, OW5.out, QX5.out⟩
          case measure => simp [intOf]; omega
      · have hneg : ¬ (0 < z) := hpos
        rcases (show L = [] ∨ ∃ L' x, L = L' ++ [x] from by rcases List.eq_nil_or_concat L with h | ⟨L', x, h⟩; exact .inl h; exact .inr ⟨L', x, by rw [h, List.concat_eq_append]⟩) with rfl | ⟨L', x, rfl⟩
        · obtain ⟨s', ha, hd⟩ := pop_none D.out 18
          have HA := Lib.hid ha
          have HD2 := Lib.hid hd
          obtain rfl : ln = 0 := HLN.out
          clear ha hd
          go_wp2_with fail
          refine (pop_new _ (q0 c)).mono ?_; rintro e v1 ⟨p1, rfl, a1, b1, c1, d1⟩
          have A1 := Lib.hid a1
          have X1 := Lib.hid (apart_new E.out hbc c1)
          have F1 := Lib.hid (E.out.keep0 A1.out)
          have Q1 := Lib.hid (A1.out.keep QB.out (by simp))
          have BB1 := Lib.hid b1
          have z1 := A1.out.size
          clear a1 b1
          go_wp2_with fail
          refine (alone_is v1 p1 en m bc ck (newPop (q0 c)) s 0 20 (by omega) 1 rfl rfl (newPop_ok c (by omega)) SO.out F1.out X1.out.1 X1.out.2 BB1.out (by omega) HA.out).mono ?_; rintro e x1 ⟨rfl, o1, e1⟩
          have E1 := Lib.hid e1
          have QX1 := Lib.hid (o1.keep Q1.out (by simp; omega))
          have O1' : Hid (Only [] w x1) := Lib.hid ((O.out.then0 A1.out).trans o1 (by have := O.out.size; simp; omega))
          have WW2 := Lib.hid (own_keep W.out ((A1.out.mono (T := [p1, m, bc]) (by simp)).trans o1 (by simp)) (by simp; omega))
          have SS1 := Lib.hid (by have := alone_ok 20 (newPop (q0 c)) s (fun _ => newPop_ok c (by omega)) SO.out; rw [HA.out] at this; exact this)
          have y1 := o1.size
          clear o1 e1
          go_wp2_with fail
          go_roundw
          case rel => exact ⟨j + 1, [], t, s', by omega, by go_num, WW2.out, by simp, E1.out, HD2.out, by simp, SS1.out.1, by have := SS1.out.2.2.2; omega, by omega, by omega, O1'.out, QX1.out⟩
          case measure => simp [intOf]; omega
        · obtain ⟨s', mm, t', ha, hm7, htt, hd, -, -⟩ := pop_some D.out (I.out x (by simp)) 13
          have hm8 : ¬ (7 < (mm : Int)) := by omega
          have hd' := hd (by omega)
          have W' : wr.ownsRow w3.heap.size 3 1 (.slice so ln sc) (L'.length + 1) (L'.map (.int .i64) ++ [.int .i64 x]) := by have := W.out; rw [List.length_append, List.map_append] at this; exact this
          obtain ⟨g, cp, e, hcp1, hcp2, hcx, hsh⟩ := own_shrink W'
          simp at e
          obtain ⟨rfl, hln2, rfl⟩ := e
          obtain ⟨l', hl'⟩ : ∃ l', l' = L'.length := ⟨_, rfl⟩
          rw [← hl'] at hln2 hcp1
          subst hln2
          have HL' := Lib.hid hl'
          have HA := Lib.hid ha
          have HD2 := Lib.hid hd'
          have HTT := Lib.hid htt
          have htj2 : t' ≤ t0 + (j + 1) := by omega
          have hb0 : (((l' : Int) + 1) == 0) = false := by simp; omega
          have hsub : (l' : Int) + 1 - 1 = (l' : Int) := by omega
          clear ha hd hd' W' hcx hsh hl' htt
          go_wp2_with fail
          refine (pop_new _ (q0 c)).mono ?_; rintro e v1 ⟨p1, rfl, a1, b1, c1, d1⟩
          have A1 := Lib.hid a1
          have X1 := Lib.hid (apart_new E.out hbc c1)
          have F1 := Lib.hid (E.out.keep0 A1.out)
          have Q1 := Lib.hid (A1.out.keep QB.out (by simp))
          have BB1 := Lib.hid b1
          have z1 := A1.out.size
          clear a1 b1
          go_wp2_with fail
          refine (alone_is v1 p1 en m bc ck (newPop (q0 c)) s 0 20 (by omega) 1 rfl rfl (newPop_ok c (by omega)) SO.out F1.out X1.out.1 X1.out.2 BB1.out (by omega) HA.out).mono ?_; rintro e x1 ⟨rfl, o1, e1⟩
          have E1 := Lib.hid e1
          have QX1 := Lib.hid (o1.keep Q1.out (by simp; omega))
          have O1' : Hid (Only [] w x1) := Lib.hid ((O.out.then0 A1.out).trans o1 (by have := O.out.size; simp; omega))
          have WW2 := Lib.hid (own_keep W.out ((A1.out.mono (T := [p1, m, bc]) (by simp)).trans o1 (by simp)) (by simp; omega))
          have SS1 := Lib.hid (by have := alone_ok 20 (newPop (q0 c)) s (fun _ => newPop_ok c (by omega)) SO.out; rw [HA.out] at this; exact this)
          have y1 := o1.size
          obtain ⟨g2, cp2, e2, -, -, hcx, hsh⟩ := own_shrink (n := L'.length) (xs := L'.map (.int .i64)) (x := .int .i64 x) (by have := WW2.out; rw [List.length_append, List.map_append] at this; exact this)
          simp at e2
          obtain ⟨rfl, -, rfl⟩ := e2
          rw [← HL'.out] at hcx hsh
          have SH := Lib.hid hsh
          clear hsh
          clear o1 e1
          go_wp2_with fail
          go_roundw
          case rel => exact ⟨j + 1, L', t', s', by omega, by go_num, by rw [← HL'.out]; exact SH.out, by have := HL'.out; omega, E1.out, HD2.out, (fun y hy => I.out y (by simp [hy])), SS1.out.1, by have := SS1.out.2.2.2; omega, htj2, by omega, O1'.out, QX1.out⟩
          case measure => simp [intOf]; omega
    · obtain rfl : j = len := by omega
      have e22 := E.out.mem
      have PK := fun q c => Lib.hid ((peek_any (wr.drewN q) m bc s c E.out.mm).mono fun _ _ h => (⟨h.1, h.2.symm⟩ : _ ∧ _ = wr.drewN q))
      have hsz : sz (s.at 1) (s.at 0) = ln := by
        have d := D.out
        have := d.big
        have := d.cap
        have := d.fit
        have := HLN.out
        exact sz_of _ (by rw [d.top, d.bot]; omega) (by omega) (by omega)
      have SZ := fun w => Lib.hid (show Calls Try.prog 21 #[.int .u64 (s.at 1), .int .u64 (s.at 0)] w fun e w' => e = .returned (.int .i64 ln) ∧ w' = w from by rw [← hsz]; exact (rsize_any w _ _).mono fun _ _ h => ⟨h.1, h.2.symm⟩)
      clear hsz
      go_wp2_with fail
      go_quiet ((first | (go_at_call 22; exact Calls.quiet_of_same (PK _ _).out) | (go_at_call 21; exact Calls.quiet_of_same (SZ _).out)))
      go_wp2_with fail
      go_ret
      exact ⟨rfl, O.out.drewN _⟩

theorem OwnerStack_any (w : World) (n : Int) (wn : (Lit.int .u8 n).wf = true) (first : Int) (wf : (Lit.int .u64 first).wf = true) (zs : List Int) (v : Value) (hv : Ns w v zs) (wz : ∀ z ∈ zs, (Lit.int .i64 z).wf = true) (hl : zs.length ≤ 9223372036854775807) :
    Calls Try.prog 3 #[.int .u8 n, .int .u64 first, v] w fun e w' => e = .returned (.bool true) ∧ Only [] w w' := by
  obtain ⟨ao, cap, rfl, h1, h2, h3⟩ := hv
  by_cases h : zs.length ≤ 100
  · exact OwnerStack_small w n first (wf_u8 wn) (wf_u64 wf) ao _ cap zs h1 wz rfl h
  · have h4 : 100 < zs.length := by omega
    generalize zs.length = len at *
    clear h1 h2 h3 wz h
    go_enter Try.func3, Try.ntmps3
    go_wp2_with fail
    go_ret
    exact ⟨rfl, Only.refl _ _⟩
end Go.Proofs.Ytnjddpijlgjgeaa
