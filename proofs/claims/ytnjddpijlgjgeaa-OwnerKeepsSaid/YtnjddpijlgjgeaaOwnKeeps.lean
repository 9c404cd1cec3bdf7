/- The law OwnerKeeps of chapter 9, walked. (Written by wip/gen_ownkeeps.py.) -/
import Derived.Test.YtnjddpijlgjgeaaOwnAwake
namespace Go.Proofs.Ytnjddpijlgjgeaa
open Go.RowKit
set_option linter.unusedVariables false

theorem rpeek_any (w : World) (r rc : Nat) (s : MS) (now c : Int) (h : REnvAt w r rc s now) :
    Calls Try.prog 25 #[.pointer (some ⟨r, 11, none⟩), .int .i64 c] w fun e w' => e = .returned (.int .u64 (s.at c)) ∧ w = w' := by
  by_cases hc : 0 ≤ c ∧ c < s.cells.length
  · rw [at_in hc]
    exact refPeek_in w _ r 11 rc cfg0 _ s c c.toNat (by omega) _ h rfl (by omega) rfl
  · rw [at_out hc]
    exact refPeek_out w _ r 11 rc cfg0 _ s c h rfl (by omega)

theorem DQ.entry {s : MS} {c t : Nat} {L : List Int} (h : DQ s c t L) {j : Nat} (hj : j < L.length) : s.at ((2 + (t + j) % c : Nat) : Int) = IntKind.u64.wrap (L.getD j 0) := by
  have := h.ent j hj
  rw [List.getD_eq_getElem?_getD, List.getElem?_eq_getElem hj]
  rw [← show (2 : Int) + ((t + j) % c : Nat) = ((2 + (t + j) % c : Nat) : Int) from by omega]
  exact this

theorem REnvAt.keep {S : List Nat} {w w' : World} {r rc : Nat} {s : MS} {now : Int} (h : REnvAt w r rc s now) (o : Only S w w') (h1 : r ∉ S) (h2 : rc ∉ S) : REnvAt w' r rc s now := by
  unfold REnvAt at *
  exact RMemAt.keep h o h1 h2

theorem DQ.entry_app {s : MS} {c t : Nat} {L M : List Int} (h : DQ s c t (L ++ M)) {j : Nat} (hj : j < L.length) : s.at ((2 + (t + j) % c : Nat) : Int) = IntKind.u64.wrap (L.getD j 0) := by
  rw [h.entry (by simp; omega)]
  simp [List.getD_eq_getElem?_getD, List.getElem?_append_left hj]

/-- A push and a pop alone: what is left of the entries. -/
theorem keeps_plain {s : MS} {c t : Nat} {L : List Int} (h : DQ s c t L) (hL : ∀ x ∈ L, inI x) (x : Int) (hx : inI x) (hb : t + c + 5 < 18446744073709551615) :
    ∃ (b : Bool) (code : Int) (st : Nat) (s1 : MS) (v : Int) (mm : Nat) (s2 : MS), alone 20 (newPush (q0 c) x) s = (code, 0, st, s1) ∧ alone 20 (newPop (q0 c)) s1 = (1, v, mm, s2) ∧
      (∀ j, j < L.length → s1.at ((2 + (t + j) % c : Nat) : Int) = IntKind.u64.wrap (L.getD j 0)) ∧ (∀ j, j < L.length - 1 → s2.at ((2 + (t + j) % c : Nat) : Int) = IntKind.u64.wrap (L.getD j 0)) ∧
      (code == 3) = b ∧ ((L.length : Int) == (c : Int)) = b ∧ (code == 0) = !b ∧ (b = false → v = x) := by
  rcases push_alone h x 16 with ⟨hl, s1, h1, d1⟩ | ⟨hl, s1, h1, d1⟩
  · rcases (show L = [] ∨ ∃ L' y, L = L' ++ [y] from by rcases List.eq_nil_or_concat L with h | ⟨L', x, h⟩; exact .inl h; exact .inr ⟨L', x, by rw [h, List.concat_eq_append]⟩) with rfl | ⟨L', y, rfl⟩
    · have := h.one
      simp at hl
      omega
    · obtain ⟨s2, mm, t', h2, _, htt, hd, _, _⟩ := pop_some d1 (hL y (by simp)) 13
      refine ⟨true, 3, 2, s1, y, mm, s2, h1, h2, fun j hj => d1.entry hj, fun j hj => ?_, rfl, by simp; simp at hl; omega, rfl, (fun e => by cases e)⟩
      simp at hj
      rcases htt with rfl | ⟨rfl, _⟩
      · rw [(hd (by omega)).entry hj]
        simp [List.getD_eq_getElem?_getD, List.getElem?_append_left hj]
      · simp at hj
  · obtain ⟨s2, mm, t', h2, _, htt, hd, _, _⟩ := pop_some d1 hx 13
    refine ⟨false, 0, 4, s1, x, mm, s2, h1, h2, fun j hj => d1.entry_app hj, fun j hj => ?_, rfl, by simp; omega, rfl, fun _ => rfl⟩
    rcases htt with rfl | ⟨rfl, _⟩
    · exact (hd (by omega)).entry (by omega)
    · simp at hj

set_option maxRecDepth 100000 in
set_option maxHeartbeats 4000000 in
theorem OwnerKeeps_small (w : World) (n size first value : Int) (hn : 0 ≤ n ∧ n ≤ 255) (hsz : 0 ≤ size ∧ size ≤ 255) (hf : 0 ≤ first ∧ first ≤ 18446744073709551615) (hv : inI value) (ao : Option Addr) (len cap : Nat) (zs : List Int) (hz : Ns w (.slice ao len cap) zs) (hlen : len = zs.length) (h400 : len ≤ 400) :
    Calls Try.prog 4 #[.int .u8 n, .int .u8 size, .int .u64 first, .slice ao len cap, .int .i64 value] w fun e w' => e = .returned (.bool true) ∧ Only [] w w' := by
  obtain ⟨hn0, hn1⟩ := hn
  obtain ⟨hsz0, hsz1⟩ := hsz
  obtain ⟨hf0, hf1⟩ := hf
  obtain ⟨c, hc⟩ : ∃ c : Nat, 1 + n % 9 = c := ⟨(1 + n % 9).toNat, by omega⟩
  have hc1 : 1 ≤ c := by omega
  have hc9 : c ≤ 9 := by omega
  obtain ⟨k, hk⟩ : ∃ k : Nat, size % ((c : Int) + 1) = k := ⟨(size % ((c : Int) + 1)).toNat, by have := Int.emod_nonneg size (show ((c : Int) + 1) ≠ 0 by omega); omega⟩
  have hkc : k ≤ c := by have := Int.emod_lt_of_pos size (show 0 < ((c : Int) + 1) by omega); omega
  obtain ⟨t0, ht0⟩ : ∃ t0 : Nat, first / 2 = t0 := ⟨(first / 2).toNat, by omega⟩
  have ht1 : t0 ≤ 9223372036854775807 := by omega
  have HZ := Lib.hid hz
  have HLEN := Lib.hid hlen
  have HV := Lib.hid hv
  have hc0 : ((c : Int) + 1 == 0) = false := by simp; omega
  clear hz hlen hv
  have hs400 : (decide (∀ x ∈ [(ao, len, cap)], x.2.1 ≤ 400) && decide (0 ≤ 400)) = true := by simp; exact h400
  have SH := Lib.hid (show Calls Try.prog 23 #[.slice none 0 0, .slice (some ⟨w.heap.size, 0, none⟩) 1 1] (w.alloc (.cells #[.slice ao len cap] 23)) fun e w' => e = .returned (.bool true) ∧ w.alloc (.cells #[.slice ao len cap] 23) = w' from by
    have := short_any (w.alloc (.cells #[.slice ao len cap] 23)) none 0 0 (by omega) w.heap.size 23 (0, 0) [(ao, len, cap)] 1 rfl (by omega) (blk_alloc_new _ _) (by simp; omega)
    rw [hs400] at this
    exact this)
  clear hs400
  go_enter Try.func4, Try.ntmps4
  go_wp2_with fail
  refine SH.out.mono ?_; rintro e wS ⟨rfl, rfl⟩
  have HZ1 := Lib.hid (HZ.out.keep ((Only.refl [] w).alloc (.cells #[.slice ao len cap] 23)))
  have OS := Lib.hid ((Only.refl [] w).alloc (.cells #[.slice ao len cap] 23))
  obtain ⟨wS, hwS⟩ : ∃ wS, wS = w.alloc (.cells #[.slice ao len cap] 23) := ⟨_, rfl⟩
  have hsS := OS.out.size
  rw [← hwS] at HZ1 OS hsS ⊢
  clear hwS SH
  go_wp2_with fail
  refine (queue_any _ c).mono ?_; rintro e u0 ⟨rfl, o0⟩
  simp only [Q4.v]
  have U0 := Lib.hid o0
  clear o0
  go_wp2_with fail
  obtain ⟨wq, hwq⟩ : ∃ wq, wq = u0.alloc (.cells #[.int .i64 0, .int .i64 1, .int .i64 2, .int .i64 c] 25) := ⟨_, rfl⟩
  rw [← hwq]
  obtain ⟨qb, hqb⟩ : ∃ qb, qb = u0.heap.size := ⟨_, rfl⟩
  rw [← hqb]
  have ow : Only [] u0 wq := by rw [hwq]; exact (Only.refl _ _).alloc _
  have QBq : Hid (wq.heap[qb]? = some (.cells #[.int .i64 0, .int .i64 1, .int .i64 2, .int .i64 c] 25 (0, 0))) := Lib.hid (by rw [hwq, hqb]; exact blk_alloc_new _ _)
  have Oq := Lib.hid (U0.out.then0 ow)
  have qlo : w.heap.size ≤ qb := by have := U0.out.size; omega
  have qlt := lt_of_blk QBq.out
  have OqW := Lib.hid (OS.out.then0 Oq.out)
  clear hwq hqb ow
  go_wp2_with fail
  refine (deque_any wq c k t0 _ zs hc1 (by omega) (by omega) (by omega) (HZ1.out.keep Oq.out) (by have := HLEN.out; omega)).mono ?_; rintro e w1 ⟨da, dcap, rfl, o1, hd⟩
  have O1 := Lib.hid (OqW.out.then0 o1)
  have HD := Lib.hid hd
  have QB1 := Lib.hid (o1.keep QBq.out (by simp))
  have s1 := o1.size
  clear o1 hd
  go_wp2_with fail
  refine (bare_any w1 da dcap (c + 3) _ HD.out (by rw [deqTo_len]) (by omega)).mono ?_; rintro e w2 ⟨en, m, bc, ck, r, rc, rfl, o2, hB, lo, hi'⟩
  have B2 := Lib.hid hB
  have O2 := Lib.hid (O1.out.then0 o2)
  have QB2 := Lib.hid (o2.keep QB1.out (by simp))
  have s2 := o2.size
  obtain ⟨lo1, lo2, lo3, lo4, lo5, lo6⟩ := lo
  obtain ⟨hi1, hi2, hi3, hi4, hi5, hi6⟩ := hi'
  clear o2 hB
  go_wp2_with fail
  refine (awake09_any _).mono ?_; rintro e w3 ⟨rfl, o3⟩
  have B3 := Lib.hid (B2.out.keep0 o3)
  have O3 := Lib.hid (O2.out.then0 o3)
  have QB3 := Lib.hid (o3.keep QB2.out (by simp))
  have s3 := o3.size
  have hs1 := O1.out.size
  clear o3 B2 QB2
  obtain ⟨S0, hS0⟩ : ∃ S0, S0 = bareMS (deqTo c t0 k (entZ zs) k) := ⟨_, rfl⟩
  rw [← hS0] at B3
  obtain ⟨L0, hL0⟩ : ∃ L0, L0 = (List.range k).map (entZ zs) := ⟨_, rfl⟩
  have DS : Hid (DQ S0 c t0 L0) := Lib.hid (by rw [hL0]; exact dq_start (t := t0) (size := k) (f := entZ zs) hc1 (by omega) (by omega) (by omega) (fun i => by have := entZ_bd zs i; omega) (by rw [hS0, bareMS_cells]))
  have SOK : Hid S0.ok := Lib.hid (by intro x hx; rw [hS0, bareMS_cells] at hx; exact deqTo_bd (c := c) (first := (t0 : Int)) (size := k) (f := entZ zs) (by omega) (fun i => by have := entZ_bd zs i; omega) k x hx)
  have SC : Hid (S0.count = c + 3) := Lib.hid (by rw [hS0, bareMS_count, deqTo_len]; rfl)
  have LK : Hid (L0.length = k) := Lib.hid (by rw [hL0]; simp)
  have LI : Hid (∀ x ∈ L0, inI x) := Lib.hid (by rw [hL0]; intro x hx; simp at hx; obtain ⟨i, _, rfl⟩ := hx; have := entZ_bd zs i; unfold inI; omega)
  obtain ⟨b, code, st, s1, v, mm, s2, ha1, ha2, hp1, hp2, hb1, hb2, hb3, hv1⟩ := keeps_plain DS.out LI.out value HV.out (by omega)
  rw [LK.out] at hb2 hp1 hp2
  have HA1 := Lib.hid ha1
  have HA2 := Lib.hid ha2
  have HP1 := Lib.hid hp1
  have HP2 := Lib.hid hp2
  have HV1 := Lib.hid hv1
  have HB3 := Lib.hid hb3
  have g0 := cell_blk QB3.out 0
  have g1 := cell_blk QB3.out 1
  have g2 := cell_blk QB3.out 2
  have g3 := cell_blk QB3.out 3
  simp at g0 g1 g2 g3
  have qm : qb ≠ m ∧ qb ≠ bc := by omega
  have rd2 := B3.out.d2
  have rd3 := B3.out.d3
  clear hS0 hL0 ha1 ha2 hp1 hp2 hv1 hb3
  go_wp2_with fail
  refine (push_new _ (q0 c) value).mono ?_; rintro e v1 ⟨p1, rfl, a1, b1, c1, d1⟩
  have A1 := Lib.hid a1
  have X1 := Lib.hid (apart_new B3.out.ee (by omega) c1)
  have F1 := Lib.hid (B3.out.ee.keep0 A1.out)
  have Q1 := Lib.hid (A1.out.keep QB3.out (by simp))
  have R1 := Lib.hid (REnvAt.keep B3.out.rr A1.out (by simp) (by simp))
  have BB1 := Lib.hid b1
  have z1 := A1.out.size
  clear a1 b1 g0 g1 g2 g3
  go_wp2_with fail
  refine (alone_is v1 p1 en m bc ck (newPush (q0 c) value) S0 0 20 (by omega) 0 rfl rfl (newPush_ok c value (by omega)) SOK.out F1.out X1.out.1 X1.out.2 BB1.out (by have := SC.out; omega) HA1.out).mono ?_; rintro e x1 ⟨rfl, o1, e1⟩
  have E1 := Lib.hid e1
  have QX1 := Lib.hid (o1.keep Q1.out (by simp; omega))
  have R1' := Lib.hid (R1.out.keep o1 (by simp; omega) (by simp; omega))
  have O1' : Hid (Only [] w x1) := Lib.hid ((O3.out.then0 A1.out).trans o1 (by have := O3.out.size; simp; omega))
  have SS1 := Lib.hid (by have := alone_ok 20 (newPush (q0 c) value) S0 (fun _ => newPush_ok c value (by omega)) SOK.out; rw [HA1.out] at this; exact this)
  have y1 := o1.size
  clear o1 e1
  go_wp2_with fail
  go_loopw [20] (fun i wr => ∃ j : Nat, j ≤ k ∧ i = .int .i64 j ∧ EnvAt wr en m bc ck s1 0 ∧ REnvAt wr r rc S0 0 ∧ wr.heap[qb]? = some (.cells #[.int .i64 0, .int .i64 1, .int .i64 2, .int .i64 c] 25 (0, 0)) ∧ x1.heap.size ≤ wr.heap.size ∧ Only [] w wr) (fun i _ => k - (intOf i).toNat)
  case atStart => exact ⟨0, Nat.zero_le _, rfl, E1.out, R1'.out, QX1.out, Nat.le_refl _, O1'.out⟩
  case round =>
    obtain ⟨j, hj, rfl, hE, hR, hQ, hz, hO⟩ := hrel
    have E := Lib.hid hE
    have R := Lib.hid hR
    have Q := Lib.hid hQ
    have O := Lib.hid hO
    have g0 := cell_blk hQ 0
    have g1 := cell_blk hQ 1
    have g2 := cell_blk hQ 2
    have g3 := cell_blk hQ 3
    simp at g0 g1 g2 g3
    clear hE hR hQ hO
    by_cases hlt : j < k
    · have hjL : j < L0.length := by rw [LK.out]; exact hlt
      have RG := fun w => Lib.hid (ring_any w (q0 c) ((t0 : Int) + (j : Int)) (by omega) (by omega) (by simp [q0]) (by simp only [q0]; omega))
      rw [← Int.natCast_add, ringI_of _ hc1, show (2 : Int) + ((t0 + j) % c : Nat) = ((2 + (t0 + j) % c : Nat) : Int) from by omega, Int.natCast_add] at RG
      obtain ⟨a, ha⟩ : ∃ a : Nat, a = 2 + (t0 + j) % c := ⟨_, rfl⟩
      rw [← ha] at RG
      have P1 : s1.at (a : Int) = IntKind.u64.wrap (L0.getD j 0) := by rw [ha]; exact HP1.out j hlt
      have P2 : S0.at (a : Int) = IntKind.u64.wrap (L0.getD j 0) := by rw [ha]; exact DS.out.entry hjL
      obtain ⟨x, hx⟩ : ∃ x, x = IntKind.u64.wrap (L0.getD j 0) := ⟨_, rfl⟩
      rw [← hx] at P1 P2
      have HP1 := Lib.hid P1
      have HP2 := Lib.hid P2
      have aw := hjL
      clear ha P1 P2 hx hjL aw
      go_wp2_with fail
      refine (RG _).out.mono ?_; rintro e y1 ⟨rfl, o1⟩
      have E1 := Lib.hid (E.out.keep0 o1)
      have R1 := Lib.hid (R.out.keep o1 (by simp) (by simp))
      have Q1 := Lib.hid (o1.keep Q.out (by simp))
      have O1 := Lib.hid (O.out.then0 o1)
      have z1 := o1.size
      have e22 := E1.out.mem
      have PK := fun q => Lib.hid (show Calls Try.prog 22 #[.pointer (some ⟨m, 0, none⟩), .int .i64 a] (y1.drewN q) fun e w' => e = .returned (.int .u64 x) ∧ w' = y1.drewN q from by rw [← HP1.out]; exact (peek_any (y1.drewN q) m bc _ a E1.out.mm).mono fun _ _ h => ⟨h.1, h.2.symm⟩)
      have RK := fun q => Lib.hid (show Calls Try.prog 25 #[.pointer (some ⟨r, 11, none⟩), .int .i64 a] (y1.drewN q) fun e w' => e = .returned (.int .u64 x) ∧ w' = y1.drewN q from by rw [← HP2.out]; exact (rpeek_any (y1.drewN q) r rc _ 0 a (R1.out.keep ((Only.refl [] y1).drewN q) (by simp) (by simp))).mono fun _ _ h => ⟨h.1, h.2.symm⟩)
      clear o1 RG
      go_wp2_with fail
      go_quiet ((first | (go_at_call 22; exact Calls.quiet_of_same (PK _).out) | (go_at_call 25; exact Calls.quiet_of_same (RK _).out)))
      have D2 := (Only.refl [] y1).drewN nq
      go_wp2_with fail
      go_roundw
      case rel => exact ⟨j + 1, by omega, by go_num, E1.out.keep0 D2, R1.out.keep D2 (by simp) (by simp), D2.keep Q1.out (by simp), (by show _ ≤ y1.heap.size; omega), O1.out.then0 D2⟩
      case measure => simp [intOf]; omega
    · obtain rfl : k = j := by omega
      cases b with
      | true =>
        go_wp2_with fail
        refine (pop_new _ (q0 c)).mono ?_; rintro e v2 ⟨p2, rfl, a2, b2, c2, d2⟩
        have A2 := Lib.hid a2
        have X2 := Lib.hid (apart_new E.out (by omega) c2)
        have F2 := Lib.hid (E.out.keep0 A2.out)
        have Q2 := Lib.hid (A2.out.keep Q.out (by simp))
        have R2 := Lib.hid (R.out.keep A2.out (by simp) (by simp))
        have BB2 := Lib.hid b2
        have z2 := A2.out.size
        clear a2 b2 g0 g1 g2 g3
        go_wp2_with fail
        refine (alone_is v2 p2 en m bc ck (newPop (q0 c)) s1 0 20 (by omega) 1 rfl rfl (newPop_ok c (by omega)) SS1.out.1 F2.out X2.out.1 X2.out.2 BB2.out (by have := SS1.out.2.2.2; have := SC.out; omega) HA2.out).mono ?_; rintro e x2 ⟨rfl, o2, e2⟩
        have E2 := Lib.hid e2
        have QX2 := Lib.hid (o2.keep Q2.out (by simp; omega))
        have R2' := Lib.hid (R2.out.keep o2 (by simp; omega) (by simp; omega))
        have O2' : Hid (Only [] w x2) := Lib.hid ((O.out.then0 A2.out).trans o2 (by have := O.out.size; simp; omega))
        have y2 := o2.size
        clear o2 e2
        go_wp2_with fail
        go_loopw [25] (fun i wr => ∃ j : Nat, j ≤ (k - 1) ∧ i = .int .i64 j ∧ EnvAt wr en m bc ck s2 0 ∧ REnvAt wr r rc S0 0 ∧ wr.heap[qb]? = some (.cells #[.int .i64 0, .int .i64 1, .int .i64 2, .int .i64 c] 25 (0, 0)) ∧ x2.heap.size ≤ wr.heap.size ∧ Only [] w wr) (fun i _ => (k - 1) - (intOf i).toNat)
        case atStart => exact ⟨0, Nat.zero_le _, rfl, E2.out, R2'.out, QX2.out, Nat.le_refl _, O2'.out⟩
        case round =>
          obtain ⟨j, hj, rfl, hE, hR, hQ, hz, hO⟩ := hrel
          have E := Lib.hid hE
          have R := Lib.hid hR
          have Q := Lib.hid hQ
          have O := Lib.hid hO
          have g0 := cell_blk hQ 0
          have g1 := cell_blk hQ 1
          have g2 := cell_blk hQ 2
          have g3 := cell_blk hQ 3
          simp at g0 g1 g2 g3
          clear hE hR hQ hO
          by_cases hlt : j < (k - 1)
          · have hjL : j < L0.length := by rw [LK.out]; omega
            have RG := fun w => Lib.hid (ring_any w (q0 c) ((t0 : Int) + (j : Int)) (by omega) (by omega) (by simp [q0]) (by simp only [q0]; omega))
            rw [← Int.natCast_add, ringI_of _ hc1, show (2 : Int) + ((t0 + j) % c : Nat) = ((2 + (t0 + j) % c : Nat) : Int) from by omega, Int.natCast_add] at RG
            obtain ⟨a, ha⟩ : ∃ a : Nat, a = 2 + (t0 + j) % c := ⟨_, rfl⟩
            rw [← ha] at RG
            have P1 : s2.at (a : Int) = IntKind.u64.wrap (L0.getD j 0) := by rw [ha]; exact HP2.out j hlt
            have P2 : S0.at (a : Int) = IntKind.u64.wrap (L0.getD j 0) := by rw [ha]; exact DS.out.entry hjL
            obtain ⟨x, hx⟩ : ∃ x, x = IntKind.u64.wrap (L0.getD j 0) := ⟨_, rfl⟩
            rw [← hx] at P1 P2
            have HP1 := Lib.hid P1
            have HP2 := Lib.hid P2
            have aw := hjL
            clear ha P1 P2 hx hjL aw
            go_wp2_with fail
            refine (RG _).out.mono ?_; rintro e y1 ⟨rfl, o1⟩
            have E1 := Lib.hid (E.out.keep0 o1)
            have R1 := Lib.hid (R.out.keep o1 (by simp) (by simp))
            have Q1 := Lib.hid (o1.keep Q.out (by simp))
            have O1 := Lib.hid (O.out.then0 o1)
            have z1 := o1.size
            have e22 := E1.out.mem
            have PK := fun q => Lib.hid (show Calls Try.prog 22 #[.pointer (some ⟨m, 0, none⟩), .int .i64 a] (y1.drewN q) fun e w' => e = .returned (.int .u64 x) ∧ w' = y1.drewN q from by rw [← HP1.out]; exact (peek_any (y1.drewN q) m bc _ a E1.out.mm).mono fun _ _ h => ⟨h.1, h.2.symm⟩)
            have RK := fun q => Lib.hid (show Calls Try.prog 25 #[.pointer (some ⟨r, 11, none⟩), .int .i64 a] (y1.drewN q) fun e w' => e = .returned (.int .u64 x) ∧ w' = y1.drewN q from by rw [← HP2.out]; exact (rpeek_any (y1.drewN q) r rc _ 0 a (R1.out.keep ((Only.refl [] y1).drewN q) (by simp) (by simp))).mono fun _ _ h => ⟨h.1, h.2.symm⟩)
            clear o1 RG
            go_wp2_with fail
            go_quiet ((first | (go_at_call 22; exact Calls.quiet_of_same (PK _).out) | (go_at_call 25; exact Calls.quiet_of_same (RK _).out)))
            have D2 := (Only.refl [] y1).drewN nq
            go_wp2_with fail
            go_roundw
            case rel => exact ⟨j + 1, by omega, by go_num, E1.out.keep0 D2, R1.out.keep D2 (by simp) (by simp), D2.keep Q1.out (by simp), (by show _ ≤ y1.heap.size; omega), O1.out.then0 D2⟩
            case measure => simp [intOf]; omega
          · obtain rfl : j = (k - 1) := by omega
            go_wp2_with fail
            go_ret
            exact ⟨rfl, O.out⟩
      | false =>
        obtain rfl := HV1.out rfl
        have hb4 : (code == 0) = true := by rw [HB3.out]; rfl
        go_wp2_with fail
        refine (pop_new _ (q0 c)).mono ?_; rintro e v2 ⟨p2, rfl, a2, b2, c2, d2⟩
        have A2 := Lib.hid a2
        have X2 := Lib.hid (apart_new E.out (by omega) c2)
        have F2 := Lib.hid (E.out.keep0 A2.out)
        have Q2 := Lib.hid (A2.out.keep Q.out (by simp))
        have R2 := Lib.hid (R.out.keep A2.out (by simp) (by simp))
        have BB2 := Lib.hid b2
        have z2 := A2.out.size
        clear a2 b2 g0 g1 g2 g3
        go_wp2_with fail
        refine (alone_is v2 p2 en m bc ck (newPop (q0 c)) s1 0 20 (by omega) 1 rfl rfl (newPop_ok c (by omega)) SS1.out.1 F2.out X2.out.1 X2.out.2 BB2.out (by have := SS1.out.2.2.2; have := SC.out; omega) HA2.out).mono ?_; rintro e x2 ⟨rfl, o2, e2⟩
        have E2 := Lib.hid e2
        have QX2 := Lib.hid (o2.keep Q2.out (by simp; omega))
        have R2' := Lib.hid (R2.out.keep o2 (by simp; omega) (by simp; omega))
        have O2' : Hid (Only [] w x2) := Lib.hid ((O.out.then0 A2.out).trans o2 (by have := O.out.size; simp; omega))
        have y2 := o2.size
        clear o2 e2
        go_wp2_with fail
        go_loopw [25] (fun i wr => ∃ j : Nat, j ≤ (k - 1) ∧ i = .int .i64 j ∧ EnvAt wr en m bc ck s2 0 ∧ REnvAt wr r rc S0 0 ∧ wr.heap[qb]? = some (.cells #[.int .i64 0, .int .i64 1, .int .i64 2, .int .i64 c] 25 (0, 0)) ∧ x2.heap.size ≤ wr.heap.size ∧ Only [] w wr) (fun i _ => (k - 1) - (intOf i).toNat)
        case atStart => exact ⟨0, Nat.zero_le _, rfl, E2.out, R2'.out, QX2.out, Nat.le_refl _, O2'.out⟩
        case round =>
          obtain ⟨j, hj, rfl, hE, hR, hQ, hz, hO⟩ := hrel
          have E := Lib.hid hE
          have R := Lib.hid hR
          have Q := Lib.hid hQ
          have O := Lib.hid hO
          have g0 := cell_blk hQ 0
          have g1 := cell_blk hQ 1
          have g2 := cell_blk hQ 2
          have g3 := cell_blk hQ 3
          simp at g0 g1 g2 g3
          clear hE hR hQ hO
          by_cases hlt : j < (k - 1)
          · have hjL : j < L0.length := by rw [LK.out]; omega
            have RG := fun w => Lib.hid (ring_any w (q0 c) ((t0 : Int) + (j : Int)) (by omega) (by omega) (by simp [q0]) (by simp only [q0]; omega))
            rw [← Int.natCast_add, ringI_of _ hc1, show (2 : Int) + ((t0 + j) % c : Nat) = ((2 + (t0 + j) % c : Nat) : Int) from by omega, Int.natCast_add] at RG
            obtain ⟨a, ha⟩ : ∃ a : Nat, a = 2 + (t0 + j) % c := ⟨_, rfl⟩
            rw [← ha] at RG
            have P1 : s2.at (a : Int) = IntKind.u64.wrap (L0.getD j 0) := by rw [ha]; exact HP2.out j hlt
            have P2 : S0.at (a : Int) = IntKind.u64.wrap (L0.getD j 0) := by rw [ha]; exact DS.out.entry hjL
            obtain ⟨x, hx⟩ : ∃ x, x = IntKind.u64.wrap (L0.getD j 0) := ⟨_, rfl⟩
            rw [← hx] at P1 P2
            have HP1 := Lib.hid P1
            have HP2 := Lib.hid P2
            have aw := hjL
            clear ha P1 P2 hx hjL aw
            go_wp2_with fail
            refine (RG _).out.mono ?_; rintro e y1 ⟨rfl, o1⟩
            have E1 := Lib.hid (E.out.keep0 o1)
            have R1 := Lib.hid (R.out.keep o1 (by simp) (by simp))
            have Q1 := Lib.hid (o1.keep Q.out (by simp))
            have O1 := Lib.hid (O.out.then0 o1)
            have z1 := o1.size
            have e22 := E1.out.mem
            have PK := fun q => Lib.hid (show Calls Try.prog 22 #[.pointer (some ⟨m, 0, none⟩), .int .i64 a] (y1.drewN q) fun e w' => e = .returned (.int .u64 x) ∧ w' = y1.drewN q from by rw [← HP1.out]; exact (peek_any (y1.drewN q) m bc _ a E1.out.mm).mono fun _ _ h => ⟨h.1, h.2.symm⟩)
            have RK := fun q => Lib.hid (show Calls Try.prog 25 #[.pointer (some ⟨r, 11, none⟩), .int .i64 a] (y1.drewN q) fun e w' => e = .returned (.int .u64 x) ∧ w' = y1.drewN q from by rw [← HP2.out]; exact (rpeek_any (y1.drewN q) r rc _ 0 a (R1.out.keep ((Only.refl [] y1).drewN q) (by simp) (by simp))).mono fun _ _ h => ⟨h.1, h.2.symm⟩)
            clear o1 RG
            go_wp2_with fail
            go_quiet ((first | (go_at_call 22; exact Calls.quiet_of_same (PK _).out) | (go_at_call 25; exact Calls.quiet_of_same (RK _).out)))
            have D2 := (Only.refl [] y1).drewN nq
            go_wp2_with fail
            go_roundw
            case rel => exact ⟨j + 1, by omega, by go_num, E1.out.keep0 D2, R1.out.keep D2 (by simp) (by simp), D2.keep Q1.out (by simp), (by show _ ≤ y1.heap.size; omega), O1.out.then0 D2⟩
            case measure => simp [intOf]; omega
          · obtain rfl : j = (k - 1) := by omega
            go_wp2_with fail
            go_ret
            exact ⟨rfl, O.out⟩

theorem OwnerKeeps_any (w : World) (n : Int) (wn : (Lit.int .u8 n).wf = true) (size : Int) (ws : (Lit.int .u8 size).wf = true) (first : Int) (wf : (Lit.int .u64 first).wf = true) (zs : List Int) (v : Value) (hv : Ns w v zs) (wz : ∀ z ∈ zs, (Lit.int .i64 z).wf = true) (hl : zs.length ≤ 9223372036854775807) (value : Int) (wv : (Lit.int .i64 value).wf = true) :
    Calls Try.prog 4 #[.int .u8 n, .int .u8 size, .int .u64 first, v, .int .i64 value] w fun e w' => e = .returned (.bool true) ∧ Only [] w w' := by
  have hv2 := hv
  obtain ⟨ao, cap, rfl, h1, h2, h3⟩ := hv
  by_cases h : zs.length ≤ 400
  · exact OwnerKeeps_small w n size first value (wf_u8 wn) (wf_u8 ws) (wf_u64 wf) (wf_i64 wv) ao _ cap zs hv2 rfl h
  · have hs400 : (decide (∀ x ∈ [(ao, zs.length, cap)], x.2.1 ≤ 400) && decide (0 ≤ 400)) = false := by simp; omega
    have SH := Lib.hid (show Calls Try.prog 23 #[.slice none 0 0, .slice (some ⟨w.heap.size, 0, none⟩) 1 1] (w.alloc (.cells #[.slice ao zs.length cap] 23)) fun e w' => e = .returned (.bool false) ∧ w.alloc (.cells #[.slice ao zs.length cap] 23) = w' from by
      have := short_any (w.alloc (.cells #[.slice ao zs.length cap] 23)) none 0 0 (by omega) w.heap.size 23 (0, 0) [(ao, zs.length, cap)] 1 rfl (by omega) (blk_alloc_new _ _) (by simp; omega)
      rw [hs400] at this
      exact this)
    generalize zs.length = len at *
    clear hs400 h1 h2 h3 wz h hv2
    go_enter Try.func4, Try.ntmps4
    go_wp2_with fail
    refine SH.out.mono ?_; rintro e wS ⟨rfl, rfl⟩
    go_wp2_with fail
    go_ret
    exact ⟨rfl, (Only.refl _ _).alloc _⟩
end Go.Proofs.Ytnjddpijlgjgeaa
