/- The law ThiefOnce of chapter 10, walked. (Written by wip/gen_once.py.) -/
import Derived.Test.YtnjddpijlgjgeaaOnceW
import Derived.Laws.MakeOwn
import Derived.Deep.RegionHeld3
import Derived.Deep.DeepCutAuto
namespace Go.Proofs.Ytnjddpijlgjgeaa
open Go.RowKit
set_option linter.unusedVariables false

theorem infoI : (Try.prog.info? 3).map (fun i => (i.zero, i.size, i.bytes)) = some (some (.int .i64 0), 1, 8) := by kernel_rfl
theorem infoB : (Try.prog.info? 4).map (fun i => (i.zero, i.size, i.bytes)) = some (some (.bool false), 1, 1) := by kernel_rfl
theorem infoM : (Try.prog.info? 37).map (fun i => (i.zero, i.size, i.bytes)) = some (some .nilIface, 1, 16) := by kernel_rfl

/-- A slice of n elements, made: a new block of n zeros. -/
theorem make_run {P : Program} {t e : TypeId} {z : Value} {bytes : Nat} (ht : P.underlying t = some (.slice e)) (hi : (P.info? e).map (fun i => (i.zero, i.size, i.bytes)) = some (some z, 1, bytes)) (hz : z.cells = #[z]) (n : Nat) (hn : n ≤ 1000000) (hb : bytes ≤ 64) :
    ∃ M : Array Value, M = (List.replicate n z).toArray ∧ ∀ w : World, (Instr.makeSlice t (.int .i64 n) (.int .i64 n)).run P w = .ok (.slice (some ⟨w.heap.size, 0, none⟩) n n) (w.alloc (.cells M e)) := by
  obtain ⟨i0, hi0, z0, z1, z2⟩ := info_parts hi
  refine ⟨_, rfl, fun w => ?_⟩
  have hr := run_make (P := P) w t e i0 z ht hi0 z0 .i64 .i64 n n (by omega) (Int.le_refl _) (by
    rw [z2]
    have : bytes * n ≤ 64 * 1000000 := Nat.mul_le_mul hb hn
    have h2 : ((bytes * n : Nat) : Int) ≤ 281474976710656 := by omega
    rwa [Int.natCast_mul] at h2) (by omega)
  simp only [Int.toNat_natCast, z1, Nat.mul_one, hz] at hr
  rw [hr]
  have : madeCells #[z] n = (List.replicate n z).toArray := by
    rw [← toList_madeCells_one z n]
  rw [this]

theorem repl_map {n : Nat} {z : Value} {f : Nat → Value} (h : ∀ a, f a = z) : (List.replicate n z) = (List.range n).map f := by
  apply List.ext_getElem
  · simp
  · intro i h1 h2; simp [h]

theorem tdiv_wrap {z k : Int} (hz : -9223372036854775808 ≤ z ∧ z ≤ 9223372036854775807) (hk : 2 ≤ k) : wrap64 (z.tdiv k) = z.tdiv k ∧ IntKind.i64.wrap (z.tdiv k) = z.tdiv k := by
  have h : -9223372036854775808 ≤ z.tdiv k ∧ z.tdiv k ≤ 9223372036854775807 := by
    have h1 : (z.tdiv k).natAbs ≤ z.natAbs := by rw [Int.natAbs_tdiv]; exact Nat.div_le_self _ _
    have h2 : 2 ≤ k.natAbs := by omega
    have h3 : (z.tdiv k).natAbs ≤ z.natAbs / 2 := by rw [Int.natAbs_tdiv]; exact Nat.div_le_div_left h2 (by omega)
    omega
  exact ⟨IntWalk.wrap64_in _ h, IntWalk.i64_in _ h⟩

theorem new3 (w : World) (a b c : Obj) : (((w.alloc a).alloc b).alloc c).drew.heap.size = w.heap.size + 1 + 1 + 1 ∧ (((w.alloc a).alloc b).alloc c).drew.heap[w.heap.size]? = some a ∧ (((w.alloc a).alloc b).alloc c).drew.heap[w.heap.size + 1]? = some b ∧
    (((w.alloc a).alloc b).alloc c).drew.heap[w.heap.size + 1 + 1]? = some c ∧ Only [] w (((w.alloc a).alloc b).alloc c).drew := by
  have e1 : (w.alloc a).heap.size = w.heap.size + 1 := by simp
  have e2 : ((w.alloc a).alloc b).heap.size = w.heap.size + 1 + 1 := by simp
  refine ⟨by rw [heap_drew]; simp, ?_, ?_, ?_, ((((Only.refl [] w).alloc _).alloc _).alloc _).drew⟩
  · rw [heap_drew, blk_alloc_old (by omega), blk_alloc_old (by omega)]; exact blk_alloc_new _ _
  · rw [heap_drew, blk_alloc_old (by omega), ← e1]; exact blk_alloc_new _ _
  · rw [heap_drew, ← e2]; exact blk_alloc_new _ _

set_option maxRecDepth 100000 in
set_option maxHeartbeats 8000000 in
theorem ThiefOnce_small (w : World) (n thieves first : Int) (hn : 0 ≤ n ∧ n ≤ 255) (hth : 0 ≤ thieves ∧ thieves ≤ 255) (hf : 0 ≤ first ∧ first ≤ 18446744073709551615) (ao : Option Addr) (len cap : Nat) (zs : List Int) (hz : CellsAt w ao (zs.map (.int .i64))) (wz : ∀ z ∈ zs, (Lit.int .i64 z).wf = true) (hlen : len = zs.length) (h400 : len ≤ 400) :
    Calls Try.prog 7 #[.int .u8 n, .int .u8 thieves, .int .u64 first, .slice ao len cap] w fun e w' => e = .returned (.bool true) ∧ Only [] w w' := by
  obtain ⟨hn0, hn1⟩ := hn
  obtain ⟨hth0, hth1⟩ := hth
  obtain ⟨hf0, hf1⟩ := hf
  obtain ⟨c, hc⟩ : ∃ c : Nat, 1 + n % 4 = c := ⟨(1 + n % 4).toNat, by omega⟩
  have hc1 : 1 ≤ c := by omega
  have hc9 : c ≤ 4 := by omega
  obtain ⟨N, hN⟩ : ∃ N : Nat, (len : Int) + 500 = N := ⟨len + 500, by omega⟩
  obtain ⟨na, hna⟩ : ∃ na : Nat, 2 + thieves % 5 = na := ⟨(2 + thieves % 5).toNat, by omega⟩
  have hn2 : 2 ≤ na := by omega
  have hn6 : na ≤ 6 := by omega
  have hN9 : N ≤ 900 := by omega
  have hNL : N = len + 500 := by omega
  obtain ⟨t0, ht0⟩ : ∃ t0 : Nat, first / 2 = t0 := ⟨(first / 2).toNat, by omega⟩
  have ht1 : t0 ≤ 9223372036854775807 := by omega
  obtain ⟨MX, hMX, mkX⟩ := make_run (P := Try.prog) (t := 71) Try.underlying71 infoM rfl na (by omega) (by omega)
  obtain ⟨MD, hMD, mkD⟩ := make_run (P := Try.prog) (t := 23) Try.underlying23 infoI rfl na (by omega) (by omega)
  obtain ⟨MP, hMP, mkP⟩ := make_run (P := Try.prog) (t := 64) Try.underlying64 infoB rfl N (by omega) (by omega)
  obtain ⟨MT, hMT, mkT⟩ := make_run (P := Try.prog) (t := 23) Try.underlying23 infoI rfl N (by omega) (by omega)
  have HMX := Lib.hid hMX
  have HMD := Lib.hid hMD
  have HMP := Lib.hid hMP
  have HMT := Lib.hid hMT
  have HZ := Lib.hid hz
  have HWZ := Lib.hid wz
  have HLEN := Lib.hid hlen
  have HNL := Lib.hid hNL
  have hh : ¬ (400 < (len : Int)) := by omega
  clear hz wz hlen hNL hMX hMD hMP hMT
  go_enter Try.func7, Try.ntmps7
  go_wp2_with fail
  refine (queue_any _ c).mono ?_; rintro e u0 ⟨rfl, o0⟩
  simp only [Q4.v]
  have U0 := Lib.hid o0
  clear o0
  go_wp2_with fail
  obtain ⟨wq, hwq⟩ : ∃ wq, wq = u0.alloc (.cells #[.int .i64 0, .int .i64 1, .int .i64 2, .int .i64 c] 25) := ⟨_, rfl⟩
  rw [← hwq]
  obtain ⟨qb, hqb⟩ : ∃ qb, qb = u0.heap.size := ⟨_, rfl⟩
  rw [← hqb]
  have ow : Only [] u0 wq := by rw [hwq]; exact (Only.refl _ _).alloc _
  have QBq : Hid (wq.heap[qb]? = some (.cells #[.int .i64 0, .int .i64 1, .int .i64 2, .int .i64 c] 25 (0, 0))) := Lib.hid (by rw [hwq, hqb]; exact blk_alloc_new _ _)
  have Oq := Lib.hid (U0.out.then0 ow)
  have qlo : w.heap.size ≤ qb := by have := U0.out.size; omega
  have qlt := lt_of_blk QBq.out
  clear hwq hqb ow
  go_wp2_with fail
  refine (deque_any wq c 0 t0 _ [] hc1 (by omega) (by omega) (by omega) ⟨none, 0, rfl, CellsAt.nil _ _, fun _ => ⟨rfl, rfl⟩, Nat.le_refl _⟩ (by simp)).mono ?_; rintro e w1 ⟨da, dcap, rfl, o1, hd⟩
  have O1 := Lib.hid (Oq.out.then0 o1)
  have HD := Lib.hid hd
  have QB1 := Lib.hid (o1.keep QBq.out (by simp))
  have s1 := o1.size
  clear o1 hd
  go_wp2_with fail
  refine (bare_any w1 da dcap (c + 3) _ HD.out (by rw [deqTo_len]) (by omega)).mono ?_; rintro e w2 ⟨en, m, bc, ck, r, rc, rfl, o2, hB, lo, hi'⟩
  have B2 := Lib.hid hB
  have O2 := Lib.hid (O1.out.then0 o2)
  have QB2 := Lib.hid (o2.keep QB1.out (by simp))
  have s2 := o2.size
  obtain ⟨lo1, lo2, lo3, lo4, lo5, lo6⟩ := lo
  obtain ⟨hi1, hi2, hi3, hi4, hi5, hi6⟩ := hi'
  clear o2 hB
  go_wp2_with fail
  refine (awake10_any _).mono ?_; rintro e w3 ⟨rfl, o3⟩
  have B3 := Lib.hid (B2.out.keep0 o3)
  have O3 := Lib.hid (O2.out.then0 o3)
  have QB3 := Lib.hid (o3.keep QB2.out (by simp))
  have s3 := o3.size
  have hs1 := O1.out.size
  clear o3 B2 QB2
  obtain ⟨S0, hS0⟩ : ∃ S0, S0 = bareMS (deqTo c t0 0 (entZ []) 0) := ⟨_, rfl⟩
  rw [← hS0] at B3
  have DS : Hid (DQ S0 c t0 []) := Lib.hid (show DQ S0 c t0 ((List.range 0).map (entZ [])) from dq_start (t := t0) (size := 0) (f := entZ []) hc1 (by omega) (by omega) (by omega) (fun i => by have := entZ_bd [] i; omega) (by rw [hS0, bareMS_cells]))
  have SOK : Hid S0.ok := Lib.hid (by intro x hx; rw [hS0, bareMS_cells] at hx; exact deqTo_bd (c := c) (first := (t0 : Int)) (size := 0) (f := entZ []) (by omega) (fun i => by have := entZ_bd [] i; omega) 0 x hx)
  have SC : Hid (S0.count = c + 3) := Lib.hid (by rw [hS0, bareMS_count, deqTo_len]; rfl)
  clear hS0
  go_upto_region 9 with fail
  go_cut [16, 17] (fun s16 s17 wx => ∃ db pb : Nat, s16 = .slice (some ⟨db, 0, none⟩) na na ∧ s17 = .slice (some ⟨pb, 0, none⟩) N N ∧ w3.heap.size < db ∧ w3.heap.size < pb ∧ db ≠ pb ∧ db < wx.heap.size ∧ pb < wx.heap.size ∧
      wx.heap[w3.heap.size]? = some (.cells MX 37 (0, 0)) ∧ wx.heap[db]? = some (.cells MD 3 (0, 0)) ∧ wx.heap[pb]? = some (.cells MP 4 (0, 0)) ∧ Only [] w3 wx)
  case first =>
    go_region
    · go_wp2_with fail
      go_meet
      obtain ⟨n1, n2, n3, n4, n5⟩ := new3 w3 (.cells MX 37) (.cells MD 3) (.cells MP 4)
      exact ⟨_, _, rfl, rfl, by omega, by omega, by omega, by omega, by omega, n2, n3, n4, n5⟩
    · go_wp2_with fail
      go_meet
      obtain ⟨n1, n2, n3, n4, n5⟩ := new3 w3 (.cells MX 37) (.cells MP 4) (.cells MD 3)
      exact ⟨_, _, rfl, rfl, by omega, by omega, by omega, by omega, by omega, n2, n4, n3, n5⟩
  case rest =>
    obtain ⟨db, pb, rfl, rfl, hd1, hp1, hdp, hd2, hp2, hX, hD, hP, hO⟩ := hcut
    have X := Lib.hid hX
    have D := Lib.hid hD
    have P := Lib.hid hP
    have OC := Lib.hid hO
    clear hX hD hP hO
    go_wp2_with fail
    obtain ⟨tb, htb⟩ : ∃ tb, tb = wc.heap.size := ⟨_, rfl⟩
    obtain ⟨wL, hwL⟩ : ∃ wL, wL = wc.alloc (.cells MT 3) := ⟨_, rfl⟩
    obtain ⟨xb, hxb⟩ : ∃ xb, xb = w3.heap.size := ⟨_, rfl⟩
    obtain ⟨B, hB⟩ : ∃ B, B = wL.heap.size := ⟨_, rfl⟩
    have ea : Only [] wc wL := by rw [hwL]; exact (Only.refl _ _).alloc _
    have eB : B = wc.heap.size + 1 := by rw [hB, hwL]; simp
    have OD' : Hid (OD w xb B en m bc ck xb db pb tb qb) := Lib.hid (by
      have := OC.out.size; have := O3.out.size; have := B3.out.ee.em; have := B3.out.ee.ec; have := B3.out.ee.ek; have := lt_of_blk QB3.out
      exact ⟨by omega, by omega, by omega, by omega, by omega, by omega, by omega, by omega, by omega, by omega, by omega, by omega, by omega, by omega, by omega, by omega, by omega, by omega, by omega, by omega, by omega, by omega, by omega, by omega⟩)
    have OWL : Hid (OW w B en m bc ck xb db pb tb qb na N c (fun _ => none) (fun _ => 0) (fun _ => 0) (fun _ => false) (fun _ => 0) S0 wL) := Lib.hid (by
      refine ⟨(B3.out.ee.keep0 OC.out).keep0 ea, ?_, ?_, ?_, ?_, ea.keep (OC.out.keep QB3.out (by simp)) (by simp), fun a k _ e => (by cases e), fun a b _ _ e => absurd rfl e, (O3.out.then0 OC.out).then0 ea, by omega⟩
      · rw [ea.keep (hxb ▸ X.out) (by simp), HMX.out, repl_map (f := xv (fun _ => none) (fun _ => 0)) (fun a => rfl)]
      · rw [ea.keep D.out (by simp), HMD.out, repl_map (f := fun _ => Value.int .i64 0) (fun a => rfl)]
      · rw [ea.keep P.out (by simp), HMP.out, repl_map (f := fun _ => Value.bool false) (fun a => rfl)]
      · rw [hwL, htb, blk_alloc_new, HMT.out, repl_map (f := fun _ => Value.int .i64 0) (fun a => rfl)])
    have ON0 : Hid (ON c t0 0 0 (fun _ => none) (fun _ => 0) (fun _ => false) (fun _ => 0) S0 t0 [] none) := Lib.hid (by
      have d := DS.out
      exact ⟨⟨d.one, d.cap, d.len, d.top, d.fit, d.ent⟩, Nat.le_refl _, by omega, fun _ => ⟨rfl, d.bot⟩, (fun k e => by cases e), (fun a k _ e => by cases e), by simp, by simp, (fun p e => by cases e), fun p => .inl rfl, fun p _ => rfl, SOK.out, fun a k e => by cases e⟩)
    have hSC := SC.out
    rw [← hwL, ← hxb, ← htb]
    clear hwL hxb htb ea eB X D P OC hB
    go_loopw [19] (fun i wr => ∃ j : Nat, j ≤ len + na * 12 ∧ i = .int .i64 j ∧ OnceRel w B en m bc ck xb db pb tb qb na N c t0 len j wr) (fun i _ => len + na * 12 - (intOf i).toNat)
    case atStart => exact ⟨0, Nat.zero_le _, rfl, _, _, _, _, _, S0, t0, [], none, OWL.out, by rw [Nat.zero_min]; exact ON0.out, by omega, fun h => by rw [Nat.zero_sub]; exact ON0.out.of⟩
    case round =>
      obtain ⟨j, hj, rfl, hR⟩ := hrel
      have HR := Lib.hid hR
      clear hR
      have nn : ∀ w, (binOp .eql 37 .nilIface .nilIface).run Try.prog w = .ok (.bool true) w := fun w => by kernel_rfl
      have HMU : Hid (∀ wx a, a < na → OnceRel w B en m bc ck xb db pb tb qb na N c t0 len j wx → True) := Lib.hid (fun _ _ _ _ => trivial)
      clear HMU
      by_cases hlt : j < len + na * 12
      · have hlt2 : (j : Int) < (len : Int) + (na : Int) * 12 := by omega
        obtain ⟨ms, ps, doing, pushed, taken, s, t, L, res, hOW, hON, hcn, hOF⟩ := HR.out
        have OWr := Lib.hid hOW
        have ONr := Lib.hid hON
        have OFr := Lib.hid hOF
        clear hOW hON hOF
        go_upto_if 82 with fail
        go_cut [20] (fun s20 wx => wx = wr ∧ ∃ a : Nat, a < na ∧ s20 = .int .i64 a ∧ (len ≤ j → a = (j - len) / 12))
        case first =>
          by_cases hjl : j < len
          · obtain ⟨b, off, rfl, hcl⟩ := HZ.out.ints (by have := HLEN.out; omega)
            have hcell : wr.cell? ⟨b, off + j, none⟩ = some (.int .i64 (zs.getD j 0)) := OWr.out.O.keepCell (hcl j (by have := HLEN.out; omega)) (by simp)
            obtain ⟨z, hz⟩ : ∃ z, z = zs.getD j 0 := ⟨_, rfl⟩
            rw [← hz] at hcell
            clear hz hcl
            obtain ⟨a, hda⟩ : ∃ a : Nat, drw z na = a := ⟨(drw z na).toNat, by have := (drw_bd z na).1; omega⟩
            have han : a < na := by have := (drw_bd z na).2 (by omega); omega
            have RD := Lib.hid (refDraw_any na z wr (by omega))
            rw [hda] at RD
            clear hda
            go_wp2_with fail
            refine RD.out.mono ?_; rintro e y0 ⟨rfl, rfl⟩
            go_wp2_with fail
            go_meet
            exact ⟨rfl, a, han, rfl, fun h => by omega⟩
          · have hjl2 : len ≤ j := by omega
            obtain ⟨a, hda⟩ : ∃ a : Nat, (j - len) / 12 = a := ⟨_, rfl⟩
            have han : a < na := by omega
            have hq1 : ((j : Int) - (len : Int)) / 12 = (a : Int) := by omega
            have hq2 : ((j : Int) - (len : Int)).tdiv 12 = (a : Int) := by rw [Int.tdiv_eq_ediv_of_nonneg (by omega)]; exact hq1
            have hjl3 : ¬ ((j : Int) < (len : Int)) := by omega
            have HDA := Lib.hid hda
            clear hda
            go_wp2_with fail
            go_meet
            exact ⟨rfl, a, han, by first | rfl | rw [hq2] | rw [hq1], fun _ => HDA.out.symm⟩
        case rest =>
          obtain ⟨e, a, han, rfl, haj⟩ := hcut
          subst e
          have HAJ := Lib.hid haj
          clear haj
          go_upto_region 18 with fail
          go_cut [93] (fun s93 wx => wx = wc ∧ s93 = .bool (ms a).isNone)
          case first =>
            have cx := OWr.out.cX han
            cases hms : ms a with
            | none =>
              rw [xv_none hms] at cx
              have HMS := Lib.hid hms
              clear hms
              go_wp2_with fail
              go_meet
              exact ⟨rfl, by rw [HMS.out]; rfl⟩
            | some k0 =>
              rw [xv_some hms] at cx
              have n1 := ifc_nil k0.kind (ps a)
              unfold ifc at n1 cx
              have HMS := Lib.hid hms
              clear hms
              go_wp2_with fail
              go_meet
              exact ⟨rfl, by rw [HMS.out]; rfl⟩
          case rest =>
            obtain ⟨e, rfl⟩ := hcut
            subst e
            obtain ⟨bv, hbv⟩ : ∃ bv, bv = (ms a).isNone := ⟨_, rfl⟩
            rw [← hbv]
            have HBV := Lib.hid hbv
            clear hbv
            go_upto_if 93 with fail
            go_cut [] (fun wx => OnceMid w B en m bc ck xb db pb tb qb na N c t0 len j a wx)
            case first =>
              cases bv with
              | false =>
                go_wp2_with fail
                go_meet
                obtain ⟨k, hk⟩ : ∃ k, ms a = some k := by
                  have := HBV.out
                  cases e : ms a with
                  | none => rw [e] at this; cases this
                  | some k => exact ⟨k, rfl⟩
                refine ⟨ms, ps, doing, pushed, taken, s, t, L, res, k, hk, OWr.out, ?_, hcn, fun h => ⟨HAJ.out h, OFr.out h⟩⟩
                rcases Nat.lt_or_ge j len with h | h
                · rw [show min (j + 1) len = j + 1 from by omega]
                  have := ONr.out
                  rw [show min j len = j from by omega] at this
                  exact this.next
                · rw [show min (j + 1) len = min j len from by omega]
                  exact ONr.out
              | true =>
                have HMS : Hid (ms a = none) := Lib.hid (by have := HBV.out; simpa using this.symm)
                by_cases hjl : j < len
                · obtain ⟨b, off, rfl, hcl⟩ := HZ.out.ints (by have := HLEN.out; omega)
                  have HBW : Hid (b < w.heap.size) := Lib.hid (lt_of_cell (hcl j (by have := HLEN.out; omega)))
                  have hcell : wc.cell? ⟨b, off + j, none⟩ = some (.int .i64 (zs.getD j 0)) := OWr.out.O.keepCell (hcl j (by have := HLEN.out; omega)) (by simp)
                  obtain ⟨z, hz⟩ : ∃ z, z = zs.getD j 0 := ⟨_, rfl⟩
                  have HZ2 : Hid (-9223372036854775808 ≤ z ∧ z ≤ 9223372036854775807) := Lib.hid (by
                    have hm : zs.getD j 0 ∈ zs := by
                      have := HLEN.out
                      rw [List.getD_eq_getElem?_getD, List.getElem?_eq_getElem (by omega)]
                      exact List.getElem_mem _
                    rw [hz]
                    exact wf_i64 (HWZ.out _ hm))
                  rw [← hz] at hcell
                  clear hz hcl
                  have fd := OWr.out.fD a
                  have cd := OWr.out.cD han
                  go_wp2_with fail
                  obtain ⟨w1, hw1⟩ : ∃ w1, w1 = wc.setCell ⟨db, a, none⟩ (.int .i64 (-1)) := ⟨_, rfl⟩
                  rw [← hw1]
                  have OW1 := Lib.hid (hw1 ▸ OWr.out.setD (a := a) OD'.out (-1))
                  have g0 := cell_blk OW1.out.Q 0
                  have g1 := cell_blk OW1.out.Q 1
                  have g2 := cell_blk OW1.out.Q 2
                  have g3 := cell_blk OW1.out.Q 3
                  simp at g0 g1 g2 g3
                  have hcell1 : w1.cell? ⟨b, off + j, none⟩ = some (.int .i64 z) := by rw [hw1]; exact ((Only.refl [db] wc).setCell (by simp) _).keepCell hcell (by have := OD'.out.d1; have := OD'.out.l3; have := HBW.out; simp; omega)
                  obtain ⟨q, hq⟩ : ∃ q, z.tdiv na = q := ⟨_, rfl⟩
                  have hq2 := tdiv_wrap HZ2.out (show 2 ≤ (na : Int) by omega)
                  rw [hq] at hq2
                  obtain ⟨hq3, hq4⟩ := hq2
                  have NX := fun wv => Lib.hid (next_any wv c a q j)
                  obtain ⟨kn, hkn⟩ : ∃ kn, nextK (q0 c) a q j = kn := ⟨_, rfl⟩
                  rw [hkn] at NX
                  have HKN := Lib.hid hkn
                  have HW1 := Lib.hid hw1
                  clear hkn fd cd hw1 hcell
                  have hai : (a : Int) < (na : Int) := by omega
                  have hq0 : ((na : Int) == 0) = false := by simp; omega
                  have hq00 : ¬ (na : Int) = 0 := by omega
                  have hq01 : ¬ na = 0 := by omega
                  go_region_held3 (fun w' => w'.cell? ⟨qb, 0, none⟩ = some (.int .i64 0) ∧ w'.cell? ⟨qb, 1, none⟩ = some (.int .i64 1) ∧ w'.cell? ⟨qb, 2, none⟩ = some (.int .i64 2) ∧ w'.cell? ⟨qb, 3, none⟩ = some (.int .i64 c) ∧ w'.cell? ⟨b, off + j, none⟩ = some (.int .i64 z))
                    (first | exact ⟨g0, g1, g2, g3, hcell1⟩ | exact ⟨k0, k1, k2, k3, hcell2⟩ | exact ⟨m0, m1, m2, m3, hcell3⟩)
                    ((go_at_call 30; refine (NX _).out.mono ?_; rintro e v1 ⟨p1, rfl, a1, b1, c1, d1⟩
                      simp only [ifc]
                      have A1 := Lib.hid a1.undrew
                      have OWv := Lib.hid (OW1.out.keep0 A1.out)
                      have BB1 := Lib.hid b1
                      have C1 : w1.heap.size ≤ p1 := c1
                      have hcell2 := A1.out.keepCell hcell1 (by simp)
                      have k0 := A1.out.keepCell g0 (by simp)
                      have k1 := A1.out.keepCell g1 (by simp)
                      have k2 := A1.out.keepCell g2 (by simp)
                      have k3 := A1.out.keepCell g3 (by simp)
                      have cx2 := OWv.out.cX han
                      have fx2 := OWv.out.fX a
                      rw [xv_none HMS.out] at cx2
                      have OX : Hid (Only [xb] v1 (v1.setCell ⟨xb, a, none⟩ (.iface (machT kn.kind) (.pointer (some ⟨p1, 0, none⟩))))) := Lib.hid ((Only.refl _ _).setCell (by simp) _)
                      have qx := OD'.out.e5
                      have qx1 := OD'.out.x1
                      have hcell3 := OX.out.keepCell hcell2 (by have := OD'.out.x1; have := OD'.out.l3; have := HBW.out; simp; omega)
                      have m0 := OX.out.keepCell k0 (by simp; omega)
                      have m1 := OX.out.keepCell k1 (by simp; omega)
                      have m2 := OX.out.keepCell k2 (by simp; omega)
                      have m3 := OX.out.keepCell k3 (by simp; omega)
                      clear a1 b1 qx qx1))
                  have OW2 : Hid (OW w B en m bc ck xb db pb tb qb na N c (upd ms a (some kn)) (upd ps a p1) (upd doing a (-1)) pushed taken s (v1.setCell ⟨xb, a, none⟩ (.iface (machT kn.kind) (.pointer (some ⟨p1, 0, none⟩))))) := Lib.hid (OWv.out.begin OD'.out BB1.out (by have := OW1.out.sz; omega) (OW1.out.fresh C1))
                  obtain ⟨w2, hw2⟩ : ∃ w2, w2 = v1.setCell ⟨xb, a, none⟩ (.iface (machT kn.kind) (.pointer (some ⟨p1, 0, none⟩))) := ⟨_, rfl⟩
                  rw [← hw2] at OW2 hcell3 ⊢
                  have cd2 := OW2.out.cD han
                  have fd2 := OW2.out.fD a
                  have hmin : min j len = j := by omega
                  have hmin1 : min (j + 1) len = j + 1 := by omega
                  have ON1 := ONr.out
                  rw [hmin] at ON1
                  have ON2 := Lib.hid ON1
                  have HMIN := Lib.hid hmin1
                  clear hmin hmin1 ON1 g0 g1 g2 g3 k0 k1 k2 k3 m0 m1 m2 m3 hcell1 hcell2 cx2 fx2 hw2 c1 d1
                  rcases Nat.eq_zero_or_pos a with ha | ha
                  · by_cases hqe : q.tmod 2 = 0
                    · have hb0 : ((a : Int) == 0) = true := by simp; omega
                      have hb1 : ((q.tmod 2) == 0) = true := by simpa using hqe
                      have HE : Hid (kn = newPush (q0 c) j) := Lib.hid (by rw [← HKN.out]; unfold nextK; rw [if_neg (by omega), if_pos hqe])
                      have HA := Lib.hid ha
                      clear hqe ha
                      go_wp2_with fail
                      go_meet
                      refine ⟨_, _, _, pushed, taken, s, t, L, res, kn, upd_same _ _ _, upd_upd doing a (-1) j ▸ OW2.out.setD OD'.out (j : Int), ?_, hcn, fun h => by omega⟩
                      rw [HMIN.out, HE.out, HA.out]
                      exact ON2.out.beginPush (HA.out ▸ HMS.out)
                    · have hb0 : ((a : Int) == 0) = true := by simp; omega
                      have hb1 : ((q.tmod 2) == 0) = false := by simpa using hqe
                      have HE : Hid (kn = newPop (q0 c)) := Lib.hid (by rw [← HKN.out]; unfold nextK; rw [if_neg (by omega), if_neg hqe])
                      have HA := Lib.hid ha
                      clear hqe ha
                      go_wp2_with fail
                      go_meet
                      refine ⟨_, _, _, pushed, taken, s, t, L, res, kn, upd_same _ _ _, OW2.out, ?_, hcn, fun h => by omega⟩
                      rw [HMIN.out, HE.out, HA.out]
                      exact ON2.out.beginPop (HA.out ▸ HMS.out)
                  · have hb0 : ((a : Int) == 0) = false := by simp; omega
                    have HE : Hid (kn = newSteal (q0 c)) := Lib.hid (by rw [← HKN.out]; unfold nextK; rw [if_pos ha])
                    go_wp2_with fail
                    go_meet
                    refine ⟨_, _, _, pushed, taken, s, t, L, res, kn, upd_same _ _ _, OW2.out, ?_, hcn, fun h => by omega⟩
                    rw [HMIN.out, HE.out]
                    exact ON2.out.beginSteal ha (-1)
                · have hjl2 : decide (len ≤ j) = true := by simp; omega
                  have hjl3 : (len : Int) ≤ (j : Int) := by omega
                  go_wp2_with fail
                  go_roundw
                  case rel =>
                    refine ⟨j + 1, by omega, by go_num, ms, ps, doing, pushed, taken, s, t, L, res, OWr.out, ?_, by omega, fun _ => ?_⟩
                    · have := ONr.out
                      rw [show min j len = min (j + 1) len from by omega] at this
                      exact { this with tb := by have := this.tb; omega }
                    · rw [show j + 1 - len = j - len + 1 from by omega]
                      exact OF.skip ONr.out (OFr.out (by omega)) (by rw [← HAJ.out (by omega)]; exact HMS.out)
                  case measure => simp [intOf]; omega
            case rest =>
              obtain ⟨ms, ps, doing, pushed, taken, s, t, L, res, k, hk, hOW, hON, hcn, hOF⟩ := hcut
              obtain ⟨hko, hkk⟩ := hON.live hk
              have OWm := Lib.hid hOW
              have ONm := Lib.hid hON
              have HK := Lib.hid hk
              have HOF := Lib.hid hOF
              have KOK := Lib.hid (hON.kok a k hk)
              have SOK2 := Lib.hid hON.sok
              have CNT := Lib.hid (stepK_count k s)
              have SAME := Lib.hid (stepK_same k s).1
              have HLN : Hid ((stepK k s).1.over = false → k.line < (stepK k s).1.line) := Lib.hid (fun h => by
                rcases stepK_line (s := s) hko (hON.kok a k hk).line.1 with e | e
                · rw [h] at e; cases e
                · exact e.1)
              have ST := Lib.hid (mach_step wc (ps a) en m bc k s (by omega) (fun _ => KOK.out) (hOW.apart OD'.out han hk).1 hOW.E.mem (hOW.M a k han hk).2 hOW.E.mm (by omega))
              have cx := hOW.cX han
              rw [xv_some hk] at cx
              have STEP := Lib.hid (hON.step hk (by omega) (by omega) (by omega))
              obtain ⟨kd, hkd⟩ : ∃ kd, kd = k.kind := ⟨_, rfl⟩
              rw [← hkd] at cx ST
              have n1 := ifc_nil kd (ps a)
              have n2 := step_ahead kd (ps a)
              have n3 := step_method kd (ps a)
              have n4 := result_ahead kd (ps a)
              have n5 := result_method kd (ps a)
              have n6 := step_enter kd
              obtain ⟨T, hT⟩ : ∃ T, T = machT kd := ⟨_, rfl⟩
              obtain ⟨F, hF⟩ : ∃ F, F = machS kd := ⟨_, rfl⟩
              unfold ifc at n1 cx
              rw [← hT] at n1 n2 n3 n4 n5 cx
              rw [← hF] at n3 n6 ST
              obtain ⟨k', hk'⟩ : ∃ k', k' = (stepK k s).1 := ⟨_, rfl⟩
              obtain ⟨s', hs'⟩ : ∃ s', s' = (stepK k s).2 := ⟨_, rfl⟩
              have ST2 : Hid (Calls Try.prog F #[.pointer (some ⟨ps a, 0, none⟩), .pointer (some ⟨en, 0, none⟩)] wc fun e w' => e = .returned (.bool k'.over) ∧ Only [ps a, m, bc] wc w' ∧ w'.heap[ps a]? = some (machO k') ∧ MemAt w' m bc s') := Lib.hid (by rw [hk', hs']; exact ST.out)
              have HXV : Hid (xv (upd ms a (some k')) ps a = .iface T (.pointer (some ⟨ps a, 0, none⟩))) := Lib.hid (by rw [xv_some (upd_same _ _ _), hk', SAME.out]; unfold ifc; rw [hT, hkd])
              have SAME2 : Hid (k'.kind = k.kind) := Lib.hid (by rw [hk']; exact SAME.out)
              rw [← hk', ← hs'] at STEP
              rw [← hk'] at HLN
              rw [← hs'] at CNT
              have CNT2 := CNT.out.2
              clear hk hOW hON hOF hko hkk hkd hT hF ST SAME hk' hs' CNT
              rcases STEP.out with ⟨ho, t', L', res', hN⟩ | ⟨ho, h0, h1, t', L', res', hN⟩ | ⟨ho, h0, p, hdp', hpi, t', L', res', hN⟩ | ⟨ho, h1, p, hv, hpi, htp, t', L', res', hN⟩
              · as_aux_lemma =>
                  have HN := Lib.hid hN
                  clear hN
                  rw [ho] at ST2
                  go_wp2_with fail
                  refine ST2.out.mono ?_; rintro e w5 ⟨rfl, o5, h5, m5⟩
                  have OW5 := Lib.hid (OWm.out.stepped OD'.out han HK.out o5 h5 SAME2.out m5)
                  obtain ⟨cc0, cc1, cc2⟩ := mach_cells h5
                  clear o5 h5 m5 cx n1
                  go_wp2_with fail
                  go_roundw
                  case rel =>
                    have hN2 := HN.out
                    exact ⟨j + 1, by omega, by go_num, _, _, _, _, _, s', t', L', res', OW5.out, hN2, by omega, fun h => (by
                      rcases Nat.lt_or_ge j len with hjl | hjl2
                      · rw [show j + 1 - len = 0 from by omega]; exact hN2.of
                      · rw [show j + 1 - len = j - len + 1 from by omega]
                        obtain ⟨e1, e2⟩ := HOF.out hjl2
                        subst e1
                        exact OF.more e2 HK.out (HLN.out ho) hN2)⟩
                  case measure => simp [intOf]; omega
              · as_aux_lemma =>
                  have HN := Lib.hid hN
                  clear hN
                  rw [ho] at ST2
                  obtain ⟨cv, hcv⟩ : ∃ cv, cv = k'.code := ⟨_, rfl⟩
                  have hz0 : (cv == 0) = false := by rw [hcv]; simpa using h0
                  have hz1 : (cv == 1) = false := by rw [hcv]; simpa using h1
                  clear h0 h1
                  go_wp2_with fail
                  refine ST2.out.mono ?_; rintro e w5 ⟨rfl, o5, h5, m5⟩
                  have OW5 := Lib.hid (OWm.out.stepped OD'.out han HK.out o5 h5 SAME2.out m5)
                  obtain ⟨cc0, cc1, cc2⟩ := mach_cells h5
                  clear o5 h5 m5 cx n1
                  have RA := fun wv => Lib.hid (fun h1 h2 => result_any wv (ps a) k'.code k'.val h1 h2)
                  have cx5 := OW5.out.cX han
                  rw [HXV.out] at cx5
                  rw [← hcv] at cc1 RA
                  clear hcv
                  go_wp2_with fail
                  refine (RA _).out cc1 cc2 |>.mono ?_; rintro e w6 ⟨rfl, o6⟩
                  have OW6 := Lib.hid (OW5.out.keep0 o6)
                  have cx6 := OW6.out.cX han
                  have fx6 := OW6.out.fX a
                  have cd6 := OW6.out.cD han
                  have e1' := OD'.out.xd
                  have e2' := OD'.out.xp
                  have e3' := OD'.out.xt
                  have e1'' := OD'.out.xd.symm
                  have e2'' := OD'.out.xp.symm
                  have e3'' := OD'.out.xt.symm
                  have HCX : Hid (upd (upd ms a (some k')) a none = upd ms a none) := Lib.hid (upd_upd _ _ _ _)
                  clear o6 cc0 cc1 cc2 RA cx5
                  go_wp2_with fail
                  go_roundw
                  case rel =>
                    have hN2 := HN.out
                    exact ⟨j + 1, by omega, by go_num, _, _, _, _, _, s', t', L', res', HCX.out ▸ OW6.out.drop OD'.out, hN2, by omega, fun h => (by
                      rcases Nat.lt_or_ge j len with hjl | hjl2
                      · rw [show j + 1 - len = 0 from by omega]; exact hN2.of
                      · rw [show j + 1 - len = j - len + 1 from by omega]
                        obtain ⟨e1, e2⟩ := HOF.out hjl2
                        subst e1
                        exact OF.done e2 hN2)⟩
                  case measure => simp [intOf]; omega
              · as_aux_lemma =>
                  have HN := Lib.hid hN
                  clear hN
                  rw [ho] at ST2
                  go_wp2_with fail
                  refine ST2.out.mono ?_; rintro e w5 ⟨rfl, o5, h5, m5⟩
                  have OW5 := Lib.hid (OWm.out.stepped OD'.out han HK.out o5 h5 SAME2.out m5)
                  obtain ⟨cc0, cc1, cc2⟩ := mach_cells h5
                  clear o5 h5 m5 cx n1
                  have hpN : p < N := by have := HNL.out; omega
                  have RA := fun wv => Lib.hid (fun h1 h2 => result_any wv (ps a) k'.code k'.val h1 h2)
                  have cx5 := OW5.out.cX han
                  rw [HXV.out] at cx5
                  rw [h0] at cc1 RA
                  clear h0
                  go_wp2_with fail
                  refine (RA _).out cc1 cc2 |>.mono ?_; rintro e w6 ⟨rfl, o6⟩
                  have OW6 := Lib.hid (OW5.out.keep0 o6)
                  have cx6 := OW6.out.cX han
                  have fx6 := OW6.out.fX a
                  have cd6 := OW6.out.cD han
                  have e1' := OD'.out.xd
                  have e2' := OD'.out.xp
                  have e3' := OD'.out.xt
                  have e1'' := OD'.out.xd.symm
                  have e2'' := OD'.out.xp.symm
                  have e3'' := OD'.out.xt.symm
                  have HCX : Hid (upd (upd ms a (some k')) a none = upd ms a none) := Lib.hid (upd_upd _ _ _ _)
                  clear o6 cc0 cc1 cc2 RA cx5
                  rw [hdp'] at cd6
                  have cp6 := OW6.out.cP hpN
                  have fp6 := OW6.out.fP p
                  have hp0 : 0 ≤ (p : Int) := by omega
                  clear hdp'
                  go_wp2_with fail
                  go_roundw
                  case rel =>
                    have hN2 := HN.out
                    exact ⟨j + 1, by omega, by go_num, _, _, _, _, _, s', t', L', res', HCX.out ▸ (OW6.out.drop OD'.out).setP OD'.out true, hN2, by omega, fun h => (by
                      rcases Nat.lt_or_ge j len with hjl | hjl2
                      · rw [show j + 1 - len = 0 from by omega]; exact hN2.of
                      · rw [show j + 1 - len = j - len + 1 from by omega]
                        obtain ⟨e1, e2⟩ := HOF.out hjl2
                        subst e1
                        exact OF.done e2 hN2)⟩
                  case measure => simp [intOf]; omega
              · as_aux_lemma =>
                  have HN := Lib.hid hN
                  clear hN
                  rw [ho] at ST2
                  go_wp2_with fail
                  refine ST2.out.mono ?_; rintro e w5 ⟨rfl, o5, h5, m5⟩
                  have OW5 := Lib.hid (OWm.out.stepped OD'.out han HK.out o5 h5 SAME2.out m5)
                  obtain ⟨cc0, cc1, cc2⟩ := mach_cells h5
                  clear o5 h5 m5 cx n1
                  have hpN : p < N := by have := HNL.out; omega
                  have RA := fun wv => Lib.hid (fun h1 h2 => result_any wv (ps a) k'.code k'.val h1 h2)
                  have cx5 := OW5.out.cX han
                  rw [HXV.out] at cx5
                  rw [h1] at cc1 RA
                  rw [hv] at cc2 RA
                  clear h1 hv
                  go_wp2_with fail
                  refine (RA _).out cc1 cc2 |>.mono ?_; rintro e w6 ⟨rfl, o6⟩
                  have OW6 := Lib.hid (OW5.out.keep0 o6)
                  have cx6 := OW6.out.cX han
                  have fx6 := OW6.out.fX a
                  have cd6 := OW6.out.cD han
                  have e1' := OD'.out.xd
                  have e2' := OD'.out.xp
                  have e3' := OD'.out.xt
                  have e1'' := OD'.out.xd.symm
                  have e2'' := OD'.out.xp.symm
                  have e3'' := OD'.out.xt.symm
                  have HCX : Hid (upd (upd ms a (some k')) a none = upd ms a none) := Lib.hid (upd_upd _ _ _ _)
                  clear o6 cc0 cc1 cc2 RA cx5
                  have ct6 := OW6.out.cT hpN
                  have ft6 := OW6.out.fT p
                  rw [htp] at ct6
                  have hpp : ¬ ((N : Int) ≤ (p : Int)) := by omega
                  have hpp2 : decide (N ≤ p) = false := by simp; omega
                  have hp0 : ¬ ((p : Int) < 0) := by omega
                  clear htp
                  go_wp2_with fail
                  go_roundw
                  case rel =>
                    have hN2 := HN.out
                    exact ⟨j + 1, by omega, by go_num, _, _, _, _, _, s', t', L', res', HCX.out ▸ (OW6.out.drop OD'.out).setT OD'.out 1, hN2, by omega, fun h => (by
                      rcases Nat.lt_or_ge j len with hjl | hjl2
                      · rw [show j + 1 - len = 0 from by omega]; exact hN2.of
                      · rw [show j + 1 - len = j - len + 1 from by omega]
                        obtain ⟨e1, e2⟩ := HOF.out hjl2
                        subst e1
                        exact OF.done e2 hN2)⟩
                  case measure => simp [intOf]; omega
      · as_aux_lemma =>
          obtain rfl : j = len + na * 12 := by omega
          obtain ⟨ms, ps, doing, pushed, taken, s, t, L, res, hOW, hON, hcn, hOF⟩ := HR.out
          have h0 : ms 0 = none := (hOF (by omega)).before 0 (by omega)
          have hfin : sz (s.at 1) (s.at 0) = leftN pushed taken N := hON.fin h0 (by have := HNL.out; omega)
          have OWr := Lib.hid hOW
          have TK := Lib.hid hON.tk
          have SZ := fun wv => Lib.hid (show Calls Try.prog 21 #[.int .u64 (s.at 1), .int .u64 (s.at 0)] wv fun e w' => e = .returned (.int .i64 (leftN pushed taken N)) ∧ w' = wv from by rw [← hfin]; exact (rsize_any wv _ _).mono fun _ _ h => ⟨h.1, h.2.symm⟩)
          have e22 := hOW.E.mem
          have PK := fun q c => Lib.hid ((peek_any (wr.drewN q) m bc s c hOW.E.mm).mono fun _ _ h => (⟨h.1, h.2.symm⟩ : _ ∧ _ = wr.drewN q))
          have OO := Lib.hid hOW.O
          have hlt3 : ¬ ((len : Int) + (na : Int) * 12 < (len : Int) + (na : Int) * 12) := by omega
          clear hOW hON hcn hOF h0 hfin hj hlt
          go_wp2_with fail
          go_loop [23, 24] (fun cv i => ∃ k : Nat, k ≤ N ∧ i = .int .i64 k ∧ cv = .int .i64 (leftN pushed taken k)) (fun _ i => N - (intOf i).toNat)
          case atStart => exact ⟨0, Nat.zero_le _, rfl, rfl⟩
          case round =>
            obtain ⟨k, hk, rfl, rfl⟩ := hrel
            have hle := leftN_le pushed taken k
            by_cases hlt : k < N
            · have cT := OWr.out.cT hlt
              have cP := OWr.out.cP hlt
              obtain ⟨l, hl⟩ : ∃ l, l = leftN pushed taken k := ⟨_, rfl⟩
              rw [← hl] at hle ⊢
              have HL : Hid (∀ x : Nat, (x = if pushed k = true ∧ taken k = 0 then 1 else 0) → leftN pushed taken (k + 1) = l + x) := Lib.hid (fun x hx => by rw [hl, hx]; rfl)
              rcases TK.out k with h1 | ⟨h1, h2⟩
              · cases h2 : pushed k with
                | true =>
                  have HL2 := Lib.hid (HL.out 1 (by rw [if_pos ⟨h2, h1⟩]))
                  rw [h1] at cT
                  rw [h2] at cP
                  clear h1 h2 hl
                  go_wp2_with fail
                  go_round
                  case rel => exact ⟨k + 1, by omega, by go_num, by rw [HL2.out]; go_num⟩
                  case measure => simp [intOf]; omega
                | false =>
                  have HL2 := Lib.hid (HL.out 0 (by rw [if_neg (by rw [h2]; simp)]))
                  rw [h1] at cT
                  rw [h2] at cP
                  clear h1 h2 hl
                  go_wp2_with fail
                  go_round
                  case rel => exact ⟨k + 1, by omega, by go_num, by rw [HL2.out]; rfl⟩
                  case measure => simp [intOf]; omega
              · have HL2 := Lib.hid (HL.out 0 (by rw [if_neg (by rw [h1]; simp)]))
                rw [h1] at cT
                rw [h2] at cP
                clear h1 h2 hl
                go_wp2_with fail
                go_round
                case rel => exact ⟨k + 1, by omega, by go_num, by rw [HL2.out]; rfl⟩
                case measure => simp [intOf]; omega
            · obtain rfl : k = N := by omega
              go_wp2_with fail
              go_quiet ((first | (go_at_call 22; exact Calls.quiet_of_same (PK _ _).out) | (go_at_call 21; exact Calls.quiet_of_same (SZ _).out)))
              go_wp2_with fail
              go_ret
              exact ⟨rfl, OO.out.drewN _⟩

set_option maxRecDepth 100000 in
theorem ThiefOnce_any (w : World) (n : Int) (wn : (Lit.int .u8 n).wf = true) (th : Int) (wt : (Lit.int .u8 th).wf = true) (first : Int) (wf : (Lit.int .u64 first).wf = true) (zs : List Int) (v : Value) (hv : Ns w v zs) (wz : ∀ z ∈ zs, (Lit.int .i64 z).wf = true) (hl : zs.length ≤ 9223372036854775807) :
    Calls Try.prog 7 #[.int .u8 n, .int .u8 th, .int .u64 first, v] w fun e w' => e = .returned (.bool true) ∧ Only [] w w' := by
  obtain ⟨ao, cap, rfl, h1, h2, h3⟩ := hv
  by_cases h : zs.length ≤ 400
  · exact ThiefOnce_small w n th first (wf_u8 wn) (wf_u8 wt) (wf_u64 wf) ao _ cap zs h1 wz rfl h
  · have h4 : 400 < zs.length := by omega
    generalize zs.length = len at *
    clear h1 h2 h3 wz h
    go_enter Try.func7, Try.ntmps7
    go_wp2_with fail
    go_ret
    exact ⟨rfl, Only.refl _ _⟩
end Go.Proofs.Ytnjddpijlgjgeaa
