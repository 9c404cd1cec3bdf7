/- Match, walked: a machine of the program and one of the reference agree in every step. -/
import Derived.Test.YtlklfpbimoolbaaGreatMatchP
namespace Go.Proofs.YtlklfpbimoolbaaGreat
open Go.RowKit
set_option linter.unusedVariables false

/-- All blocks are there already. -/
structure Old (w : World) (y fb en m bc ck r rc : Nat) : Prop where
  l1 : en < w.heap.size
  l2 : m < w.heap.size
  l3 : bc < w.heap.size
  l4 : ck < w.heap.size
  l5 : r < w.heap.size
  l6 : rc < w.heap.size
  l7 : y < w.heap.size
  l8 : fb < w.heap.size
theorem Old.keep {S : List Nat} {w w' : World} {y fb en m bc ck r rc : Nat} (h : Old w y fb en m bc ck r rc) (o : Only S w w') : Old w' y fb en m bc ck r rc := by
  have s := o.size
  obtain ⟨h1, h2, h3, h4, h5, h6, h7, h8⟩ := h
  exact ⟨by omega, by omega, by omega, by omega, by omega, by omega, by omega, by omega⟩

/-- What stands at the beginning of a round. -/
structure MatRd (w : World) (en m bc ck r rc y fb kd len : Nat) (S : List Nat) (p j : Nat) (k : K) (s : MS) (now : Int) (wr : World) : Prop where
  i : MatIn wr p y fb en m bc ck r rc k s now
  kk : k.kind = kd
  ov : k.over = false
  ok : k.ok
  z : k.code = 0 ∧ k.val = 0
  sok : s.ok
  sl : s.cells.length = len
  sc : s.count ≤ 1000 + 2 * j
  n0 : 0 ≤ now
  n1 : now ≤ j
  o : Only S w wr
  pS : p ∈ S ∨ w.heap.size ≤ p

theorem MatIn.ny {w : World} {p y fb en m bc ck r rc : Nat} {k : K} {s : MS} {now : Int} (h : MatIn w p y fb en m bc ck r rc k s now) : y ∉ [p, m, bc] := by
  have h1 := h.fr.pr.2.2.1
  have h2 := h.fr.ya.2.1
  have h3 := h.fr.ya.2.2.1
  simp; omega
theorem MatIn.nf {w : World} {p y fb en m bc ck r rc : Nat} {k : K} {s : MS} {now : Int} (h : MatIn w p y fb en m bc ck r rc k s now) : fb ∉ [p, m, bc] := by
  have h1 := h.fr.pr.2.2.2
  have h2 := h.fr.fa.2.1
  have h3 := h.fr.fa.2.2.1
  simp; omega
theorem MatIn.nr {w : World} {p y fb en m bc ck r rc : Nat} {k : K} {s : MS} {now : Int} (h : MatIn w p y fb en m bc ck r rc k s now) : r ∉ [p, m, bc] := by
  have h1 := h.fr.pr.1
  have h2 := h.b.d2.1
  have h3 := h.b.d3.1
  simp; omega
theorem MatIn.nrc {w : World} {p y fb en m bc ck r rc : Nat} {k : K} {s : MS} {now : Int} (h : MatIn w p y fb en m bc ck r rc k s now) : rc ∉ [p, m, bc] := by
  have h1 := h.fr.pr.2.1
  have h2 := h.b.d2.2
  have h3 := h.b.d3.2
  simp; omega
theorem MatRd.sub {w wr wa : World} {en m bc ck r rc y fb kd len p q j : Nat} {k : K} {s : MS} {now : Int} (h : MatRd w en m bc ck r rc y fb kd len [p, m, bc, ck, y, fb, r, rc] q j k s now wr) (o : Only [p, m, bc, ck, y, fb, r, rc] w wa) :
    ∀ t ∈ [q, m, bc], t ∈ [p, m, bc, ck, y, fb, r, rc] ∨ w.heap.size ≤ t := by
  intro t ht
  simp only [List.mem_cons, List.not_mem_nil, or_false] at ht
  rcases ht with rfl | rfl | rfl
  · exact h.pS
  · exact .inl (by simp)
  · exact .inl (by simp)

theorem MatRd.copied {w wr wa : World} {en m bc ck r rc y fb kd len p q q2 j : Nat} {k : K} {s : MS} {now : Int} (h : MatRd w en m bc ck r rc y fb kd len [p, m, bc, ck, y, fb, r, rc] q j k s now wr) (hO : Old w y fb en m bc ck r rc) (o : Only [] wr wa) (hq : wa.heap[q2]? = some (machO k)) (hn : wr.heap.size ≤ q2) :
    MatRd w en m bc ck r rc y fb kd len [p, m, bc, ck, y, fb, r, rc] q2 j k s now wa := by
  have O := hO.keep h.o
  exact ⟨h.i.copy o hq hn O.l1 O.l2 O.l3 O.l4 O.l5 O.l6 O.l7 O.l8, h.kk, h.ov, h.ok, h.z, h.sok, h.sl, h.sc, h.n0, h.n1, h.o.then0 o, .inr (Nat.le_trans h.o.size hn)⟩

theorem REnvAt.now {w : World} {r rc : Nat} {s : MS} {now : Int} (h : REnvAt w r rc s now) : w.cell? ⟨r, 17, none⟩ = some (.int .i64 now) ∧ w.frozen? ⟨r, 17, none⟩ = false := by
  obtain ⟨v, h1, h2, h3, h4⟩ := h
  have c17 := cell_blk h1 17
  simp [cfg0, renvPost] at c17
  exact ⟨c17, free_blk h1 17⟩

set_option maxRecDepth 100000 in
set_option maxHeartbeats 16000000 in
theorem match_any (w : World) (en m bc ck r rc p y fb : Nat) (k : K) (s : MS) (ao : Option Addr) (cap : Nat) (zs : List Int) (most : Nat) (z1 : CellsAt w ao (zs.map (.int .i64))) (z3 : zs.length ≤ cap) (zn : ∀ a, ao = some a → 0 < zs.length → a.block ∉ [p, m, bc, ck, y, fb, r, rc]) (hzl : zs.length ≤ 1000000) (hm : most ≤ 100) (hk : k.kind ≤ 4) (ho : k.over = false) (hok : k.ok) (h0 : k.code = 0 ∧ k.val = 0) (hs : s.ok) (hc : s.count ≤ 1000) (hl : s.cells.length ≤ 1000)
    (hI : MatIn w p y fb en m bc ck r rc k s 0) (hO : Old w y fb en m bc ck r rc) (hp : p < w.heap.size) :
    Calls Tryz.prog 16 #[.pointer (some ⟨en, 0, none⟩), .pointer (some ⟨r, 0, none⟩), ifc k.kind p, .pointer (some ⟨y, 0, none⟩), .slice ao zs.length cap, .int .i64 most] w fun e w' => e = .returned (.bool true) ∧ Only [p, m, bc, ck, y, fb, r, rc] w w' := by
  obtain ⟨kd, hkd⟩ : ∃ kd, kd = k.kind := ⟨_, rfl⟩
  rw [← hkd]
  have n1 := ifc_nil kd
  have n2 := step_ahead kd
  have n3 := step_method kd
  have n4 := result_ahead kd
  have n5 := result_method kd
  have n6 := step_enter kd
  have n7 := copy_ahead kd
  have n8 := copy_method kd
  have n9 := copy_enter kd
  obtain ⟨T, hT⟩ : ∃ T, T = machT kd := ⟨_, rfl⟩
  obtain ⟨F, hF⟩ : ∃ F, F = machS kd := ⟨_, rfl⟩
  obtain ⟨C, hC⟩ : ∃ C, C = machC kd := ⟨_, rfl⟩
  unfold ifc at n1 ⊢
  rw [← hT] at n1 n2 n3 n4 n5 n7 n8 ⊢
  rw [← hF] at n3 n6
  rw [← hC] at n8 n9
  obtain ⟨len, hlen⟩ : ∃ len, len = zs.length := ⟨_, rfl⟩
  rw [← hlen] at z3 hzl ⊢
  have Z1 := Lib.hid z1
  have ZN := Lib.hid zn
  have HLEN := Lib.hid hlen
  have HKD := Lib.hid hkd
  have HT := Lib.hid hT
  have HF := Lib.hid hF
  have HC := Lib.hid hC
  have e22 := hI.b.ee.mem
  have e23 := hI.b.ee.clk
  have O := Lib.hid hO
  have H0 : Hid (MatRd w en m bc ck r rc y fb kd s.cells.length [p, m, bc, ck, y, fb, r, rc] p 0 k s 0 w) := Lib.hid ⟨hI, hkd.symm, ho, hok, h0, hs, rfl, by omega, by omega, by omega, Only.refl _ _, .inl (by simp)⟩
  clear zn hkd hT hF hC z1 hlen hI hO ho hok h0 hs hc
  go_enter Tryz.func16, Tryz.ntmps16
  go_wp2_with fail
  go_loopw [2, 13] (fun xv i wr => ∃ (q j : Nat) (k' : K) (s' : MS) (now : Int), j ≤ most ∧ xv = .iface T (.pointer (some ⟨q, 0, none⟩)) ∧ i = .int .i64 j ∧ MatRd w en m bc ck r rc y fb kd s.cells.length [p, m, bc, ck, y, fb, r, rc] q j k' s' now wr) (fun _ i _ => most - (intOf i).toNat)
  case atStart => exact ⟨p, 0, k, s, 0, Nat.zero_le _, rfl, rfl, H0.out⟩
  case round =>
    obtain ⟨q, j, k', s', now, hj, rfl, rfl, hR⟩ := hrel
    have R := Lib.hid hR
    have e22 := hR.i.b.ee.mem
    have e23 := hR.i.b.ee.clk
    clear hR H0
    by_cases hlt : j < most
    · obtain ⟨c0, c1, c2⟩ := mach_cells R.out.i.hp
      rw [R.out.z.1] at c1
      rw [R.out.z.2] at c2
      have RA := Lib.hid (result_any wr q 0 0 c1 c2)
      clear c0 c1 c2
      go_wp2_with fail
      refine RA.out.mono ?_; rintro e wa ⟨rfl, oa⟩
      have I1 := Lib.hid (R.out.i.keep0 oa)
      have O1 := Lib.hid (R.out.o.then0 oa)
      have e22 := I1.out.b.ee.mem
      have e23 := I1.out.b.ee.clk
      clear oa RA
      have hcnt := R.out.sc
      have MC := Lib.hid (memCount_any wa m bc _ I1.out.b.ee.mm)
      have ST := Lib.hid (mach_step wa q en m bc k' s' (by rw [R.out.kk, HKD.out]; exact hk) (fun _ => R.out.ok) I1.out.fr.ap e22 I1.out.hp I1.out.b.ee.mm (by omega))
      rw [show machS k'.kind = F from by rw [R.out.kk, HF.out]] at ST
      go_wp2_with fail
      refine MC.out.mono ?_; rintro e w1 ⟨rfl, rfl⟩
      clear MC
      go_wp2_with fail
      obtain ⟨ks, hks⟩ : ∃ ks, ks = stepK k' s' := ⟨_, rfl⟩
      have HKS := Lib.hid hks
      obtain ⟨ov, hov⟩ : ∃ ov, ov = ks.1.over := ⟨_, rfl⟩
      have HOV := Lib.hid hov
      refine ST.out.mono ?_; rintro e w1 ⟨rfl, o1, h1, m1⟩
      rw [← hks] at h1 m1 ⊢
      rw [← hov]
      have CN := Lib.hid (stepK_count k' s')
      have SL := Lib.hid ((stepK_len k' s').trans R.out.sl)
      have SOK := Lib.hid (stepK_mok R.out.sok R.out.ok)
      have KOK := Lib.hid (fun h => stepK_ok R.out.sok R.out.ok h)
      have KZ := Lib.hid (fun h => stepK_zero (s := s') R.out.z h)
      have KSM := Lib.hid ((stepK_same k' s').1.trans R.out.kk)
      rw [← hks] at CN SL SOK KOK KZ KSM
      have fr := Lib.hid I1.out.fr
      have OL := Lib.hid (O.out.keep O1.out)
      have sz1 := o1.size
      have RS := Lib.hid (rstep_any w1 y fb r rc now k' s' (by rw [R.out.kk, HKD.out]; exact hk) (fun _ => R.out.ok) (fun _ => R.out.z) fr.out.ap2 (by have := OL.out.l6; omega) (I1.out.hm.keep o1 I1.out.ny I1.out.nf) (I1.out.b.rr.keep o1 I1.out.nr I1.out.nrc) (by omega))
      unfold RStep at RS
      rw [← hks, ← hov] at RS
      have P1 := Lib.hid (And.intro o1 (And.intro h1 m1))
      clear hks hov h1 m1 o1 ST sz1 hcnt
      go_wp2_with fail
      refine RS.out.mono ?_; rintro e w2 ⟨rfl, o2, h2, m2⟩
      have I2 := Lib.hid (I1.out.step P1.out.1 P1.out.2.1 P1.out.2.2 o2 h2 m2)
      have O2 : Hid (Only [p, m, bc, ck, y, fb, r, rc] w w2) := Lib.hid ((O1.out.trans P1.out.1 (R.out.sub O1.out)).trans o2 (by simp))
      clear o2 h2 m2 RS P1
      have e22 := I2.out.b.ee.mem
      have SM := Lib.hid (same_env w2 en m bc ck r rc ks.2 now I2.out.b.ee I2.out.b.rr (by rw [SL.out]; omega))
      go_wp2_with fail
      refine SM.out.mono ?_; rintro e w3 ⟨rfl, o3⟩
      have I3 := Lib.hid (I2.out.keep0 o3)
      have O3 := Lib.hid (O2.out.then0 o3)
      have e22 := I3.out.b.ee.mem
      have MC := Lib.hid (memCount_any w3 m bc _ I3.out.b.ee.mm)
      have cn1 := CN.out.1
      have cn2 := CN.out.2
      have cn3 := R.out.sc
      have cn4 := I1.out.b.ee.mm.count0
      clear o3 SM I2 O2 e23
      go_wp2_with fail
      refine MC.out.mono ?_; rintro e w4 ⟨rfl, rfl⟩
      cases ov with
      | true =>
        have ho := HOV.out.symm
        obtain ⟨c0, c1, c2⟩ := mach_cells I3.out.hp
        have YF := I3.out.hm.fin ho
        have y2 := cell_blk YF 2
        have y3 := cell_blk YF 3
        simp at y2 y3
        have RA := Lib.hid (result_any w3 q _ _ c1 c2)
        clear c0 c1 c2 YF ho MC
        go_wp2_with fail
        refine RA.out.mono ?_; rintro e w4 ⟨rfl, o4⟩
        have I4 := Lib.hid (I3.out.keep0 o4)
        have O4 := Lib.hid (O3.out.then0 o4)
        have y2 := o4.keepCell y2 (by simp)
        have y3 := o4.keepCell y3 (by simp)
        have e22 := I4.out.b.ee.mem
        have ST := Lib.hid (mach_step w4 q en m bc ks.1 ks.2 (by rw [KSM.out, HKD.out]; exact hk) (fun h => by rw [← HOV.out] at h; cases h) I4.out.fr.ap e22 I4.out.hp I4.out.b.ee.mm (by omega))
        rw [show machS ks.1.kind = F from by rw [KSM.out, HF.out]] at ST
        unfold StepPost at ST
        rw [stepK_over HOV.out.symm] at ST
        simp only [HOV.out.symm] at ST
        clear o4 RA
        go_wp2_with fail
        refine ST.out.mono ?_; rintro e w5 ⟨rfl, o5, h5, m5⟩
        have I5 := Lib.hid (I4.out.pstep o5 h5 m5)
        have O5 := Lib.hid (O4.out.trans o5 (R.out.sub O1.out))
        have SM := Lib.hid (same_env w5 en m bc ck r rc ks.2 now I5.out.b.ee I5.out.b.rr (by rw [SL.out]; omega))
        clear o5 h5 m5 ST
        go_wp2_with fail
        refine SM.out.mono ?_; rintro e w6 ⟨rfl, o6⟩
        have O6 := Lib.hid (O5.out.then0 o6)
        clear o6
        go_wp2_with fail
        go_ret
        exact ⟨rfl, O6.out⟩
      | false =>
        -- BEGIN
        clear MC
        have hO3 := O3.out
        have OL0 := O
        by_cases hjl : j < len
        · obtain ⟨bz, off, rfl, hcl⟩ := Z1.out.ints (by have := HLEN.out; omega)
          have nz := ZN.out _ rfl (by have := HLEN.out; omega)
          have hz3 : w3.cell? ⟨bz, off + j, none⟩ = some (.int .i64 (zs.getD j 0)) := O3.out.keepCell (hcl j (by have := HLEN.out; omega)) nz
          obtain ⟨z, hz⟩ : ∃ z, z = zs.getD j 0 := ⟨_, rfl⟩
          rw [← hz] at hz3
          have HC2 := Lib.hid hcl
          have HZ := Lib.hid hz
          have NZ := Lib.hid nz
          clear hcl hz nz hO3
          by_cases h3 : z.tmod 3 = 1
          · have t3 : (z.tmod 3 == 1) = true := by simpa using h3
            have DS := fun c v => Lib.hid (disturb_any w3.drew en m bc ck r rc ks.2 now c v (I3.out.b.keep0 (Only.refl [] w3).drew) SOK.out (by omega) (by rw [SL.out]; omega))
            go_wp2_with fail
            go_still_tail 12, (by kernel_rfl)
            change wpList _ _ _ _ _ w3.drew
            go_wp2_with fail
            refine (DS _ _).out.mono ?_; rintro e w5 ⟨rfl, s5, o5, b5, sok5, sl5, sc5⟩
            have I5 := Lib.hid (I3.out.noise (o5.undrew) b5)
            have O5 := Lib.hid (O3.out.trans o5.undrew (by simp))
            have hz5 : w5.cell? ⟨bz, off + j, none⟩ = some (.int .i64 z) := by rw [HZ.out]; exact O5.out.keepCell (HC2.out j (by have := HLEN.out; omega)) NZ.out
            have SOK5 := Lib.hid sok5
            have SL5 := Lib.hid sl5
            have SC5 := Lib.hid sc5
            have cnn := sc5
            clear o5 b5 sok5 sl5 sc5 DS hz3
            by_cases h13 : z.tmod 13 = 5
            · have t13 : (z.tmod 13 == 5) = true := by simpa using h13
              have TK := Lib.hid (tick_any w5 ck now I5.out.b.ee.c R.out.n0 (by have := R.out.n1; omega))
              have e23 := I5.out.b.ee.clk
              have n01 := R.out.n0
              have n02 := R.out.n1
              go_wp2_with fail
              refine TK.out.mono ?_; rintro e w6 ⟨rfl, o6, h6⟩
              have r6 := I5.out.b.rr.keep o6 (by have := I5.out.b.d4; simp; omega) (by have := I5.out.b.d4; simp; omega)
              obtain ⟨k17, f17⟩ := r6.now
              have hw : wrap64 (now + 1) = now + 1 := by unfold wrap64; omega
              have R6 := Lib.hid r6
              have P6 := Lib.hid (And.intro o6 h6)
              clear o6 h6 r6 TK n01 n02
              have o7 : Only [r] w6 (w6.setCell ⟨r, 17, none⟩ (.int .i64 (now + 1))) := (Only.refl [r] w6).setCell (by simp) _
              have I7 := Lib.hid (I5.out.tick P6.out.1 P6.out.2 o7 R6.out.tick)
              have O7 := Lib.hid ((O5.out.trans P6.out.1 (by simp)).trans o7 (by simp))
              clear o7 R6 P6
              have R9 : Hid (MatRd w en m bc ck r rc y fb kd s.cells.length [p, m, bc, ck, y, fb, r, rc] q (j + 1) ks.1 s5 (now + 1) (w6.setCell ⟨r, 17, none⟩ (.int .i64 (now + 1)))) := Lib.hid ⟨I7.out, KSM.out, HOV.out.symm, KOK.out HOV.out.symm, KZ.out HOV.out.symm, SOK5.out, SL5.out.trans SL.out, by omega, by have := R.out.n0; omega, by have := R.out.n1; omega, O7.out, R.out.pS⟩
              by_cases h2 : j = 2
              · subst h2
                have CP := Lib.hid (mach_copy (w6.setCell ⟨r, 17, none⟩ (.int .i64 (now + 1))) q ks.1 (by rw [KSM.out, HKD.out]; exact hk) I7.out.hp)
                rw [show machC ks.1.kind = C from by rw [KSM.out, HC.out]] at CP
                unfold ifc at CP
                rw [show machT ks.1.kind = T from by rw [KSM.out, HT.out]] at CP
                go_wp2_with fail
                refine CP.out.mono ?_; rintro e w8 ⟨q2, rfl, o8, hq, l1, l2⟩
                have R8 := Lib.hid (R9.out.copied OL0.out o8 hq l1)
                clear o8 hq l1 l2 CP
                go_wp2_with fail
                go_roundw
                case rel => exact ⟨q2, 3, ks.1, s5, (now + 1), by omega, rfl, by go_num, R8.out⟩
                case measure => simp [intOf]; omega
              · have h22 : ((j : Int) == 2) = false := by simp; omega
                go_wp2_with fail
                go_roundw
                case rel => exact ⟨q, j + 1, ks.1, s5, (now + 1), by omega, rfl, by go_num, R9.out⟩
                case measure => simp [intOf]; omega
            · have t13 : (z.tmod 13 == 5) = false := by simpa using h13
              have R9 : Hid (MatRd w en m bc ck r rc y fb kd s.cells.length [p, m, bc, ck, y, fb, r, rc] q (j + 1) ks.1 s5 now w5) := Lib.hid ⟨I5.out, KSM.out, HOV.out.symm, KOK.out HOV.out.symm, KZ.out HOV.out.symm, SOK5.out, SL5.out.trans SL.out, by omega, R.out.n0, by have := R.out.n1; omega, O5.out, R.out.pS⟩
              by_cases h2 : j = 2
              · subst h2
                have CP := Lib.hid (mach_copy w5 q ks.1 (by rw [KSM.out, HKD.out]; exact hk) I5.out.hp)
                rw [show machC ks.1.kind = C from by rw [KSM.out, HC.out]] at CP
                unfold ifc at CP
                rw [show machT ks.1.kind = T from by rw [KSM.out, HT.out]] at CP
                go_wp2_with fail
                refine CP.out.mono ?_; rintro e w8 ⟨q2, rfl, o8, hq, l1, l2⟩
                have R8 := Lib.hid (R9.out.copied OL0.out o8 hq l1)
                clear o8 hq l1 l2 CP
                go_wp2_with fail
                go_roundw
                case rel => exact ⟨q2, 3, ks.1, s5, now, by omega, rfl, by go_num, R8.out⟩
                case measure => simp [intOf]; omega
              · have h22 : ((j : Int) == 2) = false := by simp; omega
                go_wp2_with fail
                go_roundw
                case rel => exact ⟨q, j + 1, ks.1, s5, now, by omega, rfl, by go_num, R9.out⟩
                case measure => simp [intOf]; omega
          · have t3 : (z.tmod 3 == 1) = false := by simpa using h3
            by_cases h13 : z.tmod 13 = 5
            · have t13 : (z.tmod 13 == 5) = true := by simpa using h13
              have TK := Lib.hid (tick_any w3 ck now I3.out.b.ee.c R.out.n0 (by have := R.out.n1; omega))
              have e23 := I3.out.b.ee.clk
              have n01 := R.out.n0
              have n02 := R.out.n1
              go_wp2_with fail
              refine TK.out.mono ?_; rintro e w6 ⟨rfl, o6, h6⟩
              have r6 := I3.out.b.rr.keep o6 (by have := I3.out.b.d4; simp; omega) (by have := I3.out.b.d4; simp; omega)
              obtain ⟨k17, f17⟩ := r6.now
              have hw : wrap64 (now + 1) = now + 1 := by unfold wrap64; omega
              have R6 := Lib.hid r6
              have P6 := Lib.hid (And.intro o6 h6)
              clear o6 h6 r6 TK n01 n02
              have o7 : Only [r] w6 (w6.setCell ⟨r, 17, none⟩ (.int .i64 (now + 1))) := (Only.refl [r] w6).setCell (by simp) _
              have I7 := Lib.hid (I3.out.tick P6.out.1 P6.out.2 o7 R6.out.tick)
              have O7 := Lib.hid ((O3.out.trans P6.out.1 (by simp)).trans o7 (by simp))
              clear o7 R6 P6
              have R9 : Hid (MatRd w en m bc ck r rc y fb kd s.cells.length [p, m, bc, ck, y, fb, r, rc] q (j + 1) ks.1 ks.2 (now + 1) (w6.setCell ⟨r, 17, none⟩ (.int .i64 (now + 1)))) := Lib.hid ⟨I7.out, KSM.out, HOV.out.symm, KOK.out HOV.out.symm, KZ.out HOV.out.symm, SOK.out, SL.out, by omega, by have := R.out.n0; omega, by have := R.out.n1; omega, O7.out, R.out.pS⟩
              by_cases h2 : j = 2
              · subst h2
                have CP := Lib.hid (mach_copy (w6.setCell ⟨r, 17, none⟩ (.int .i64 (now + 1))) q ks.1 (by rw [KSM.out, HKD.out]; exact hk) I7.out.hp)
                rw [show machC ks.1.kind = C from by rw [KSM.out, HC.out]] at CP
                unfold ifc at CP
                rw [show machT ks.1.kind = T from by rw [KSM.out, HT.out]] at CP
                go_wp2_with fail
                refine CP.out.mono ?_; rintro e w8 ⟨q2, rfl, o8, hq, l1, l2⟩
                have R8 := Lib.hid (R9.out.copied OL0.out o8 hq l1)
                clear o8 hq l1 l2 CP
                go_wp2_with fail
                go_roundw
                case rel => exact ⟨q2, 3, ks.1, ks.2, (now + 1), by omega, rfl, by go_num, R8.out⟩
                case measure => simp [intOf]; omega
              · have h22 : ((j : Int) == 2) = false := by simp; omega
                go_wp2_with fail
                go_roundw
                case rel => exact ⟨q, j + 1, ks.1, ks.2, (now + 1), by omega, rfl, by go_num, R9.out⟩
                case measure => simp [intOf]; omega
            · have t13 : (z.tmod 13 == 5) = false := by simpa using h13
              have R9 : Hid (MatRd w en m bc ck r rc y fb kd s.cells.length [p, m, bc, ck, y, fb, r, rc] q (j + 1) ks.1 ks.2 now w3) := Lib.hid ⟨I3.out, KSM.out, HOV.out.symm, KOK.out HOV.out.symm, KZ.out HOV.out.symm, SOK.out, SL.out, by omega, R.out.n0, by have := R.out.n1; omega, O3.out, R.out.pS⟩
              by_cases h2 : j = 2
              · subst h2
                have CP := Lib.hid (mach_copy w3 q ks.1 (by rw [KSM.out, HKD.out]; exact hk) I3.out.hp)
                rw [show machC ks.1.kind = C from by rw [KSM.out, HC.out]] at CP
                unfold ifc at CP
                rw [show machT ks.1.kind = T from by rw [KSM.out, HT.out]] at CP
                go_wp2_with fail
                refine CP.out.mono ?_; rintro e w8 ⟨q2, rfl, o8, hq, l1, l2⟩
                have R8 := Lib.hid (R9.out.copied OL0.out o8 hq l1)
                clear o8 hq l1 l2 CP
                go_wp2_with fail
                go_roundw
                case rel => exact ⟨q2, 3, ks.1, ks.2, now, by omega, rfl, by go_num, R8.out⟩
                case measure => simp [intOf]; omega
              · have h22 : ((j : Int) == 2) = false := by simp; omega
                go_wp2_with fail
                go_roundw
                case rel => exact ⟨q, j + 1, ks.1, ks.2, now, by omega, rfl, by go_num, R9.out⟩
                case measure => simp [intOf]; omega
        · clear hO3
          have R9 : Hid (MatRd w en m bc ck r rc y fb kd s.cells.length [p, m, bc, ck, y, fb, r, rc] q (j + 1) ks.1 ks.2 now w3) := Lib.hid ⟨I3.out, KSM.out, HOV.out.symm, KOK.out HOV.out.symm, KZ.out HOV.out.symm, SOK.out, SL.out, by omega, R.out.n0, by have := R.out.n1; omega, O3.out, R.out.pS⟩
          by_cases h2 : j = 2
          · subst h2
            have CP := Lib.hid (mach_copy w3 q ks.1 (by rw [KSM.out, HKD.out]; exact hk) I3.out.hp)
            rw [show machC ks.1.kind = C from by rw [KSM.out, HC.out]] at CP
            unfold ifc at CP
            rw [show machT ks.1.kind = T from by rw [KSM.out, HT.out]] at CP
            go_wp2_with fail
            refine CP.out.mono ?_; rintro e w8 ⟨q2, rfl, o8, hq, l1, l2⟩
            have R8 := Lib.hid (R9.out.copied OL0.out o8 hq l1)
            clear o8 hq l1 l2 CP
            go_wp2_with fail
            go_roundw
            case rel => exact ⟨q2, 3, ks.1, ks.2, now, by omega, rfl, by go_num, R8.out⟩
            case measure => simp [intOf]; omega
          · have h22 : ((j : Int) == 2) = false := by simp; omega
            go_wp2_with fail
            go_roundw
            case rel => exact ⟨q, j + 1, ks.1, ks.2, now, by omega, rfl, by go_num, R9.out⟩
            case measure => simp [intOf]; omega
        -- END
    · obtain rfl : j = most := by omega
      have O9 := Lib.hid R.out.o
      go_wp2_with fail
      go_ret
      exact ⟨rfl, O9.out⟩
end Go.Proofs.YtlklfpbimoolbaaGreat
