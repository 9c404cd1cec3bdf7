/- A step of an actor of the reference's game, walked. -/
import Derived.Test.YtfhkhknnoepfeaaGreatHistRefG
namespace Go.Proofs.YtfhkhknnoepfeaaGreat
open Go.RowKit
set_option linter.unusedVariables false

def opC (o : HOp) : List Value := [.int .i64 o.kind, .int .i64 o.mach, .int .i64 o.frm, .int .i64 o.to, .int .i64 o.code, .int .i64 o.value]
theorem infoOpS : (Tryz.prog.info? 36).map (·.size) = some 6 := by kernel_rfl
theorem opC_v (o : HOp) : (.agg (opC o).toArray : Value) = o.v := rfl

set_option maxRecDepth 100000 in
set_option maxHeartbeats 1000000 in
theorem refAct_idle (w : World) (r rb p cp : Nat) (ao : Option Addr) (c a n : Int) (mv : Value) (kk vv : Int) (hA : AcAt w rb p (.slice ao 0 cp) mv kk vv (-1)) :
    Calls Tryz.prog 23 #[.pointer (some ⟨r, 0, none⟩), .agg #[.int .i64 0, .int .i64 1, .int .i64 2, .int .i64 c], .pointer (some ⟨rb, p, none⟩), .int .i64 a, .int .i64 n] w fun e w' => e = .returned (.tuple #[HOp.zero.v, .bool false]) ∧ Only [] w w' := by
  obtain ⟨h0, h1, h2, h3, h4⟩ := hA
  have hl : rb < w.heap.size := lt_of_cell h0
  have hl1 : rb < w.heap.size + 1 := by omega
  have hl2 : rb < w.heap.size + 1 + 1 := by omega
  go_enter Tryz.func23, Tryz.ntmps23
  go_wp2_with fail
  have hz := blk_alloc_new (w.alloc (.cells #[.int .i64 0, .int .i64 1, .int .i64 2, .int .i64 c] 50)) (.cells (opC HOp.zero).toArray 36)
  simp only [World.size_alloc] at hz
  refine bodyPost_ret (v := .tuple #[HOp.zero.v, .bool false]) ?_ rfl ⟨rfl, ((Only.refl _ _).alloc _).alloc _⟩
  exact run_results_cell_tmp 10 11 36 Tryz.results23 rfl (run_loadVar_mid _ (w.heap.size + 1) 0 36 (opC HOp.zero) _ (rangeAt_blk hz) Tryz.underlying36 rfl infoOpS) rfl

set_option maxRecDepth 100000 in
set_option maxHeartbeats 4000000 in
theorem refAct_go {w0 : World} (w : World) {B n c rb r rc : Nat} {ys fs : Nat → Nat} {avs mvs : Nat → Value} {kks vvs : Nat → Int} {g : Gm} (h : RG w0 w B n c rb r rc ys fs avs mvs kks vvs g) {c' : Nat} (hg : GX c' g) (hcb : g.mem.count ≤ g.pick) (hp : g.pick < 900000) {a : Nat} (ha : a < n) {k : K} {o : HOp} (hn : (g.acs a).now = some (k, o)) :
    Calls Tryz.prog 23 #[.pointer (some ⟨r, 0, none⟩), .agg #[.int .i64 0, .int .i64 1, .int .i64 2, .int .i64 c], .pointer (some ⟨rb, a * 5, none⟩), .int .i64 a, .int .i64 g.pick] w (ActPost w0 B n c rb r rc g (g.stepped a k o) w) := by
  have HH := Lib.hid h
  have HN := Lib.hid hn
  obtain ⟨hov, hok, hk2⟩ := hg.live a k o hn
  obtain ⟨hkk, hfr⟩ := hg.kinds hn
  obtain ⟨m1, m2, m3, m4, m5, m6, m7⟩ := h.M a k o ha hn
  obtain ⟨n1, n2, n3, n4, n5⟩ := h.N a k o ha hn
  obtain ⟨l1, l2, l3, l4, l5, l6, l7, l8, l9, l10⟩ := h.lt
  have hA := h.A a ha
  rw [n1, n2, show sinceOf (g.acs a) = o.frm by unfold sinceOf; rw [hn]] at hA
  obtain ⟨a0, a1, a2, a3, a4⟩ := hA
  obtain ⟨arrH, hH⟩ := h.H
  have HB := Lib.hid hH
  have ff := fun q => free_blk hH q
  have HOV := Lib.hid hov
  have hE := h.E
  have R0 := Lib.hid (rstep_any ((w.alloc (.cells #[.int .i64 0, .int .i64 1, .int .i64 2, .int .i64 c] 50)).alloc (.cells #[.int .i64 0, .int .i64 0, .int .i64 0, .int .i64 0, .int .i64 0, .int .i64 0] 36)) (ys a) (fs a) r rc 0 k g.mem (by omega) (fun _ => hok) (fun _ => m2) ⟨⟨by omega, by omega⟩, by omega, by omega, m5⟩ (by simp; omega)
    (m1.keep (((Only.refl [] w).alloc _).alloc _) (by simp) (by simp)) (hE.keep (((Only.refl [] w).alloc _).alloc _) (by simp) (by simp)) (by omega))
  unfold RStep at R0
  obtain ⟨y, hy⟩ : ∃ y, y = ys a := ⟨_, rfl⟩
  obtain ⟨fb, hfb⟩ : ∃ fb, fb = fs a := ⟨_, rfl⟩
  rw [← hy] at R0 a1 m5 m6 m3
  rw [← hfb] at R0 m5 m7 m4
  have HY := Lib.hid hy
  have HFB := Lib.hid hfb
  obtain ⟨ov, hov2⟩ : ∃ ov, ov = (stepK k g.mem).1.over := ⟨_, rfl⟩
  have OV := Lib.hid hov2
  rw [← hov2] at R0
  obtain ⟨p, hp5⟩ : ∃ p, p = a * 5 := ⟨_, rfl⟩
  have HP := Lib.hid hp5
  rw [← hp5] at a0 a1 a2 a3 a4 ⊢
  obtain ⟨fr, hfd⟩ : ∃ fr, fr = o.frm := ⟨_, rfl⟩
  obtain ⟨kd, hkd⟩ : ∃ kd, kd = o.kind := ⟨_, rfl⟩
  obtain ⟨vx, hvx⟩ : ∃ vx, vx = vvs a := ⟨_, rfl⟩
  obtain ⟨av, hav⟩ : ∃ av, av = avs a := ⟨_, rfl⟩
  obtain ⟨pk, hpk⟩ : ∃ pk : Int, pk = g.pick := ⟨_, rfl⟩
  rw [← hfd] at a4 hfr
  rw [← hkd] at a2
  rw [← hvx] at a3
  rw [← hav] at a0
  rw [← hpk]
  have HFR := Lib.hid hfd
  have HKD := Lib.hid hkd
  have HVX := Lib.hid hvx
  have HAV := Lib.hid hav
  have HPK := Lib.hid hpk
  have hrl : rb < w.heap.size := by omega
  have hl1 : rb < w.heap.size + 1 := by omega
  have hl2 : rb < w.heap.size + 1 + 1 := by omega
  have hlt : decide (fr < 0) = false := by simp; omega
  clear hcb hp hn hov hok hk2 hkk m1 m2 n1 n2 n3 n4 n5 hE hH h hy hfb hov2 hp5 hfd hkd hvx hav hpk
  go_enter Tryz.func23, Tryz.ntmps23
  go_wp2_with fail
  refine R0.out.mono ?_; rintro e w2 ⟨rfl, o2, hM2, hE2⟩
  have hsz0 := o2.size
  simp at hsz0
  have OO : Hid (Only [y, fb, r, rc] w w2) := Lib.hid (((((Only.refl [] w).alloc (.cells #[.int .i64 0, .int .i64 1, .int .i64 2, .int .i64 c] 50)).alloc (.cells #[.int .i64 0, .int .i64 0, .int .i64 0, .int .i64 0, .int .i64 0, .int .i64 0] 36)).mono (by simp)).trans o2 (fun t ht => .inl ht))
  have hzb : w2.heap[w.heap.size + 1]? = some (.cells #[.int .i64 0, .int .i64 0, .int .i64 0, .int .i64 0, .int .i64 0, .int .i64 0] 36 (0, 0)) := by
    have hz := blk_alloc_new (w.alloc (.cells #[.int .i64 0, .int .i64 1, .int .i64 2, .int .i64 c] 50)) (.cells #[.int .i64 0, .int .i64 0, .int .i64 0, .int .i64 0, .int .i64 0, .int .i64 0] 36)
    simp only [World.size_alloc] at hz
    exact o2.keep hz (by simp; omega)
  have M2 := Lib.hid hM2
  have E2 := Lib.hid hE2
  obtain ⟨zb, hzbd⟩ : ∃ zb, zb = w.heap.size + 1 := ⟨_, rfl⟩
  rw [← hzbd] at hzb ⊢
  have hzn : w.heap.size ≤ zb := by omega
  have ZB := Lib.hid hzb
  have hzl := lt_of_blk hzb
  have hS : rb ∉ [y, fb, r, rc] := by simp; omega
  have C2 : Hid (Chg [y, fb, r, rc] rb p (p + 5) w w2) := Lib.hid ((Chg.refl w).then hrl hS OO.out)
  have HS := Lib.hid hS
  clear o2 hM2 hE2 hzb hzbd hS
  cases ov with
  | false =>
    go_wp2_with (with_reducible refine wpList_store_agg rfl 36 (.tmp 10) (.tmp 85) rfl zb (opC HOp.zero) rfl rfl 6 rfl #[.int .i64 0, .int .i64 0, .int .i64 0, .int .i64 0, .int .i64 0, .int .i64 0] 36 ZB.out rfl infoOpS rfl ?_)
    intro w3 hst
    obtain ⟨o3, tb⟩ := hst
    have tb := tb _ _ ZB.out rfl
    have O3 : Hid (Only [y, fb, r, rc] w w3) := Lib.hid (OO.out.trans o3 (fun t ht => .inr (by simp at ht; omega)))
    have hzy : y ≠ zb ∧ fb ≠ zb ∧ r ≠ zb ∧ rc ≠ zb := by omega
    have M3 := Lib.hid (M2.out.keep o3 (by simp; omega) (by simp; omega))
    have E3 := Lib.hid (E2.out.keep o3 (by simp; omega) (by simp; omega))
    have RA := Lib.hid (rangeAt_blk tb)
    clear o3 tb hzy
    go_wp2_with fail
    refine bodyPost_ret (v := .tuple #[HOp.zero.v, .bool false]) ?_ rfl (HH.out.stepMore ha HN.out HOV.out OV.out.symm (by rw [← HY.out, ← HFB.out]; exact O3.out) (by rw [← HY.out, ← HFB.out]; exact M3.out) E3.out)
    exact run_results_cell_tmp 10 11 36 Tryz.results23 rfl (run_loadVar_mid _ zb 0 36 (opC HOp.zero) _ RA.out Tryz.underlying36 rfl infoOpS) rfl
  | true =>
    have f2 := M2.out.fin OV.out.symm
    have g1 := cell_blk f2 2
    have g2 := cell_blk f2 3
    simp at g1 g2
    obtain ⟨cd, hcd⟩ : ∃ cd, cd = (stepK k g.mem).1.code := ⟨_, rfl⟩
    obtain ⟨vl, hvl⟩ : ∃ vl, vl = (stepK k g.mem).1.val := ⟨_, rfl⟩
    rw [← hcd] at g1
    rw [← hvl] at g2
    have CD := Lib.hid hcd
    have VL := Lib.hid hvl
    have kc := fun i => OO.out.cell (p := ⟨rb, i, none⟩) hrl HS.out
    have b0 := (kc p).trans a0
    have b1 := (kc (p + 1)).trans a1
    have b2 := (kc (p + 2)).trans a2
    have b3 := (kc (p + 3)).trans a3
    have b4 := (kc (p + 4)).trans a4
    have hB2 := OO.out.keep HB.out HS.out
    have ff2 := free_blk hB2 (p + 4)
    have hrl2 := lt_of_blk hB2
    have hyl2 := lt_of_blk f2
    clear hcd hvl kc a0 a1 a2 a3 a4 ff hB2 f2
    go_upto_region 13 with fail
    go_cut [12] (fun s12 wx => s12 = .pointer (some ⟨w2.heap.size, 0, none⟩) ∧ wx = (w2.alloc (.cells #[.int .i64 kd, .int .i64 a, .int .i64 fr, .int .i64 pk, .int .i64 cd, .int .i64 vl] 36)).drew)
    case first =>
        have SS : ∀ w', Only [] w2 w' → (w'.cell? ⟨rb, p + 1, none⟩ = some (.pointer (some ⟨y, 0, none⟩)) ∧ w'.cell? ⟨rb, p + 2, none⟩ = some (.int .i64 kd) ∧ w'.cell? ⟨rb, p + 4, none⟩ = some (.int .i64 fr) ∧ w'.cell? ⟨y, 2, none⟩ = some (.int .i64 cd) ∧ w'.cell? ⟨y, 3, none⟩ = some (.int .i64 vl)) := fun w' o => ⟨o.keepCell b1 (by simp), o.keepCell b2 (by simp), o.keepCell b4 (by simp), o.keepCell g1 (by simp), o.keepCell g2 (by simp)⟩
        go_region_held3 (fun w' => w'.cell? ⟨rb, p + 1, none⟩ = some (.pointer (some ⟨y, 0, none⟩)) ∧ w'.cell? ⟨rb, p + 2, none⟩ = some (.int .i64 kd) ∧ w'.cell? ⟨rb, p + 4, none⟩ = some (.int .i64 fr) ∧ w'.cell? ⟨y, 2, none⟩ = some (.int .i64 cd) ∧ w'.cell? ⟨y, 3, none⟩ = some (.int .i64 vl))
          (first | exact SS _ (Only.refl _ _).drew | exact SS _ ((Only.refl _ _).drew.alloc _) | exact SS _ (((Only.refl _ _).drew.alloc _).setCell (.inr (by simp)) _))
          ((first | fail))
        go_wp2_with fail
        go_meet
        exact ⟨rfl, rfl⟩
    case rest =>
     obtain ⟨rfl, rfl⟩ := hcut
     obtain ⟨ob, hob⟩ : ∃ ob, ob = w2.heap.size := ⟨_, rfl⟩
     obtain ⟨w3, hw3⟩ : ∃ w3, w3 = (w2.alloc (.cells #[.int .i64 kd, .int .i64 a, .int .i64 fr, .int .i64 pk, .int .i64 cd, .int .i64 vl] 36)).drew := ⟨_, rfl⟩
     have o23 : Only [] w2 w3 := by rw [hw3]; exact ((Only.refl _ _).alloc _).drew
     have OB : w3.heap[ob]? = some (.cells #[.int .i64 kd, .int .i64 a, .int .i64 fr, .int .i64 pk, .int .i64 cd, .int .i64 vl] 36 (0, 0)) := by rw [hw3, hob]; exact blk_alloc_new w2 _
     rw [← hw3, ← hob]
     have hobn : ob ≠ rb ∧ ob ≠ zb ∧ zb ≠ rb ∧ w.heap.size ≤ ob := by omega
     have ZB3 := Lib.hid (o23.keep ZB.out (by simp))
     have E3 := Lib.hid (E2.out.keep o23 (by simp) (by simp))
     have C3 := Lib.hid (C2.out.then0 hrl o23)
     have b03 := o23.keepCell b0 (by simp)
     have b13 := o23.keepCell b1 (by simp)
     have b23 := o23.keepCell b2 (by simp)
     have b33 := o23.keepCell b3 (by simp)
     have b43 := o23.keepCell b4 (by simp)
     obtain ⟨arr2, hH2⟩ := C3.out.h _ HB.out
     have ff3 := free_blk hH2 (p + 4)
     have OB3 := Lib.hid OB
     have d0 := cell_blk OB 0
     have d5 := cell_blk OB 5
     have fo := free_blk OB 5
     simp at d0 d5
     have hobl := lt_of_blk OB
     have hrl3 := lt_of_blk hH2
     have H2 := Lib.hid hH2
     clear hw3 hob o23 OB b0 b1 b2 b3 b4 ff2 hrl2 hyl2 hH2 g1 g2
     obtain ⟨n1, n2, n3, n4, n5⟩ := HH.out.N a k o ha HN.out
     obtain ⟨fv, hfv⟩ : ∃ fv, fv = (if kd = 0 then vx else vl) := ⟨_, rfl⟩
     have FV : Hid ((⟨kd, a, fr, pk, cd, fv⟩ : HOp) = finO o g.pick (stepK k g.mem).1.code (stepK k g.mem).1.val) := Lib.hid (by
       have h1 := fin_val hg HN.out OV.out.symm n5
       unfold finO
       rw [← h1, HFR.out, HPK.out, hfv, HVX.out, HKD.out, CD.out, VL.out, n4]
       by_cases e : o.kind = 0
       · rw [if_pos e, if_pos e, n3 e]
       · rw [if_neg e, if_neg e])
     have END : ∀ (w4 w5 : World), Only [ob] w3 w4 → Only [zb] (w4.setCell ⟨rb, p + 4, none⟩ (.int .i64 (-1))) w5 → ActPost w0 B n c rb r rc g (g.stepped a k o) w (.returned (.tuple #[(⟨kd, a, fr, pk, cd, fv⟩ : HOp).v, .bool true])) w5 := fun w4 w5 o34 o45 => by
       have c4 := (C3.out.thenN hrl (fun t ht => by simp at ht; omega) o34)
       have c5 := ((c4.set (i := p + 4) (by omega) (.int .i64 (-1))).thenN hrl (fun t ht => by simp at ht; omega) o45)
       have key : ∀ i v, i ≠ p + 4 → w3.cell? ⟨rb, i, none⟩ = some v → w5.cell? ⟨rb, i, none⟩ = some v := fun i v hi hv =>
         o45.keepCell (by rw [cell_set_ne (.inr hi)]; exact o34.keepCell hv (by simp; omega)) (by simp; omega)
       have hlast : w5.cell? ⟨rb, p + 4, none⟩ = some (.int .i64 (-1)) := by
         refine o45.keepCell ?_ (by simp; omega)
         have hb4 := o34.keep H2.out (by simp; omega)
         rw [cell_blk (blk_setCell hb4 _ _)]
         have hz : p + 4 < arr2.size := by
           have hc4 := b43
           rw [cell_blk H2.out] at hc4
           exact (Array.getElem?_eq_some_iff.1 hc4).1
         simp [hz]
       have e4 := E3.out.keep o34 (by simp; omega) (by simp; omega)
       have e5 : REnvAt w5 r rc (stepK k g.mem).2 0 := (e4.keep ((Only.refl [rb] _).setCell (.inl (by simp)) _) (by simp; omega) (by simp; omega)).keep o45 (by simp; omega) (by simp; omega)
       refine HH.out.stepDone ha HN.out HOV.out OV.out.symm (by rw [← HY.out, ← HFB.out, ← HP.out]; exact c5) e5 (mv' := .pointer (some ⟨y, 0, none⟩)) (kk' := kd) (vv' := vx) ?_ FV.out
       rw [← HP.out, ← HAV.out]
       exact ⟨key _ _ (by omega) b03, key _ _ (by omega) b13, key _ _ (by omega) b23, key _ _ (by omega) b33, hlast⟩
     have EN := Lib.hid END
     clear END n1 n2 n3 n4 n5 b13
     have hnb : rb ≠ ob := fun e => hobn.1 e.symm
     by_cases h0 : kd = 0
     · have hfv2 : fv = vx := by rw [hfv, if_pos h0]
       rw [hfv2] at EN
       clear hfv hfv2 FV
       have h00 : (0 : Int) = kd := h0.symm
       subst h00
       obtain ⟨w4, hw4⟩ : ∃ w4, w4 = w3.setCell ⟨ob, 5, none⟩ (.int .i64 vx) := ⟨_, rfl⟩
       have O34 : Hid (Only [ob] w3 w4) := Lib.hid (by rw [hw4]; exact (Only.refl _ _).setCell (.inl (by simp)) _)
       have OB4 : w4.heap[ob]? = some (.cells #[.int .i64 0, .int .i64 a, .int .i64 fr, .int .i64 pk, .int .i64 cd, .int .i64 vx] 36 (0, 0)) := by
         have h := blk_setCell OB3.out 5 (.int .i64 vx)
         simp only [List.setIfInBounds_toArray, List.set_cons_zero, List.set_cons_succ] at h
         rw [hw4]; exact h
       have c44 := O34.out.keepCell b43 (by simp; omega)
       have ff4 := free_blk (O34.out.keep H2.out (by simp; omega)) (p + 4)
       go_upto_region 16 with fail
       rw [← hw4]
       clear hw4 b43 ff3 fo d0 d5
       obtain ⟨w5, hw5⟩ : ∃ w5, w5 = w4.setCell ⟨rb, p + 4, none⟩ (.int .i64 (-1)) := ⟨_, rfl⟩
       have o45 : Only [rb] w4 w5 := by rw [hw5]; exact (Only.refl _ _).setCell (.inl (by simp)) _
       have OB5 := o45.keep OB4 (by simp; omega)
       have ZB5 := Lib.hid (o45.keep ((O34.out).keep ZB3.out (by simp; omega)) (by simp; omega))
       have q0 := cell_blk OB5 0
       have q1 := cell_blk OB5 1
       have q2 := cell_blk OB5 2
       have q3 := cell_blk OB5 3
       have q4 := cell_blk OB5 4
       have q5 := cell_blk OB5 5
       simp at q0 q1 q2 q3 q4 q5
       have HW5 := Lib.hid hw5
       clear OB5 o45
       go_upto_region 17 with fail
       rw [← hw5]
       clear hw5 OB4
       go_wp2_with (with_reducible refine wpList_store_agg rfl 36 (.tmp 10) (.tmp 124) rfl zb (opC ⟨0, a, fr, pk, cd, vx⟩) rfl rfl 6 rfl #[.int .i64 0, .int .i64 0, .int .i64 0, .int .i64 0, .int .i64 0, .int .i64 0] 36 ZB5.out rfl infoOpS rfl ?_)
       intro w6 hst
       obtain ⟨o6, tb⟩ := hst
       have tb := tb _ _ ZB5.out rfl
       have RA := Lib.hid (rangeAt_blk tb)
       have FIN := Lib.hid (EN.out w4 w6 O34.out (by rw [← HW5.out]; exact o6))
       clear o6 tb
       go_wp2_with fail
       refine bodyPost_ret (v := .tuple #[(⟨0, a, fr, pk, cd, vx⟩ : HOp).v, .bool true]) ?_ rfl FIN.out
       exact run_results_cell_tmp 10 11 36 Tryz.results23 rfl (run_loadVar_mid _ zb 0 36 (opC ⟨0, a, fr, pk, cd, vx⟩) _ RA.out Tryz.underlying36 rfl infoOpS) rfl
     · have hfv2 : fv = vl := by rw [hfv, if_neg h0]
       rw [hfv2] at EN
       have h00 : (kd == 0) = false := by simp [h0]
       clear hfv hfv2 FV h0
       obtain ⟨w4, hw4⟩ : ∃ w4, w4 = w3 := ⟨_, rfl⟩
       have O34 : Hid (Only [ob] w3 w4) := Lib.hid (by rw [hw4]; exact Only.refl _ _)
       have OB4 := OB3.out
       rw [← hw4] at OB4
       subst hw4
       obtain ⟨w5, hw5⟩ : ∃ w5, w5 = w4.setCell ⟨rb, p + 4, none⟩ (.int .i64 (-1)) := ⟨_, rfl⟩
       have o45 : Only [rb] w4 w5 := by rw [hw5]; exact (Only.refl _ _).setCell (.inl (by simp)) _
       have OB5 := o45.keep OB4 (by simp; omega)
       have ZB5 := Lib.hid (o45.keep ((O34.out).keep ZB3.out (by simp; omega)) (by simp; omega))
       have q0 := cell_blk OB5 0
       have q1 := cell_blk OB5 1
       have q2 := cell_blk OB5 2
       have q3 := cell_blk OB5 3
       have q4 := cell_blk OB5 4
       have q5 := cell_blk OB5 5
       simp at q0 q1 q2 q3 q4 q5
       have HW5 := Lib.hid hw5
       clear OB5 o45
       go_upto_region 17 with fail
       rw [← hw5]
       clear hw5 OB4
       go_wp2_with (with_reducible refine wpList_store_agg rfl 36 (.tmp 10) (.tmp 124) rfl zb (opC ⟨kd, a, fr, pk, cd, vl⟩) rfl rfl 6 rfl #[.int .i64 0, .int .i64 0, .int .i64 0, .int .i64 0, .int .i64 0, .int .i64 0] 36 ZB5.out rfl infoOpS rfl ?_)
       intro w6 hst
       obtain ⟨o6, tb⟩ := hst
       have tb := tb _ _ ZB5.out rfl
       have RA := Lib.hid (rangeAt_blk tb)
       have FIN := Lib.hid (EN.out w4 w6 O34.out (by rw [← HW5.out]; exact o6))
       clear o6 tb
       go_wp2_with fail
       refine bodyPost_ret (v := .tuple #[(⟨kd, a, fr, pk, cd, vl⟩ : HOp).v, .bool true]) ?_ rfl FIN.out
       exact run_results_cell_tmp 10 11 36 Tryz.results23 rfl (run_loadVar_mid _ zb 0 36 (opC ⟨kd, a, fr, pk, cd, vl⟩) _ RA.out Tryz.underlying36 rfl infoOpS) rfl
end Go.Proofs.YtfhkhknnoepfeaaGreat
