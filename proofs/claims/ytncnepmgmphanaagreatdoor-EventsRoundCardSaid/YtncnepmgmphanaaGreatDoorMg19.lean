/- Back of a Run frame that takes a new task. No condition beside those named. -/
import Derived.Test.YtncnepmgmphanaaGreatDoorMg13
import Derived.Test.YtncnepmgmphanaaGreatDoorMg18
import Derived.Test.YtncnepmgmphanaaGreatDoorMg16
import Derived.Test.YtncnepmgmphanaaGreatDoorMg05
import Derived.Test.YtncnepmgmphanaaGreatDoorMg08
import Derived.Test.YtncnepmgmphanaaGreatDoorMg06
import Derived.Test.YtncnepmgmphanaaGreatDoorMg00
import Derived.Deep.MidRow
set_option linter.unusedVariables false
set_option linter.unusedSimpArgs false
set_option linter.unusedSectionVars false
namespace Go.Proofs.YtncnepmgmphanaaGreatDoor
open Go.RowKit
variable [Inhabited SBW] {sh : Sh} {B N T : Nat} {w w' : World}
theorem altL_FI {N' : Nat} {cx : Cx} {fb r lb n cap : Nat} {t : Int} {ln : Int} {v : Value} (hw : WT kd.sig B N w) (hrow : RowIn kd w B FRT fb r) (hE : Eff (FCh B w fb r) w w')
    (hk : fc w fb r 0 = some (.int .i64 24)) (hL : RL w fb r lb n cap t) (ht : 0 ≤ t ∧ t < T) (h0 : cx.vals 0 = .slice (some ⟨lb, 0, none⟩) (n + 1) cap) (hln : ln = 1 ∨ ln ∈ lineR)
    (hv : ATok kd cx w' B N' (altL ln).1 v) (hH : ∀ o t, (altL ln).2.at (1, FRT, o) = some t → ∃ u, fc w' fb r o = some u ∧ ATok kd cx w' B N' t u) :
    ∃ k x, isRes v false k x ∧ FI T w' fb r 24 ln := by
  obtain ⟨f, hf1, hf2, hf3⟩ := id hrow
  have hnp := feff_np hf2 hE
  have o17 := fc_sl hw hrow hL.l
  obtain ⟨d, k, x, hr, hd⟩ := res_ak (n := 0) hv
  have hd' : d = false := by rw [hd]; rfl
  subst hd'
  refine ⟨k, x, hr, ⟨by rw [fc_keep hf2 hE (.inl rfl) (.inl rfl)]; exact hk, ?_, by omega, by omega, fun _ => ⟨lb, n, cap, t, ⟨?_, sl_keep o17 hnp hL.t, hL.ne⟩, hln.imp_right fun h => ⟨h, ht⟩⟩, fun h => by omega⟩⟩
  · obtain ⟨u, e, hu⟩ := hH 1 (.kon .i64 ln) rfl
    rw [e, hu.1]
  · obtain ⟨u, e, hu⟩ := hH 17 (.val 0) rfl
    have hu' : u = cx.vals 0 := hu
    rw [hu', h0] at e
    exact e
theorem resW_cell {b i k : Nat} {d : Bool} {x y : Int} (h : i ≠ b) : (resW w b d x y).cell? ⟨i, k, none⟩ = w.cell? ⟨i, k, none⟩ := by
  unfold resW
  rw [cell_ne h, cell_ne h, cell_ne h]
theorem FI.resW {b fb r : Nat} {k ln : Int} {d : Bool} {x y : Int} (h : FI T w fb r k ln) (hf : fb ≠ b) (hl : ∀ lb n cap t, RL w fb r lb n cap t → lb ≠ b) : FI T (resW w b d x y) fb r k ln := by
  have hc : ∀ o, fc (Go.Proofs.YtncnepmgmphanaaGreatDoor.resW w b d x y) fb r o = fc w fb r o := fun o => resW_cell hf
  refine ⟨by rw [hc]; exact h.c0, by rw [hc]; exact h.c1, h.lo, h.hi, fun hk => ?_, fun hk => by rw [hc]; exact h.cli hk⟩
  obtain ⟨lb, n, cap, t, rl, hh⟩ := h.run hk
  exact ⟨lb, n, cap, t, ⟨by rw [hc]; exact rl.l, by rw [resW_cell (hl _ _ _ _ rl)]; exact rl.t, rl.ne⟩, hh⟩
theorem back24_5 {fb r lb n cap t rb cr : Nat} (h : Stk sh B N T w fb r lb n cap t) (c1 : fc w fb r 1 = some (.int .i64 5)) (hrb : sh.el 19 = .slice (some ⟨rb, 0, none⟩) T cr) (hpc : PcIn w sh.pe rb t) {x y : Int} (hx : inK .i64 x) (hy : inK .i64 y) (hv : x = 3 ∨ (0 ≤ y ∧ y < T)) :
    Calls Tryz.prog 68 #[.pointer (some ⟨sh.pe, 0, none⟩), .pointer (some ⟨fb, r * 18, none⟩), .int .i64 x, .int .i64 y] w fun e w' => LineR T B (N + 5) w fb r 24 e w' := by
  have kR : kd.sig 146 = some cs_r08_result := by kernel_rfl
  have kI : kd.sig 125 = some cs_api_Instr := by kernel_rfl
  obtain ⟨f, hf1, hF, hf3⟩ := id h.row
  rw [szF] at hf3
  obtain ⟨e, he1, hEb, he3⟩ := id h.ee.blk
  obtain ⟨z, qb, m, mc, p, vp, p2, p0, p9, pv, pz⟩ := hpc
  have e9 : w.cell? ⟨sh.pe, 9, none⟩ = some (sh.el 9) := h.ee.el 9 (by decide)
  have e19 : w.cell? ⟨sh.pe, 19, none⟩ = some (.slice (some ⟨rb, 0, none⟩) T cr) := by rw [← hrb]; exact h.ee.el 19 (by decide)
  rw [e9] at p9
  cases p9
  obtain ⟨ap, np, cp, hvp⟩ : ∃ ap np cp, sh.el 9 = .slice ap np cp := by
    rcases sl_blk h.ee.o9 with h | ⟨b, n, c, cur, h, -⟩
    · exact ⟨_, _, _, h⟩
    · exact ⟨_, _, _, h⟩
  have o19 := h.ee.o19
  rw [hrb] at o19
  rcases sl_blk o19 with h' | ⟨b, n', c, cur, h', hb1, hb2, hb3, hb4, hb5⟩
  · cases h'
  cases h'
  have hzc : (t + 1) * 7 ≤ cur.size := by rw [hb4]; exact Nat.mul_le_mul_right 7 (by have := h.lt; omega)
  have hne : fb ≠ rb := fun hh => by subst hh; rw [hF] at hb2; cases hb2
  have hfl := lt_of_blk hF
  have hrl := lt_of_blk hb2
  have hel := lt_of_blk hEb
  have E : Eff (fun _ _ _ => False) w (resW0 w) := Eff.alloc1 _ _ _
  have hw0 : (resW0 w).heap.size = w.heap.size + 1 := by simp [resW0]
  have R : R5 (resW0 w) sh.pe fb (r * 18) lb n cap rb T cr np cp ap t p z :=
    ⟨by omega, by omega, by omega, E.cell c1 fun _ h => h, E.cell h.rl.l fun _ h => h, E.cell h.rl.t fun _ h => h, h.nle, by rw [← hvp]; exact E.cell e9 fun _ h => h, E.cell e19 fun _ h => h, h.lt, E.cell p0 fun _ h => h, E.cell p2 fun _ h => h⟩
  obtain ⟨i0, i1, i2, eA0, eA1, eA2, k0, k1, k2, hql⟩ : ∃ i0 i1 i2 : Int, w.cell? ⟨qb, z * 3, none⟩ = some (.int .i64 i0) ∧ w.cell? ⟨qb, z * 3 + 1, none⟩ = some (.int .i64 i1) ∧ w.cell? ⟨qb, z * 3 + 2, none⟩ = some (.int .i64 i2) ∧ inK .i64 i0 ∧ inK .i64 i1 ∧ inK .i64 i2 ∧ qb < w.heap.size := by
    rcases pv with ⟨-, hv⟩ | ⟨q, pb, cap', -, hq, e2, e3⟩
    · cases hv
    · have o9 := h.ee.o9
      rw [e2] at o9
      rcases sl_blk o9 with h' | ⟨b, n', c, cpp, h', k1, k2, k3, k4, k5⟩
      · cases h'
      cases h'
      obtain ⟨v, ev, ov⟩ := row_cell h.wt (T := 123) (L := [.sl 125 3]) (by kernel_rfl) k1 k2 (i := q) (j := 0) (by omega) (by show q % 1 = 0; omega) rfl
      rw [e3] at ev
      cases ev
      rcases sl_blk ov with h' | ⟨b, n', c, ci, h', l1, l2, l3, l4, l5⟩
      · cases h'
      cases h'
      have hyc : (z + 1) * 3 ≤ ci.size := by rw [l4]; exact Nat.mul_le_mul_right 3 (by omega)
      obtain ⟨_, eA0, A0, rfl, hA0⟩ := row_cell h.wt kI l1 l2 (i := z * 3) (j := 0) (by omega) (by show (z * 3) % 3 = 0; omega) rfl
      obtain ⟨_, eA1, A1, rfl, hA1⟩ := row_cell h.wt kI l1 l2 (i := z * 3 + 1) (j := 1) (by omega) (by show (z * 3 + 1) % 3 = 1; omega) rfl
      obtain ⟨_, eA2, A2, rfl, hA2⟩ := row_cell h.wt kI l1 l2 (i := z * 3 + 2) (j := 2) (by omega) (by show (z * 3 + 2) % 3 = 2; omega) rfl
      exact ⟨A0, A1, A2, eA0, eA1, eA2, hA0, hA1, hA2, lt_of_blk l2⟩
  have pv' : IsProg (resW0 w) (.slice ap np cp) p (.slice (some ⟨qb, 0, none⟩) m mc) := by rw [← hvp]; exact pv.mono E
  have hs := h.ee.shL (.slice (some ⟨lb, 0, none⟩) (n + 1) cap) (.slice none 0 0)
  have hz : ∀ w', AllOK w' B N cs_r08_result [.bool false, .int .i64 0, .int .i64 0] := fun w' => ⟨⟨_, rfl⟩, ⟨0, rfl, i64_in (by omega)⟩, ⟨0, rfl, i64_in (by omega)⟩, trivial⟩
  have W0 : WT kd.sig B N (resW0 w) := h.wt.alloc kR (RowsOK.one (hz _))
  have W1 : WT kd.sig B N (resW0 (resW0 w)) := W0.alloc kR (RowsOK.one (hz _))
  have hw1 : (resW0 (resW0 w)).heap.size = w.heap.size + 2 := by simp [resW0]
  have E1 : Eff (fun _ _ _ => False) w (resW0 (resW0 w)) := E.alloc _
  have hbw := h.bw
  have b0 : (resW0 (resW0 w)).heap[w.heap.size]? = some (.cells #[.bool false, .int .i64 0, .int .i64 0] 146 (0, 0)) := by
    show ((resW0 w).alloc _).heap[w.heap.size]? = _
    rw [blk_alloc_old (by omega)]
    exact blk_alloc_new w _
  have b1 : (resW0 (resW0 w)).heap[w.heap.size + 1]? = some (.cells #[.bool false, .int .i64 0, .int .i64 0] 146 (0, 0)) := by
    rw [← hw0]; exact blk_alloc_new (resW0 w) _
  have hxy : ∃ tx ty : AT, ((tx = .kon .i64 3 ∧ ty = .v (.c (.int .i64))) ∨ (tx = .v (.c (.int .i64)) ∧ ty = .ixe 19)) ∧ (∀ (cx : Cx) w' N', cx.el = sh.el → ATok kd cx w' B N' tx (.int .i64 x)) ∧ (∀ (cx : Cx) w' N', cx.el = sh.el → ATok kd cx w' B N' ty (.int .i64 y)) := by
    rcases hv with rfl | ⟨hy0, hyT⟩
    · exact ⟨_, _, .inl ⟨rfl, rfl⟩, fun _ _ _ _ => ⟨rfl, hx⟩, fun _ _ _ _ => ⟨y, rfl, hy⟩⟩
    · obtain ⟨yn, rfl⟩ : ∃ yn : Nat, y = yn := ⟨y.toNat, by omega⟩
      exact ⟨_, _, .inr ⟨rfl, rfl⟩, fun _ _ _ _ => ⟨x, rfl, hx⟩, fun cx _ _ hc => ⟨yn, rfl, by rw [hc, h.ee.recs]; omega, by have := h.ee.small; omega⟩⟩
  obtain ⟨tx, ty, hxy, hax, hay⟩ := hxy
  have hcell : w.cell? ⟨fb, r * 18, none⟩ = some (.int .i64 24) := by have := h.c0; unfold fc at this; simpa using this
  have hps : psOf kd (sg_bk5 tx ty).ps #[.pointer (some ⟨sh.pe, 0, none⟩), .pointer (some ⟨fb, r * 18, none⟩), .int .i64 x, .int .i64 y] 1 = (fb, r) := by
    simp only [psOf, sg_bk5]
    show (fb, r * 18 / kd.sz FRT) = _
    rw [szF, Nat.mul_div_cancel _ (by omega)]
  have hp1 : (cxR kd (shL sh (.slice (some ⟨lb, 0, none⟩) (n + 1) cap) (.slice none 0 0)) (sg_bk5 tx ty) #[.pointer (some ⟨sh.pe, 0, none⟩), .pointer (some ⟨fb, r * 18, none⟩), .int .i64 x, .int .i64 y] (resW0 w) (resW0 (resW0 w))).ps 1 = (fb, r) := by
    simp only [cxR]
    rw [if_neg (by omega)]; exact hps
  refine (back24_wrap w sh.pe fb (r * 18) x y (fun d k v w' => d = false ∧ inK .i64 k ∧ inK .i64 v ∧ WT kd.sig B (N + 5) w' ∧ Eff (FCh B w fb r) w w' ∧ ∃ ln', FI T w' fb r 24 ln') hfl hcell ?_).mono ?_
  · refine bkr5 (sh := shL sh (.slice (some ⟨lb, 0, none⟩) (n + 1) cap) (.slice none 0 0)) (G := GW w) (B := B) (N := N) (resW0 w) fb r lb n cap rb T cr np cp ap t p z (.int .i64 x) (.int .i64 y) tx ty R qb m mc z pv' rfl pz (by omega) i0 i1 i2 (E.cell eA0 fun _ h => h) (E.cell eA1 fun _ h => h) (E.cell eA2 fun _ h => h) hne (Ne.symm hne) (hs.ev h.wt) (safe_GW w) (hs.claim h.wt) (hs.probe h.wt) (E.mono fun _ _ _ _ h => h.elim) hxy ?_ (by omega) h.nn ?_
    · -- the state behind the instruction
      rintro w1 E1' a hsz s0 s1 s2 s3 s8 s9 s10 s11 ⟨q', rfl⟩ hdef
      have hE1 : Eff (fun _ _ _ => False) (resW0 (resW0 w)) (((resW0 (resW0 w)).drewN q').alloc (.cells #[.int .i64 i0, .int .i64 i1, .int .i64 i2] 125)) := ((Eff.refl _ _).drewN q').alloc _
      have hIb : (((resW0 (resW0 w)).drewN q').alloc (.cells #[.int .i64 i0, .int .i64 i1, .int .i64 i2] 125)).heap[w.heap.size + 2]? = some (.cells #[.int .i64 i0, .int .i64 i1, .int .i64 i2] 125 (0, 0)) := by
        rw [← hw1]; exact blk_alloc_new ((resW0 (resW0 w)).drewN q') _
      have hEw := E1.trans hE1
      refine ⟨hsz, hdef, ?_, hE1.mono fun _ _ _ _ h => h.elim, ?_, ?_⟩
      · exact (W1.drewN q').alloc kI (RowsOK.one ⟨⟨i0, rfl, k0⟩, ⟨i1, rfl, k1⟩, ⟨i2, rfl, k2⟩, trivial⟩)
      · unfold gm5
        refine lk_cons (by rw [s0]; exact ⟨sh.pe, 0, by simp [shL], by rw [szE]; omega, h.ee.blk.mono hEw, rfl, rfl⟩) ?_
        refine lk_cons (by rw [s1]; exact ⟨fb, r, by rw [show kd.sz 118 = 18 from szF]; simp, by rw [show kd.sz 118 = 18 from szF]; omega, h.row.mono hEw, hp1, by show fb < (resW0 (resW0 w)).heap.size; omega⟩) ?_
        refine lk_cons (by rw [s2]; exact hax _ _ _ rfl) ?_
        refine lk_cons (by rw [s3]; exact hay _ _ _ rfl) ?_
        refine lk_cons (by rw [s8]; exact ⟨(resW0 w).heap.size, 0, by simp, by decide, ⟨_, by omega, (by rw [hw0]; exact (hE1.blk b1 fun _ _ h => h)), by decide⟩, by simp [cxR], by show (resW0 w).heap.size < (resW0 (resW0 w)).heap.size; omega⟩) ?_
        refine lk_cons (by rw [s9]; exact ⟨t, rfl, by show t < slLen (sh.el 19); rw [h.ee.recs]; exact h.lt, by have := h.ee.small; have := h.lt; omega⟩) ?_
        refine lk_cons (by rw [s10]; exact ⟨rb, t, by rw [show kd.sz 137 = 7 by kernel_rfl]; simp, by decide, RowIn.mono ⟨_, hb1, hb2, by rw [show kd.sz 137 = 7 by kernel_rfl]; exact hzc⟩ hEw, trivial⟩) ?_
        refine lk_cons (by rw [s11]; exact ⟨w.heap.size + 2, 0, by rw [hw0]; simp, by decide, ⟨_, by omega, hIb, by show (0 + 1) * kd.sz 125 ≤ 3; decide⟩, by show (resW0 (resW0 w)).heap.size ≤ w.heap.size + 2; omega⟩) ?_
        exact lk_nil
      · intro i T' o u hu
        have hm := Hm.at_mem hu
        simp only [sg_bk5, List.mem_cons, List.not_mem_nil, or_false, Prod.mk.injEq] at hm
        have hp1' : (cxR kd (shL sh (.slice (some ⟨lb, 0, none⟩) (n + 1) cap) (.slice none 0 0)) (sg_bk5 tx ty) #[.pointer (some ⟨(shL sh (.slice (some ⟨lb, 0, none⟩) (n + 1) cap) (.slice none 0 0)).pe, 0, none⟩), .pointer (some ⟨fb, r * 18, none⟩), .int .i64 x, .int .i64 y] (resW0 w) ((resW0 w).alloc (.cells #[.bool false, .int .i64 0, .int .i64 0] 146))).ps 1 = (fb, r) := hp1
        rcases hm with ⟨⟨rfl, rfl, rfl⟩, rfl⟩ | ⟨⟨rfl, rfl, rfl⟩, rfl⟩
        · exact ⟨by rw [hp1']; show fb < (resW0 (resW0 w)).heap.size; omega, by rw [show kd.sz 118 = 18 from szF]; omega, by rw [hp1']; exact h.row.mono hEw, _, by rw [hp1', show kd.sz 118 = 18 from szF]; exact hEw.cell c1 fun _ h => h, rfl, i64_in (by omega)⟩
        · exact ⟨by rw [hp1']; show fb < (resW0 (resW0 w)).heap.size; omega, by rw [show kd.sz 118 = 18 from szF]; omega, by rw [hp1']; exact h.row.mono hEw, _, by rw [hp1', show kd.sz 118 = 18 from szF]; exact hEw.cell h.rl.l fun _ h => h, rfl⟩
    · -- what is left
      intro Γ H n2 a w2 hk hst
      obtain ⟨q, hq, hk'⟩ := List.any_eq_true.1 hk
      obtain ⟨r1, rp, v, r2, r3⟩ := retR_ok (by show B ≤ (resW0 (resW0 w)).heap.size; omega) hst hk'
      have r1' : n2 ≤ 5 := r1
      have hE2 : Eff (FCh B w fb r) w w2 := by
        refine (E1.mono fun _ _ _ _ h => h.elim).trans (hst.eff.mono fun k U j hk hc => ?_)
        rcases hc with hc | ⟨i, o, hm, rfl, rfl, hBk⟩ | ⟨o, hm, rfl, hBk⟩
        · exact .inl (by have : (resW0 (resW0 w)).heap.size ≤ k := hc; omega)
        · rcases List.mem_append.1 hm with hm | hm
          · have := List.all_eq_true.1 (show effFr effK = true by decide) _ hm
            simp only [Bool.and_eq_true, decide_eq_true_eq] at this
            obtain ⟨⟨⟨rfl, rfl⟩, g1⟩, g2⟩ := this
            have e1 : ((cxR kd (shL sh (.slice (some ⟨lb, 0, none⟩) (n + 1) cap) (.slice none 0 0)) (sg_bk5 tx ty) #[.pointer (some ⟨sh.pe, 0, none⟩), .pointer (some ⟨fb, r * 18, none⟩), .int .i64 x, .int .i64 y] (resW0 w) (resW0 (resW0 w))).ps 1).2 = r := by rw [hp1]
            have e2 : ((cxR kd (shL sh (.slice (some ⟨lb, 0, none⟩) (n + 1) cap) (.slice none 0 0)) (sg_bk5 tx ty) #[.pointer (some ⟨sh.pe, 0, none⟩), .pointer (some ⟨fb, r * 18, none⟩), .int .i64 x, .int .i64 y] (resW0 w) (resW0 (resW0 w))).ps 1).1 = fb := by rw [hp1]
            have key : ∀ z, z = r → r * 18 < z * kd.sz FRT + o ∧ z * kd.sz FRT + o < (r + 1) * 18 := by rintro z rfl; rw [szF]; omega
            exact .inr (.inl ⟨e2, (key _ e1).1, (key _ e1).2⟩)
          · obtain ⟨o', -, e⟩ := List.mem_map.1 hm
            cases e
            exact .inl (by show w.heap.size ≤ (resW0 w).heap.size; omega)
        · rcases List.mem_append.1 hm with hm | hm
          · have := List.all_eq_true.1 (show effFr effK = true by decide) _ hm
            simp only [Bool.and_eq_true, decide_eq_true_eq, Bool.not_eq_true'] at this
            refine .inr (.inr ⟨this.1, fun hx => ?_, hBk⟩)
            have h2 := List.contains_iff_mem.2 hx
            rw [this.2] at h2
            cases h2
          · obtain ⟨o', -, e⟩ := List.mem_map.1 hm
            cases e
      have hbr : w2.heap[w.heap.size]? = some (.cells #[.bool false, .int .i64 0, .int .i64 0] 146 (0, 0)) := by
        obtain ⟨c', g1, g2, g3⟩ := hst.eff.cells _ _ _ _ b0
        rw [g1]
        have : c' = #[.bool false, .int .i64 0, .int .i64 0] := by
          apply Array.ext_getElem?
          intro j
          refine g3 j ?_
          rintro (hc | ⟨i, o, hm, he, -⟩ | ⟨o, hm, -⟩)
          · have : (resW0 (resW0 w)).heap.size ≤ w.heap.size := hc
            omega
          · rcases List.mem_append.1 hm with hm | hm
            · have := List.all_eq_true.1 (show effFr effK = true by decide) _ hm
              simp only [Bool.and_eq_true, decide_eq_true_eq] at this
              obtain ⟨⟨⟨rfl, -⟩, -⟩, -⟩ := this
              have he' : w.heap.size = fb := he.trans (congrArg Prod.fst hp1)
              omega
            · obtain ⟨o', -, e⟩ := List.mem_map.1 hm
              cases e
              have : w.heap.size = (resW0 w).heap.size := he
              omega
          · have := List.all_eq_true.1 (show eff5.all (fun e => match e with | .ty U _ => decide (U ≠ 146) | _ => true) = true by decide) _ hm
            simp at this
        rw [this]
      refine ⟨hst.defers, v, r2, ?_⟩
      have fin : ∀ ln : Int, (ln = 1 ∨ ln ∈ lineR) → q = altL ln → ∃ d k v', Ending.returned v = .returned (.agg #[.bool d, .int .i64 k, .int .i64 v']) ∧ w2.heap[w.heap.size]? = some (.cells #[.bool false, .int .i64 0, .int .i64 0] 146 (0, 0)) ∧ d = false ∧ inK .i64 k ∧ inK .i64 v' ∧ WT kd.sig B (N + 5) (resW w2 w.heap.size d k v') ∧ Eff (FCh B w fb r) w (resW w2 w.heap.size d k v') ∧ ∃ ln', FI T (resW w2 w.heap.size d k v') fb r 24 ln' := fun ln hln hql => by
        subst hql
        obtain ⟨k, x', ⟨rfl, hk1, hk2⟩, fi⟩ := altL_FI (T := T) (t := t) (ln := ln) h.wt h.row hE2 h.c0 h.rl ⟨by omega, by have := h.lt; omega⟩ rfl hln r3 (fun o u hu => by
          obtain ⟨-, -, -, v, k4, k5⟩ := rp 1 FRT o u hu
          have key : ∀ p : Nat × Nat, p = (fb, r) → w2.cell? ⟨p.1, p.2 * kd.sz FRT + o, none⟩ = some v → fc w2 fb r o = some v := by rintro p rfl hh; rw [szF] at hh; exact hh
          exact ⟨v, key _ hp1 k4, k5⟩)
        have g1 := blk_setCell hbr 0 (.bool false)
        have g2 := blk_setCell g1 1 (.int .i64 k)
        have hwt2 : WT kd.sig B (N + 5) w2 := hst.wt.mono (by omega)
        refine ⟨false, k, x', rfl, hbr, rfl, hk1, hk2, ?_, ?_, ln, fi.resW (by omega) fun lb' n' cap' t' rl => ?_⟩
        · exact ((hwt2.set hbr kR (i := 0) (ck := .bool) rfl ⟨_, rfl⟩).set g1 kR (i := 1) (ck := .int .i64) rfl ⟨_, rfl, hk1⟩).set g2 kR (i := 2) (ck := .int .i64) rfl ⟨_, rfl, hk2⟩
        · exact ((hE2.setT hbr (.inr (Nat.le_refl _))).setT g1 (.inr (Nat.le_refl _))).setT g2 (.inr (Nat.le_refl _))
        · rintro rfl
          rcases sl_blk (fc_sl hwt2 (h.row.mono hE2) rl.l) with hx | ⟨b, n3, c3, cur3, hx, q1, q2, -⟩
          · cases hx
          cases hx
          rw [hbr] at q2
          cases q2
      simp only [alts5, List.mem_cons, List.not_mem_nil, or_false] at hq
      rcases hq with hq | hq
      · exact fin 1 (.inl rfl) hq
      · exact fin 6 (.inr (by decide)) hq
  · rintro e w' ⟨d, k, v, rfl, rfl, h1, h2, h3, h4, h5⟩
    exact ⟨_, rfl, h3, h4, false, k, v, ⟨rfl, h1, h2⟩, fun _ => h5⟩
end Go.Proofs.YtncnepmgmphanaaGreatDoor

namespace Go.Proofs.YtncnepmgmphanaaGreatDoor
open Go.RowKit
variable [Inhabited SBW] {sh : Sh} {B N T : Nat} {w w' : World}
theorem back_any {fb r rb cr : Nat} (h : At sh B N T w fb r) {k c x y : Int} (hP : PI sh T w rb fb r k c) (hrb : sh.el 19 = .slice (some ⟨rb, 0, none⟩) T cr) (hx : inK .i64 x) (hy : inK .i64 y) (hv : c = 12 → x = 3 ∨ (0 ≤ y ∧ y < T)) :
    Calls Tryz.prog 68 #[.pointer (some ⟨sh.pe, 0, none⟩), .pointer (some ⟨fb, r * 18, none⟩), .int .i64 x, .int .i64 y] w fun e w' => LineR T B (N + 5) w fb r k e w' := by
  by_cases h24 : k = 24
  · subst h24
    obtain ⟨lb, n, cap, t, ln, rl, ht0, htT, hl, hln⟩ := hP.run rfl
    obtain ⟨z, rfl⟩ : ∃ z : Nat, t = z := ⟨t.toNat, by omega⟩
    have S := h.stk hP.c0 rl (by omega)
    rcases hln with hln | ⟨rfl, rfl, hpc⟩
    · by_cases h22 : ln = 22 ∧ x = 1
      · obtain ⟨rfl, rfl⟩ := h22
        exact back24_22g S hl hy
      · refine back24_line S hl ?_ (fun e hx1 => h22 ⟨e, hx1⟩) hx hy
        simp only [List.mem_cons, List.not_mem_nil, or_false] at hln ⊢
        omega
    · exact back24_5 S hl hrb hpc hx hy (hv rfl)
  · exact back_other h hP h24 hx hy hv
end Go.Proofs.YtncnepmgmphanaaGreatDoor

namespace Go.Proofs.YtncnepmgmphanaaGreatDoor
open Go.RowKit
variable [Inhabited SBW] {sh : Sh} {B N T : Nat} {w w' : World}
theorem enter_25 {fb r rb : Nat} (h : At sh B N T w fb r) {ln : Int} (hF : FI T w fb r 25 ln) (h7 : ln ≠ 7) :
    Calls Tryz.prog 66 #[.pointer (some ⟨sh.pe, 0, none⟩), .pointer (some ⟨fb, r * 18, none⟩)] w fun e w' => EnterR sh T B (N + 1) w rb fb r 25 e w' := by
  obtain ⟨f, hf1, hFb, hf3⟩ := id h.row
  obtain ⟨ln', hl', hlk⟩ := fc_int h.wt h.row (o := 1) (by omega) rfl
  rw [hF.c1] at hl'
  cases hl'
  refine (use_tca0 (fb := fb) (r := r) (tca_ent25 (h.ee.ev h.wt) (safe_GW w)) (Eff.refl _ w) (by decide) rfl h.wt h.bw (by have := h.nn; show N + 1 ≤ _; omega) h.row rfl rfl (args2_ok h.ee rfl rfl) (fun o t' ht' => ?_)).mono ?_
  · have hm := Hm.at_mem ht'
    simp only [sg_ent25, List.mem_cons, List.not_mem_nil, or_false, Prod.mk.injEq] at hm
    rcases hm with ⟨⟨-, -, rfl⟩, rfl⟩ | ⟨⟨-, -, rfl⟩, rfl⟩
    · exact ⟨_, hF.c0, rfl, i64_in (by omega)⟩
    · exact ⟨_, hF.c1, ln, rfl, hlk, h7⟩
  · rintro e w' ⟨v, rfl, g1, hps, g2, q, hq, g3, -⟩
    simp only [List.mem_singleton] at hq
    subst hq
    have hfe := feff (w := w) (by decide) rfl hps g2
    have c0' : fc w' fb r 0 = some (.int .i64 25) := by rw [fc_keep hFb hfe (.inl rfl) (.inl rfl)]; exact hF.c0
    obtain ⟨cs, ok, rfl, ha, ⟨c, hc, hcs⟩, hok⟩ := tup_frame g3 (.inr ⟨_, rfl⟩)
    obtain rfl := hok _ rfl
    have hr : ∀ c ∈ ([18, 23, 22, 21, 2, 14, 19, 4] : List Int), rank c < rank 25 ∧ 0 ≤ c ∧ c < 24 := by decide
    obtain ⟨r1, r2, r3⟩ := hr c hc
    exact ⟨cs, true, rfl, g1, ha, hfe, (fun hx => by cases hx), fun _ => ⟨c, hcs, ⟨c0', by omega, by omega, r1, r2, by omega, fun hx => by omega, fun hx => by omega⟩, fun hx => by omega⟩⟩
end Go.Proofs.YtncnepmgmphanaaGreatDoor

namespace Go.Proofs.YtncnepmgmphanaaGreatDoor
open Go.RowKit
variable {B N : Nat}
def allocs (w : World) : List Obj → World
  | [] => w
  | o :: l => allocs (w.alloc o) l
theorem allocs_heap : ∀ (l : List Obj) (w : World), (allocs w l).heap = w.heap ++ l.toArray
  | [], w => by simp [allocs]
  | o :: l, w => by
    rw [allocs, allocs_heap l, show (w.alloc o).heap = w.heap.push o from rfl]
    simp
theorem allocs_eff : ∀ (l : List Obj) (w : World), Eff (fun _ _ _ => False) w (allocs w l)
  | [], w => Eff.refl _ _
  | o :: l, w => (Eff.alloc1 _ _ _).trans (allocs_eff l _)
theorem WT.allocs {sig : Sig} {w : World} (h : WT sig B N w) (l : List Obj) (hl : ∀ c T f L, Obj.cells c T f ∈ l → sig T = some L → f = (0, 0) ∧ RowsOK (allocs w l) B N L c) : WT sig B N (allocs w l) := by
  intro k c T f L hk hh hL
  rw [allocs_heap, Array.getElem?_append] at hh
  split at hh
  · obtain ⟨h1, h2, h3⟩ := h k c T f L hk hh hL
    exact ⟨h1, h2, fun i v hi => by obtain ⟨ck, e, o⟩ := h3 i v hi; exact ⟨ck, e, o.mono (allocs_eff l w) (Nat.le_refl _)⟩⟩
  · rw [List.getElem?_toArray] at hh
    obtain ⟨h1, h2, h3⟩ := hl c T f L (List.mem_of_getElem? hh) hL
    exact ⟨h1, h2, h3⟩
theorem results_cell {P : Program} {fn : Func} {tmps : Array Value} {w : World} {x b T : Nat} {cs : List Value} {d : TypeDesc} (hr : fn.results = #[.cell x T]) (hx : tmps.getD x undef = .pointer (some ⟨b, 0, none⟩)) (hc : w.rangeAt b 0 cs) (hu : P.underlying T = some d) (hd : d.isRow = true) (hi : (P.info? T).map (·.size) = some cs.length) : (results fn tmps).run P w = .ok (.agg cs.toArray) w := by
  rw [results_eq, hr]
  have : (resSem tmps (.cell x T)).run P w = .ok (.agg cs.toArray) w := by
    simp only [resSem, hx, asAddr, Sem.run_bind, Sem.run_pure, Result.andThen_ok]
    exact run_loadVar_mid w b 0 T cs d hc hu hd hi
  simp [this]
theorem rangeAt_arr {w : World} {b : Nat} {c : Array Value} {T : TypeId} {f : Nat × Nat} (h : w.heap[b]? = some (.cells c T f)) : w.rangeAt b 0 c.toList := fun j v hj => by
  rw [Nat.zero_add, cell_blk h, ← Array.getElem?_toList]; exact hj
def runRow (A t : Int) (b : Nat) : Array Value := #[.int .i64 24, .int .i64 0, .int .i64 0, .int .i64 0, .int .i64 0, .int .i64 0, .int .i64 A, .int .i64 t, .int .i64 0, .int .i64 0, .int .i64 0, .int .i64 0, .int .i64 0, .int .u64 0, .int .u64 0, .int .u64 0, .int .u64 0, .slice (some ⟨b, 0, none⟩) 1 1]
set_option maxRecDepth 100000 in
set_option maxHeartbeats 1000000 in
theorem RunFrame_any (w : World) (A t : Int) : Calls Tryz.prog 133 #[.int .i64 A, .int .i64 t] w fun e w' => e = .returned (.agg (runRow A t (w.heap.size + 1))) ∧ w' = (w.alloc (.cells (runRow A t (w.heap.size + 1)) 118)).alloc (.cells #[.int .i64 t] 3) := by
  go_enter Tryz.func133, Tryz.ntmps133
  go_wp2_with fail
  obtain ⟨w', hw'⟩ : ∃ w', w' = (w.alloc (.cells (runRow A t (w.heap.size + 1)) 118)).alloc (.cells #[.int .i64 t] 3) := ⟨_, rfl⟩
  have hb : w'.heap[w.heap.size]? = some (.cells (runRow A t (w.heap.size + 1)) 118 (0, 0)) := by
    rw [hw', blk_alloc_old (by simp)]; exact blk_alloc_new _ _
  have hr := fun tmps hx => results_cell (P := Tryz.prog) (fn := Tryz.f133) (tmps := tmps) (x := 4) (T := 118) rfl hx (rangeAt_arr hb) rfl rfl rfl
  unfold runRow at hw'
  rw [← hw']
  exact bodyPost_ret (hr _ rfl) rfl ⟨rfl, hw'⟩
end Go.Proofs.YtncnepmgmphanaaGreatDoor

namespace Go.Proofs.YtncnepmgmphanaaGreatDoor
open Go.RowKit
theorem blk_setCells {b : Nat} {T : TypeId} : ∀ (vs : List Value) (o : Nat) (w : World) (arr : Array Value), w.heap[b]? = some (.cells arr T (0, 0)) → o + vs.length ≤ arr.size →
    ∃ arr' : Array Value, (w.setCells b o vs).heap[b]? = some (.cells arr' T (0, 0)) ∧ arr'.size = arr.size ∧ (∀ j, j < o ∨ o + vs.length ≤ j → arr'[j]? = arr[j]?) ∧ ∀ j, j < vs.length → arr'[o + j]? = vs[j]?
  | [], o, w, arr, h, _ => ⟨arr, h, rfl, fun _ _ => rfl, fun j hj => by simp at hj⟩
  | v :: r, o, w, arr, h, hl => by
    simp only [List.length_cons] at hl
    obtain ⟨arr', h1, h2, h3, h4⟩ := blk_setCells r (o + 1) (w.setCell ⟨b, o, none⟩ v) (arr.setIfInBounds o v) (blk_setCell h o v) (by simp; omega)
    refine ⟨arr', h1, by simpa using h2, fun j hj => ?_, fun j hj => ?_⟩
    · rw [h3 j (by simp at hj; omega), Array.getElem?_setIfInBounds_ne (by simp at hj; omega)]
    · cases j with
      | zero =>
        rw [Nat.add_zero, h3 o (by omega), Array.getElem?_setIfInBounds_self_of_lt (by omega)]
        rfl
      | succ j =>
        simp only [List.length_cons] at hj
        have := h4 j (by omega)
        rw [show o + (j + 1) = o + 1 + j from by omega, this]
        rfl
theorem only_setCells (b : Nat) : ∀ (vs : List Value) (o : Nat) (w : World), Only [b] w (w.setCells b o vs)
  | [], _, w => Only.refl _ _
  | v :: r, o, w => ((Only.refl [b] w).setCell (by simp) v).trans (only_setCells b r (o + 1) _) (by simp)
def Stored (w w' : World) (b : Nat) (cs : List Value) : Prop := Only [b] w w' ∧ ∀ (arr : Array Value) (T : TypeId), w.heap[b]? = some (.cells arr T (0, 0)) → arr.size = cs.length → w'.heap[b]? = some (.cells cs.toArray T (0, 0))
theorem stored_setCells (w : World) (b : Nat) (cs : List Value) : Stored w (w.setCells b 0 cs) b cs := by
  refine ⟨only_setCells b cs 0 w, fun arr T h hs => ?_⟩
  obtain ⟨arr', h1, h2, _, h4⟩ := blk_setCells cs 0 w arr h (by omega)
  rw [h1]
  congr 2
  apply Array.ext_getElem?
  intro i
  by_cases hi : i < cs.length
  · have := h4 i hi
    rw [Nat.zero_add] at this
    rw [this]; simp
  · rw [Array.getElem?_eq_none (by omega), Array.getElem?_eq_none (by simp; omega)]
theorem run_results_cell_tmp {P : Program} {fn : Func} {tmps : Array Value} {w : World} (x y : Nat) (t : TypeId) {a : Addr} {v u : Value} (hF : fn.results = #[.cell x t, .tmp y]) (hx : tmps.getD x undef = .pointer (some a)) (hl : (loadVar t a).run P w = .ok v w) (hy : tmps.getD y undef = u) :
    (results fn tmps).run P w = .ok (.tuple #[v, u]) w := by
  have h1 : asAddr (tmps.getD x undef) = pure a := by rw [hx]; rfl
  rw [Array.getD_eq_getD_getElem?] at h1 hy
  unfold results
  rw [hF]
  simp [h1, hy, hl, Result.andThen_ok]
theorem run_results_cell {P : Program} {fn : Func} {tmps : Array Value} {w : World} (x : Nat) (t : TypeId) {a : Addr} {v : Value} (hF : fn.results = #[.cell x t]) (hx : tmps.getD x undef = .pointer (some a)) (hl : (loadVar t a).run P w = .ok v w) :
    (results fn tmps).run P w = .ok v w := by
  have h1 : asAddr (tmps.getD x undef) = pure a := by rw [hx]; rfl
  rw [Array.getD_eq_getD_getElem?] at h1
  unfold results
  rw [hF]
  simp [h1, hl]
theorem rangeAt_blk {w : World} {b : Nat} {cs : List Value} {T : TypeId} {f : Nat × Nat} (h : w.heap[b]? = some (.cells cs.toArray T f)) : w.rangeAt b 0 cs := fun j v hv => by
  rw [Nat.zero_add, cell_blk h]
  simpa using hv
theorem there_blk {w : World} {b : Nat} {arr : Array Value} {T : TypeId} (h : w.heap[b]? = some (.cells arr T (0, 0))) : w.there b 0 arr.size := fun j hj => by
  rw [Nat.zero_add, cell_blk h]
  exact ⟨by rw [Array.getElem?_eq_getElem hj]; rfl, free_blk h j⟩
end Go.Proofs.YtncnepmgmphanaaGreatDoor
