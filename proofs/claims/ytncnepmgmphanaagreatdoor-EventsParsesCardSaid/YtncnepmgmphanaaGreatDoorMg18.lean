/- A slice made of one frame, and a frame appended, as steps. No condition beside those named. -/
import Derived.Test.YtncnepmgmphanaaGreatDoorMg17
set_option linter.unusedVariables false
set_option linter.unusedSimpArgs false
set_option linter.unusedSectionVars false
namespace Go.Proofs.YtncnepmgmphanaaGreatDoor
section
open Go.RowKit
variable [Inhabited cK] {B N : Nat}
theorem FC : ∃ i z, Tryz.prog.info? 118 = some i ∧ i.zero = some z ∧ z.cells = dm ∧ i.size = 18 ∧ i.bytes ≤ 1024 := by
 have h1 : (Tryz.prog.info? 118).map (fun i => (i.zero.map (·.cells), i.size, decide (i.bytes ≤ 1024))) = some (some dm, 18, true) := by kernel_rfl
 cases hi : Tryz.prog.info? 118 with
 | none => rw [hi] at h1; cases h1
 | some i =>
   rw [hi] at h1
   simp only [Option.map_some, Option.some.injEq, Prod.mk.injEq, decide_eq_true_eq, Option.map_eq_some_iff] at h1
   obtain ⟨⟨z, hz, hc⟩, h2, h3⟩ := h1
   exact ⟨i, z, rfl, hz, hc, h2, h3⟩
theorem Ad : Tryz.prog.underlying 139 = some (.slice 118) := by kernel_rfl
theorem ag1 (a0 a1 a2 a3 a4 a5 a6 a7 a8 a9 a10 a11 a12 a13 a14 a15 a16 a17 : Value) : Instr.fill (fun i => some (i * 18, 18)) dm [(0, .agg #[a0, a1, a2, a3, a4, a5, a6, a7, a8, a9, a10, a11, a12, a13, a14, a15, a16, a17])] = some #[a0, a1, a2, a3, a4, a5, a6, a7, a8, a9, a10, a11, a12, a13, a14, a15, a16, a17] := by kernel_rfl
theorem aji : ∀ {cs : List Value}, cs.length = 18 → Instr.fill (fun i => some (i * 18, 18)) dm [(0, .agg cs.toArray)] = some cs.toArray
 | [a0, a1, a2, a3, a4, a5, a6, a7, a8, a9, a10, a11, a12, a13, a14, a15, a16, a17], _ => ag1 a0 a1 a2 a3 a4 a5 a6 a7 a8 a9 a10 a11 a12 a13 a14 a15 a16 a17
theorem tL {op : Oper} {a : Act} {w : World} {K : Act → World → Prop} {Q : Exit → Act → World → Prop} {x : Operand} {cs : List Value} (ho : op.op = .buildSlice 139 1 #[(0, x)]) (hx : a.eval x = .agg cs.toArray) (hl : cs.length = 18)
   (h : K (a.put op.dst (.slice (some ⟨w.heap.size, 0, none⟩) 1 1)) (w.alloc (.cells cs.toArray 118))) : op.wp Tryz.prog a w K Q := by
 obtain ⟨i, z, hi, hz, hzc, hs, hb⟩ := FC
 have hrun : (execOp a.eval op).run Tryz.prog w = .ok (.value (.slice (some ⟨w.heap.size, 0, none⟩) 1 1)) (w.alloc (.cells cs.toArray 118)) := by
   have hf := aji hl
   have hrg : (Array.range 18).map (fun k => dm[k % dm.size]!) = dm := by kernel_rfl
   unfold execOp
   simp only [ho]
   simp [Instr.buildSlice, run_underlying Ad, sizeOf, typeInfo, hi, hs, zeroValue, hz, newRow, hzc, hx]
   rw [hrg, hf]
   rfl
 unfold Oper.wp
 rw [hrun]
 exact h
theorem vY {op : Oper} {a : Act} {w : World} {K : Act → World → Prop} {Q : Exit → Act → World → Prop} {s x : Operand} {cs : List Value} {g n cap b : Nat} {cur : Array Value} (ho : op.op = .call { callee := .builtin .append, args := #[s, x], argTypes := #[139, 139] })
   (hs : a.eval s = .slice (some ⟨g, 0, none⟩) n cap) (hx : a.eval x = .slice (some ⟨b, 0, none⟩) 1 1) (hw : WT kd.sig B N w) (hBw : B ≤ w.heap.size) (hg0 : B ≤ g) (hg : w.heap[g]? = some (.cells cur bT (0, 0))) (hnc : n ≤ cap) (hcm : cap ≤ maxLen) (hcs : cur.size = cap * 18) (hn : bJ w B N ax cs) (hb : w.heap[b]? = some (.cells cs.toArray bT (0, 0))) (hN : n < 68719476736)
   (h : ∀ g' cap' w', I9 kd bT 18 B N w g n cs g' cap' w' → K (a.put op.dst (.slice (some ⟨g', 0, none⟩) (n + 1) cap')) w') : op.wp Tryz.prog a w K Q := by
 obtain ⟨i, z, hi, hz, hzc, hsz, hby⟩ := FC
 have hl : cs.length = 18 := by rw [← hn.len]; rfl
 obtain ⟨g', cap', w', hr, A⟩ := mg (P := Tryz.prog) (kd := kd) (L := ax) (ty := op.type) (a := ⟨b, 0, none⟩) (c := 1) (news := cs) Ad hi hz hsz hby (by rw [hzc]; decide) (by decide) kF hw hBw hg0 hg hnc hcm hcs (aT.one hn) hl (fun j u hj => by rw [Go.WideShapes.add_plain, Nat.zero_add, aa hb]; simpa using hj) hN
 unfold Oper.wp execOp
 simp only [ho, resolve, invoke, builtin, Sem.run_bind, Sem.run_pure, Result.andThen_ok, List.map_toArray, List.map_cons, List.map_nil, hs, hx, hr]
 exact h g' cap' w' A
variable {sh : Sh} {T : Nat} {rb cr mb di n fb cap : Nat} {w0 : World} {κ : Nat → Int} {c2 c3 : Int}
abbrev RT : Nat := 146
theorem kR : kd.sig RT = some af := by kernel_rfl
theorem abv {w w' : World} {fb r k : Nat} {c : Array Value} (hb : w.heap[k]? = some (.cells c RT (0, 0))) (h : Eff (lT B w fb r) w w') (hF : ∃ f, w.heap[fb]? = some (.cells f bT (0, 0))) : w'.heap[k]? = some (.cells c RT (0, 0)) := by
 obtain ⟨c', h1, h2, h3⟩ := h.cells _ _ _ _ hb
 rw [h1]
 congr 2
 refine kK fun j => h3 j ?_
 have hk := aK hb
 obtain ⟨f, hf⟩ := hF
 rintro (hx | ⟨rfl, -⟩ | ⟨-, hx⟩)
 · omega
 · rw [hf] at hb; cases hb
 · have M8 : kd.sz RT = 3 := by kernel_rfl
   have hx := hx.1
   rw [M8] at hx
   have h4 : j % 3 = 0 ∨ j % 3 = 1 ∨ j % 3 = 2 := by omega
   rcases h4 with e | e | e <;> rw [e] at hx <;> exact hx (by decide)
theorem LP.box {w : World} {d : Bool} {c x : Int} {tb : Nat} {v0 v1 v2 : Value} (h : LP sh B T rb w0 mb di N w n κ fb cap c2 c3 d c x) (hrb : sh.el 19 = .slice (some ⟨rb, 0, none⟩) T cr) (hb : w.heap[tb]? = some (.cells #[v0, v1, v2] RT (0, 0))) (hn : w0.heap.size ≤ tb) :
   LP sh B T rb w0 mb di N (dw w tb d c x) n κ fb cap c2 c3 d c x ∧ (dw w tb d c x).heap[tb]? = some (.cells #[.bool d, .int .i64 c, .int .i64 x] RT (0, 0)) := by
 have g1 := aR hb 0 (.bool d)
 have g2 := aR g1 1 (.int .i64 c)
 have g3 := aR g2 2 (.int .i64 x)
 obtain ⟨cur, -, f2, -⟩ := h.sl.blk
 have hm := h.sl.A8
 have hf : tb ≠ fb := fun e => by
   subst e
   rw [f2] at hb
   cases hb
 have ho : ∀ j, Out w0 mb fb tb RT j := fun j => ⟨hf, by omega, hn, by
   have : ∀ q, (RT, q) ∉ eB := fun q hq => by simp [eB, ae, RT] at hq
   exact this _⟩
 have hE : Eff (Out w0 mb fb) w (dw w tb d c x) := (((Eff.refl _ w).dK hb (.inl (ho 0))).dK g1 (.inl (ho 1))).dK g2 (.inl (ho 2))
 have hw : WT kd.sig B N (dw w tb d c x) := ((h.sl.wt.set hb kR (i := 0) (ck := .bool) rfl ⟨_, rfl⟩).set g1 kR (i := 1) (ck := .int .i64) rfl ⟨_, rfl, h.ic⟩).set g2 kR (i := 2) (ck := .int .i64) rfl ⟨_, rfl, h.ix⟩
 refine ⟨h.out hrb (Nat.le_refl _) hw hE, ?_⟩
 unfold dw
 rw [g3]
 simp
theorem Uz (w : World) : bJ w B N af [.bool false, .int .i64 0, .int .i64 0] := ⟨⟨_, rfl⟩, ⟨0, rfl, i64_in (by omega)⟩, ⟨0, rfl, i64_in (by omega)⟩, trivial⟩
def Av (sh : Sh) (T rb B N' : Nat) (w : World) (mb fb : Nat) (e : Ending) (w' : World) : Prop :=
 ∃ b dP, e = .returned (.bool b) ∧ WT kd.sig B N' w' ∧ Eff (Td B w mb fb) w w' ∧ MI sh T rb w' mb dP ∧ (dP = fb ∨ w.heap.size ≤ dP) ∧ ∃ f, w'.heap[dP]? = some (.cells f bT (0, 0))
theorem ag7 {w : World} {a c d : Value} {v0 v1 v2 v3 : Value} (h : w.heap[mb]? = some (.cells #[v0, v1, v2, v3] MT (0, 0))) : MI sh T rb ((((w.setCell ⟨mb, 0, none⟩ a).setCell ⟨mb, 1, none⟩ (.bool true)).setCell ⟨mb, 2, none⟩ c).setCell ⟨mb, 3, none⟩ d) mb fb := by
 refine .inl ⟨a, c, d, ?_⟩
 have e := aR (aR (aR (aR h 0 a) 1 (.bool true)) 2 c) 3 d
 simpa only [List.setIfInBounds_toArray, List.set_cons_zero, List.set_cons_succ] using e
theorem aej {w : World} {c x : Int} {N' : Nat} (q : Nat) (h : LP sh B T rb w0 mb di N w 0 κ fb cap c2 c3 true c x) (hN : N ≤ N') : Av sh T rb B N' w0 mb di (.returned (.bool true)) (((((w.setCell ⟨mb, 0, none⟩ (.slice (some ⟨fb, 0, none⟩) 0 cap)).drewN q).setCell ⟨mb, 1, none⟩ (.bool true)).setCell ⟨mb, 2, none⟩ (.int .i64 c)).setCell ⟨mb, 3, none⟩ (.int .i64 x)) := by
 obtain ⟨cur, f1, f2, f3, f4, f5, f6⟩ := h.sl.blk
 have m0 := h.sl.fF
 unfold iC at m0
 have m1 := aR m0 0 (.slice (some ⟨fb, 0, none⟩) 0 cap)
 have m2 : ((w.setCell ⟨mb, 0, none⟩ (.slice (some ⟨fb, 0, none⟩) 0 cap)).drewN q).heap[mb]? = _ := m1
 have m3 := aR m2 1 (.bool true)
 have m4 := aR m3 2 (.int .i64 c)
 have w1 := (h.sl.wt.set h.sl.fF kM (i := 0) (ck := .sl bT 18) rfl (Ez (m := 0) (Nat.zero_le _) f1 f2 (Nat.zero_le _) f4 f5)).drewN q
 refine ⟨true, fb, rfl, ((((w1.set m2 kM (i := 1) (ck := .bool) rfl ⟨_, rfl⟩).set m3 kM (i := 2) (ck := .int .i64) rfl ⟨_, rfl, h.ic⟩).set m4 kM (i := 3) (ck := .int .i64) rfl ⟨_, rfl, h.ix⟩)).mono hN, ?_, ?_, h.sl.JO, ?_⟩
 · exact (((((h.sl.aS.trans (u6 h.sl.fF)).drewN q).trans (u6 m2)).trans (u6 m3)).trans (u6 m4))
 · exact ag7 (w := w.drewN q) m0
 · have hne := tZ h.sl.fF f2
   refine ⟨cur, ?_⟩
   rw [bM (Ne.symm hne), bM (Ne.symm hne), bM (Ne.symm hne)]
   show (w.setCell _ _).heap[fb]? = _
   rw [bM (Ne.symm hne)]
   exact f2
theorem acy {w : World} {c x : Int} {N' : Nat} (h : LP sh B T rb w0 mb di N w n κ fb cap c2 c3 false c x) (hN : N ≤ N') : Av sh T rb B N' w0 mb di (.returned (.bool false)) w := by
 obtain ⟨h12, hl⟩ := h.stay rfl
 obtain ⟨cur, f1, f2, -⟩ := h.sl.blk
 exact ⟨false, fb, rfl, h.sl.wt.mono hN, h.sl.aS, .inr ⟨n, κ, cap, c2, c3, h.sl.mr h12 hl⟩, h.sl.JO, cur, f2⟩
end
section
open Go.RowKit
abbrev ET : Nat := 70
abbrev PT : Nat := 113
abbrev IT : Nat := 3
section
variable [Inhabited cK] {sh : Sh} {B N T : Nat} {w w' : World} {rb cr mb fb : Nat}
abbrev Un (pe xb : Nat) (k : Nat) (U : TypeId) (j : Nat) : Prop := (k = uO ∧ U = IT) ∨ (k = xb ∧ U = ET) ∨ (k = pe ∧ (j = 17 ∨ j = 18))
theorem EE.keepD {xb : Nat} (h : EE sh B N T w) (hw : WT kd.sig B N w) {N' : Nat} (hN : N ≤ N') (g : Eff (Un sh.pe xb) w w') : EE sh B N' T w' := by
 obtain ⟨e, h1, h2, h3⟩ := h.blk
 have pc : ∀ q, q ≠ 17 → q ≠ 18 → w'.cell? ⟨sh.pe, q, none⟩ = w.cell? ⟨sh.pe, q, none⟩ := fun q hq1 hq2 => by
   obtain ⟨c', k1, k2, k3⟩ := g.cells _ _ _ _ h2
   rw [aa k1, aa h2, k3]
   rintro (⟨-, hx⟩ | ⟨-, hx⟩ | ⟨-, hx⟩)
   · exact absurd hx (by decide)
   · exact absurd hx (by decide)
   · omega
 have hp : qX w' (sh.el 9) := by
   intro pb n cap hvp i hi qb m mc hc j hj
   have o9 := h.o9
   have hpr := h.Fz
   rw [hvp] at o9
   rcases df o9 with hh | ⟨b, n', c, cur, hh, k1, k2, k3, k4, k5⟩
   · cases hh
   cases hh
   have e1 : w'.cell? ⟨pb, i, none⟩ = w.cell? ⟨pb, i, none⟩ := by
     obtain ⟨c', l1, l2, l3⟩ := g.cells _ _ _ _ k2
     rw [aa l1, aa k2, l3]
     rintro (⟨-, hx⟩ | ⟨-, hx⟩ | ⟨rfl, -⟩)
     · exact absurd hx (by decide)
     · exact absurd hx (by decide)
     · rw [h2] at k2; cases k2
   rw [e1] at hc
   obtain ⟨a, a1, a2⟩ := hpr pb n cap hvp i hi qb m mc hc j hj
   obtain ⟨v, ev, ov⟩ := bZ hw (T := 123) (L := [.sl 125 3]) (by kernel_rfl) k1 k2 (i := i) (j := 0) (by omega) (by show i % 1 = 0; omega) rfl
   rw [hc] at ev
   cases ev
   rcases df ov with hh | ⟨b, n', c, cur', hh, l1, l2, l3, l4, l5⟩
   · cases hh
   cases hh
   refine ⟨a, ?_, a2⟩
   rw [← a1]
   obtain ⟨c', m1, m2, m3⟩ := g.cells _ _ _ _ l2
   rw [aa m1, aa l2, m3]
   rintro (⟨-, hx⟩ | ⟨-, hx⟩ | ⟨rfl, -⟩)
   · exact absurd hx (by decide)
   · exact absurd hx (by decide)
   · rw [h2] at l2; cases l2
 refine ⟨fun q hq => ?_, h.blk.mono g, (pc 3 (by omega) (by omega)).trans h.tasks, h.recs, h.small, h.workers, h.o9.mono g hN, h.pI.mono g hN, h.yB.mono g hN, h.mY.mono g hN, hp, Nat.lt_of_lt_of_le h.Tg g.size⟩
 have hq' : q = 0 ∨ q = 9 ∨ q = 10 ∨ q = 11 ∨ q = 19 := by simpa [aQ] using hq
 rw [pc q (by omega) (by omega)]
 exact h.el q hq
theorem RL.keepD {pe xb fb r lb n cap : Nat} {t : Int} {f : Array Value} (h : RL w fb r lb n cap t) (hw : WT kd.sig B N w) (hrow : eO kd w B bT fb r) (hp : ∃ c, w.heap[pe]? = some (.cells c 66 (0, 0))) (g : Eff (Un pe xb) w w') (K : ∀ o, fc w' fb r o = fc w fb r o) : RL w' fb r lb n cap t := by
 refine ⟨(K 17).trans h.l, ?_, h.ne⟩
 obtain ⟨e, h2⟩ := hp
 rcases df (qM hw hrow h.l) with hh | ⟨b, n', c, cur, hh, k1, k2, k3, k4, k5⟩
 · cases hh
 cases hh
 obtain ⟨c', l1, l2, l3⟩ := g.cells _ _ _ _ k2
 rw [aa l1, l3, ← aa k2]
 · exact h.t
 rintro (⟨hx, -⟩ | ⟨-, hx⟩ | ⟨rfl, -⟩)
 · exact h.ne hx
 · exact absurd hx (by decide)
 · rw [h2] at k2; cases k2
theorem MI.keepD {pe xb : Nat} (h : MI sh T rb w mb fb) (hw : WT kd.sig B N w) (bm : B ≤ mb) (hp : ∃ c, w.heap[pe]? = some (.cells c 66 (0, 0))) (g : Eff (Un pe xb) w w') : MI sh T rb w' mb fb := by
 have other : ∀ (b : Nat) (c : Array Value) (U : TypeId), w.heap[b]? = some (.cells c U (0, 0)) → U ≠ IT → U ≠ ET → U ≠ 66 → w'.heap[b]? = some (.cells c U (0, 0)) := fun b c U hb u1 u2 u3 => by
   obtain ⟨e, h2⟩ := hp
   obtain ⟨c', l1, l2, l3⟩ := g.cells _ _ _ _ hb
   rw [l1]
   congr 2
   refine kK fun j => l3 j ?_
   rintro (⟨-, hx⟩ | ⟨-, hx⟩ | ⟨rfl, -⟩)
   · exact u1 hx
   · exact u2 hx
   · rw [h2] at hb; cases hb; exact u3 rfl
 rcases h with ⟨v0, v2, v3, hx⟩ | ⟨n, κ, cap, c2, c3, h⟩
 · exact .inl ⟨v0, v2, v3, other _ _ _ hx (by decide) (by decide) (by decide)⟩
 · refine .inr ⟨n, κ, cap, c2, c3, ?_⟩
   obtain ⟨v, e, o⟩ := bZ hw kM bm h.fF (i := 0) (j := 0) (by simp [iC]) rfl rfl
   rw [aa h.fF] at e
   cases e
   obtain ⟨n', xs, hn, hl, ⟨hx, -⟩ | ⟨b, cp, cur, hx, f1, f2, f3, f4, f5, f6⟩⟩ := o
   · cases hx
   cases hx
   have row : ∀ i, i ≤ n → eO kd w B bT fb i := fun i hi => ⟨cur, f1, f2, by rw [dR, f5]; exact Nat.mul_le_mul_right 18 (by omega)⟩
   have dP := other _ _ _ f2 (by decide) (by decide) (by decide)
   have K : ∀ i o, fc w' fb i o = fc w fb i o := fun i o => by unfold fc; rw [aa dP, aa f2]
   have rlk : ∀ {i lb m cp t}, i ≤ n → RL w fb i lb m cp t → RL w' fb i lb m cp t := fun hi h => h.keepD (f := #[]) hw (row _ hi) hp g (K _)
   refine ⟨other _ _ _ h.fF (by decide) (by decide) (by decide), fun i hi => ?_, h.PZ, h.lo, h.hi, ?_⟩
   · have hP := h.pairs i hi
     refine ⟨(K _ _).trans hP.c0, hP.lo, hP.hi, hP.rk, hP.clo, hP.Uj, fun hk => ?_, fun hk => ?_⟩
     · obtain ⟨lb, m, cp, t, ln, rl, h0, h1, h2, h3⟩ := hP.run hk
       exact ⟨lb, m, cp, t, ln, rlk (by omega) rl, h0, h1, (K _ _).trans h2, h3.imp_right fun ⟨_, e2, _⟩ => absurd e2 (h.PZ i hi)⟩
     · obtain ⟨i', ln, h1, h2, h3, h4⟩ := hP.vk hk
       exact ⟨i', ln, (K _ _).trans h1, h2, (K _ _).trans h3, h4⟩
   · obtain ⟨ln, hF⟩ := h.last
     refine ⟨ln, (K _ _).trans hF.c0, (K _ _).trans hF.c1, hF.lo, hF.hi, fun hk => ?_, fun hk => ?_⟩
     · obtain ⟨lb, m, cp, t, rl, hh⟩ := hF.run hk
       exact ⟨lb, m, cp, t, rlk (Nat.le_refl _) rl, hh⟩
     · obtain ⟨i, hi, h0⟩ := hF.vk hk
       exact ⟨i, (K _ _).trans hi, h0⟩
end
section
variable {sh : Sh} {B N T : Nat} {w w' : World} {rb cr mb fb : Nat}
abbrev bY (sb : Nat) : Inhabited cK := ⟨⟨sb⟩⟩
theorem agT {b i : Nat} {v : Value} (h : w.cell? ⟨b, i, none⟩ = some v) : b < w.heap.size := by
 unfold World.cell? at h
 split at h
 · rename_i hh; exact aK hh
 · cases h
theorem MI.swap {s s' : Nat} (h : @MI (bY s) sh T rb w mb fb) (hs : w.heap.size ≤ s') : @MI (bY s') sh T rb w mb fb := by
 letI : Inhabited cK := bY s
 have rlk : ∀ {i lb m cp t}, @RL (bY s) w fb i lb m cp t → @RL (bY s') w fb i lb m cp t := fun h => by
   refine @RL.mk (bY s') _ _ _ _ _ _ _ h.l h.t ?_
   have := agT h.t
   show _ ≠ s'
   omega
 rcases h with hx | ⟨n, κ, cap, c2, c3, h⟩
 · exact .inl hx
 · refine .inr ⟨n, κ, cap, c2, c3, @MR.mk (bY s') _ _ _ _ _ _ _ _ _ _ _ h.fF (fun i hi => ?_) h.PZ h.lo h.hi ?_⟩
   · have hP := h.pairs i hi
     refine @PI.mk (bY s') _ _ _ _ _ _ _ _ hP.c0 hP.lo hP.hi hP.rk hP.clo hP.Uj (fun hk => ?_) hP.vk
     obtain ⟨lb, m, cp, t, ln, rl, hh⟩ := hP.run hk
     exact ⟨lb, m, cp, t, ln, rlk rl, hh⟩
   · obtain ⟨ln, hF⟩ := h.last
     refine ⟨ln, @FI.mk (bY s') _ _ _ _ _ _ hF.c0 hF.c1 hF.lo hF.hi (fun hk => ?_) hF.vk⟩
     obtain ⟨lb, m, cp, t, rl, hh⟩ := hF.run hk
     exact ⟨lb, m, cp, t, rlk rl, hh⟩
theorem EE.swap {s s' : Nat} (h : @EE (bY s) sh B N T w) (hs : s' < w.heap.size) : @EE (bY s') sh B N T w := by
 letI : Inhabited cK := bY s
 exact @EE.mk (bY s') _ _ _ _ _ h.el h.blk h.tasks h.recs h.small h.workers h.o9 h.pI h.yB h.mY h.Fz hs
end
end
end Go.Proofs.YtncnepmgmphanaaGreatDoor
