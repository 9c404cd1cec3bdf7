/- An actor of the reference's game that begins. -/
import Derived.Test.YtfhkhknnoepfeaaGreatHistRefAct
namespace Go.Proofs.YtfhkhknnoepfeaaGreat
open Go.RowKit
set_option linter.unusedVariables false

theorem first_step (q : Q4) (x : Int × Int) (s : MS) : (newK q x).over = false ∧ (newK q x).code = 0 ∧ (newK q x).val = 0 ∧ (stepK (newK q x) s).1.over = false := by
  unfold newK
  split
  · exact ⟨rfl, rfl, rfl, rfl⟩
  · split <;> exact ⟨rfl, rfl, rfl, rfl⟩

section
variable {w0 w w' : World} {B n c rb r rc : Nat} {ys fs : Nat → Nat} {avs mvs : Nat → Value} {kks vvs : Nat → Int} {g : Gm}
theorem RG.beginMore (h : RG w0 w B n c rb r rc ys fs avs mvs kks vvs g) {a : Nat} (ha : a < n) {x : Int × Int} {rr : List (Int × Int)} (hn : (g.acs a).now = none) (hx : (g.acs a).acts = x :: rr) {y f : Nat}
    (hy : w.heap.size ≤ y ∧ w.heap.size ≤ f ∧ y ≠ f ∧ y < w'.heap.size ∧ f < w'.heap.size) (u : Chg [y, f, r, rc] rb (a * 5) (a * 5 + 5) w w') (hM : RMach w' y f (stepK (newK (q0 c) x) g.mem).1) (hE : REnvAt w' r rc (stepK (newK (q0 c) x) g.mem).2 0)
    {av' : Value} (hA : AcAt w' rb (a * 5) av' (.pointer (some ⟨y, 0, none⟩)) x.1 x.2 g.pick) (hV : ActsAt w' av' rr) (hVB : ∀ ad m cp, av' = .slice (some ad) m cp → ∃ ad2 m2 cp2, avs a = .slice (some ad2) m2 cp2 ∧ ad2.block = ad.block) :
    ActPost w0 B n c rb r rc g ((g.set a ⟨rr, some (newK (q0 c) x, op0 a g.pick x)⟩).stepped a (newK (q0 c) x) (op0 a g.pick x)) w (.returned (.tuple #[HOp.zero.v, .bool false])) w' := by
  obtain ⟨f1, f2, f3, f4⟩ := first_step (q0 c) x g.mem
  have ho := stepped_more (g := g.set a ⟨rr, some (newK (q0 c) x, op0 a g.pick x)⟩) (a := a) (k := newK (q0 c) x) (o := op0 a g.pick x) f4
  obtain ⟨y1, y2, y3, y4, y5⟩ := hy
  have lB := h.lt.2.2.2.2.2.2.2.2.2
  refine ⟨HOp.zero, false, _, _, _, _, _, _, rfl, h.next ha (av' := av') (mv' := .pointer (some ⟨y, 0, none⟩)) (kk' := x.1) (vv' := x.2) (y' := y) (f' := f) u (fun t ht => ?_) (fun b hb => by rw [stepped_ne hb, set_ne hb]) hE ?_ ?_ hVB (fun k2 o2' e => ?_) (fun k2 o2' e => ?_), fun v m xs hv => h.ops u.o (y := y) (f := f) (fun t ht => ?_) (.inl y1) (.inl y2) hv, .inl ⟨rfl, ho.1⟩, (fun b obj q1 q2 q3 q4 hb => u.o.keep hb (by simp; omega)), (fun b arr z q1 hb => h.opb u.o (y := y) (f := f) (fun t ht => by simp at ht; omega) (.inl y1) (.inl y2) q1 hb), u.o.size⟩
  · simp at ht
    rcases ht with e | e | e | e
    · exact .inr (.inr (.inr (by omega)))
    · exact .inr (.inr (.inr (by omega)))
    · exact .inl e
    · exact .inr (.inl e)
  · have : sinceOf (((g.set a ⟨rr, some (newK (q0 c) x, op0 a g.pick x)⟩).stepped a (newK (q0 c) x) (op0 a g.pick x)).acs a) = g.pick := by unfold sinceOf; rw [ho.2]; rfl
    rw [this]; exact hA
  · rw [stepped_acts, set_same]; exact hV
  · rw [ho.2] at e
    cases e
    exact ⟨rfl, rfl, fun e0 => by show x.2 = (if x.1 = 0 then x.2 else 0); rw [if_pos (show x.1 = 0 from e0)], rfl, fun e0 => by show (if x.1 = 0 then x.2 else 0) = 0; rw [if_neg (show ¬ x.1 = 0 from e0)]⟩
  · rw [ho.2] at e
    cases e
    exact ⟨hM, stepK_z0 ⟨f2, f3⟩ f4, y3, y4, y5, .inr ⟨y1, y2⟩⟩
  · simp at ht
    rcases ht with e | e | e | e
    · exact .inr (.inr (.inl e))
    · exact .inr (.inr (.inr (.inl e)))
    · exact .inl e
    · exact .inr (.inl e)
end
end Go.Proofs.YtfhkhknnoepfeaaGreat

/- An actor of the reference's game that begins, walked. -/
namespace Go.Proofs.YtfhkhknnoepfeaaGreat
open Go.RowKit
set_option linter.unusedVariables false

/-- Where an actor stands when it has taken its next act. -/
def BegAt (w wx : World) (rb p b : Nat) (mv : Value) (xk xv pk : Int) (rr : List (Int × Int)) : Prop :=
  ∃ av', AcAt wx rb p av' mv xk xv pk ∧ Chg [] rb p (p + 5) w wx ∧ ActsAt wx av' rr ∧ ∀ ad m cp, av' = .slice (some ad) m cp → ad.block = b

theorem set_cell_at {w : World} {b i : Nat} {arr : Array Value} {T : TypeId} {f : Nat × Nat} (h : w.heap[b]? = some (.cells arr T f)) (hi : i < arr.size) (v : Value) : (w.setCell ⟨b, i, none⟩ v).cell? ⟨b, i, none⟩ = some v := by
  rw [cell_blk (blk_setCell h i v)]; simp [hi]
theorem beg_at {w w1 : World} {rb p b : Nat} {mv av' : Value} {xk xv pk : Int} {rr : List (Int × Int)} {arr : Array Value} (o1 : Only [] w w1) (hl : rb < w.heap.size) (h : w1.heap[rb]? = some (.cells arr 66 (0, 0))) (hs : p + 4 < arr.size) (h1 : w1.cell? ⟨rb, p + 1, none⟩ = some mv)
    (hV : ∀ w', Only [rb] w1 w' → ActsAt w' av' rr) (hb : ∀ ad m cp, av' = .slice (some ad) m cp → ad.block = b) :
    BegAt w ((((w1.setCell ⟨rb, p + 2, none⟩ (.int .i64 xk)).setCell ⟨rb, p + 2 + 1, none⟩ (.int .i64 xv)).setCell ⟨rb, p, none⟩ av').setCell ⟨rb, p + 4, none⟩ (.int .i64 pk)) rb p b mv xk xv pk rr := by
  have b1 := blk_setCell h (p + 2) (.int .i64 xk)
  have b2 := blk_setCell b1 (p + 3) (.int .i64 xv)
  have b3 := blk_setCell b2 p av'
  have c : Chg [] rb p (p + 5) w1 ((((w1.setCell ⟨rb, p + 2, none⟩ (.int .i64 xk)).setCell ⟨rb, p + 2 + 1, none⟩ (.int .i64 xv)).setCell ⟨rb, p, none⟩ av').setCell ⟨rb, p + 4, none⟩ (.int .i64 pk)) :=
    ((((Chg.refl w1).set (by omega) _).set (by omega) _).set (by omega) _).set (by omega) _
  refine ⟨av', ⟨?_, ?_, ?_, ?_, ?_⟩, ?_, hV _ c.o, hb⟩
  · rw [cell_set_ne (.inr (by omega))]; exact set_cell_at b2 (by simp; omega) _
  · rw [cell_set_ne (.inr (by omega)), cell_set_ne (.inr (by omega)), cell_set_ne (.inr (by omega)), cell_set_ne (.inr (by omega))]; exact h1
  · rw [cell_set_ne (.inr (by omega)), cell_set_ne (.inr (by omega)), cell_set_ne (.inr (by omega))]; exact set_cell_at h (by omega) _
  · rw [cell_set_ne (.inr (by omega)), cell_set_ne (.inr (by omega))]; exact set_cell_at b1 (by simp; omega) _
  · exact set_cell_at b3 (by simp; omega) _
  · have c0 : Chg [] rb p (p + 5) w w1 := (Chg.refl w).then0 hl o1
    refine ⟨c0.o.trans c.o (fun t ht => .inl ht), fun i hi => by rw [c.k i hi, c0.k i hi], fun arr h => ?_⟩
    obtain ⟨a2, h2⟩ := c0.h arr h
    exact c.h a2 h2

theorem BegAt.drew {w wx : World} {rb p b : Nat} {mv : Value} {xk xv pk : Int} {rr : List (Int × Int)} (h : BegAt w wx rb p b mv xk xv pk rr) (hl : rb < w.heap.size) : BegAt w wx.drew rb p b mv xk xv pk rr := by
  obtain ⟨av', h1, h2, h3, h4⟩ := h
  exact ⟨av', h1, h2.then0 hl (Only.refl _ _).drew, h3.keep0 (Only.refl _ _).drew, h4⟩

set_option maxRecDepth 100000 in
set_option maxHeartbeats 8000000 in
theorem refAct_begin {w0 : World} (w : World) {B n c rb r rc : Nat} {ys fs : Nat → Nat} {avs mvs : Nat → Value} {kks vvs : Nat → Int} {g : Gm} (h : RG w0 w B n c rb r rc ys fs avs mvs kks vvs g) (hc : c ≤ 1000000) (hcb : g.mem.count ≤ g.pick) (hp : g.pick < 900000) {a : Nat} (ha : a < n) {x : Int × Int} {rr : List (Int × Int)} (hn : (g.acs a).now = none) (hx : (g.acs a).acts = x :: rr) (hxk : x.1 = 0 ∨ x.1 = 1 ∨ x.1 = 2) :
    Calls Tryz.prog 23 #[.pointer (some ⟨r, 0, none⟩), .agg #[.int .i64 0, .int .i64 1, .int .i64 2, .int .i64 c], .pointer (some ⟨rb, a * 5, none⟩), .int .i64 a, .int .i64 g.pick] w (ActPost w0 B n c rb r rc g ((g.set a ⟨rr, some (newK (q0 c) x, op0 a g.pick x)⟩).stepped a (newK (q0 c) x) (op0 a g.pick x)) w) := by
  have HH := Lib.hid h
  have HN := Lib.hid hn
  have HX := Lib.hid hx
  obtain ⟨l1, l2, l3, l4, l5, l6, l7, l8, l9, l10⟩ := h.lt
  have hA := h.A a ha
  rw [show sinceOf (g.acs a) = -1 by unfold sinceOf; rw [hn]] at hA
  obtain ⟨a0, a1, a2, a3, a4⟩ := hA
  obtain ⟨arrH, hH⟩ := h.H
  have hV := h.V a ha
  rw [hx] at hV
  obtain ⟨sao, scp, hav, hcs, hsn, hscp⟩ := hV
  have HAV := Lib.hid hav
  rw [hav] at a0
  obtain ⟨b, off, rfl, d0, d1, ht⟩ := acts_tail hcs hscp
  have hvb := h.VB a ha _ _ _ hav
  simp only at hvb
  obtain ⟨v1, v2, v3, v4⟩ := hvb
  have HT := Lib.hid ht
  obtain ⟨m, hm⟩ : ∃ m, m = rr.length := ⟨_, rfl⟩
  have HM := Lib.hid hm
  rw [List.length_cons, ← hm] at a0 hscp
  obtain ⟨mv, hmv⟩ : ∃ mv, mv = mvs a := ⟨_, rfl⟩
  rw [← hmv] at a1
  obtain ⟨p, hp5⟩ : ∃ p, p = a * 5 := ⟨_, rfl⟩
  have HP := Lib.hid hp5
  rw [← hp5] at a0 a1 a2 a3 a4 ⊢
  obtain ⟨pk, hpk⟩ : ∃ pk : Int, pk = g.pick := ⟨_, rfl⟩
  rw [← hpk]
  have HPK := Lib.hid hpk
  obtain ⟨xk, xv⟩ := x
  simp only at d0 d1 hxk
  obtain ⟨w1, hw1⟩ : ∃ w1, w1 = ((w.alloc (.cells #[.int .i64 0, .int .i64 1, .int .i64 2, .int .i64 c] 50)).alloc (.cells #[.int .i64 0, .int .i64 0, .int .i64 0, .int .i64 0, .int .i64 0, .int .i64 0] 36)) := ⟨_, rfl⟩
  have hrl : rb < w.heap.size := by omega
  have hl1 : rb < w.heap.size + 1 := by omega
  have hl2 : rb < w.heap.size + 1 + 1 := by omega
  have hrne : rb ≠ b ∧ b ≠ rb := by omega
  have hbl : b < w.heap.size := lt_of_cell d0
  have HB := Lib.hid hH
  clear h hn hx hcs hsn hav ht hm hmv hp5 hpk hH
  go_enter Tryz.func23, Tryz.ntmps23
  go_upto_region 4 with fail
  rw [← hw1]
  have o1 : Only [] w w1 := by rw [hw1]; exact ((Only.refl _ _).alloc _).alloc _
  have O1 := Lib.hid o1
  have hH1 := o1.keep HB.out (by simp)
  have H1 := Lib.hid hH1
  have b0 := o1.keepCell a0 (by simp)
  have b1 := o1.keepCell a1 (by simp)
  have b2 := o1.keepCell a2 (by simp)
  have b3 := o1.keepCell a3 (by simp)
  have b4 := o1.keepCell a4 (by simp)
  have e0 := o1.keepCell d0 (by simp)
  have e1 := o1.keepCell d1 (by simp)
  have ff := fun q => free_blk hH1 q
  have hsz : p + 4 < arrH.size := by
    have hc4 := b4
    rw [cell_blk hH1] at hc4
    exact (Array.getElem?_eq_some_iff.1 hc4).1
  have hrl3 := lt_of_blk hH1
  have hw1s : w1.heap.size = w.heap.size + 1 + 1 := by rw [hw1]; simp
  have hqb : w1.heap[w.heap.size]? = some (.cells #[.int .i64 0, .int .i64 1, .int .i64 2, .int .i64 c] 50 (0, 0)) := by
    rw [hw1, blk_alloc_old (by simp)]; exact blk_alloc_new w _
  have hzb : w1.heap[w.heap.size + 1]? = some (.cells #[.int .i64 0, .int .i64 0, .int .i64 0, .int .i64 0, .int .i64 0, .int .i64 0] 36 (0, 0)) := by
    have hz := blk_alloc_new (w.alloc (.cells #[.int .i64 0, .int .i64 1, .int .i64 2, .int .i64 c] 50)) (.cells #[.int .i64 0, .int .i64 0, .int .i64 0, .int .i64 0, .int .i64 0, .int .i64 0] 36)
    simp only [World.size_alloc] at hz
    rw [hw1]; exact hz
  have QB := Lib.hid hqb
  have ZB := Lib.hid hzb
  have W1S := Lib.hid hw1s
  clear o1 a0 a1 a2 a3 a4 d0 d1 hw1 hH1 hqb hzb hw1s
  go_cut [] (fun wx => BegAt w wx rb p b mv xk xv pk rr ∧ Only [rb] w1 wx)
  case first =>
    have hm0 : (0 : Int) ≤ m := by omega
    by_cases hcap : scp = 1
    · subst hcap
      obtain rfl : m = 0 := by omega
      go_region
      all_goals
        try go_wp2_with fail
        go_meet
        refine ⟨(beg_at O1.out hrl H1.out hsz b1 (fun w' o => ⟨some ⟨b, off, none⟩, 0, by rw [← HM.out], ?_, (fun e => by cases e), by have := HM.out; omega⟩) (fun ad m cp e => by cases e; rfl)).drew hrl, ?_⟩
        · exact (HT.out _ (fun h => by have := HM.out; omega)).keep ((O1.out.mono (by simp)).trans o (fun t ht => .inl ht)) (fun q hq => by cases hq; simp; omega)
        · exact (((((Only.refl [rb] w1).setCell (.inl (by simp)) _).setCell (.inl (by simp)) _).setCell (.inl (by simp)) _).setCell (.inl (by simp)) _).drew
    · obtain ⟨scp, rfl⟩ : ∃ k, scp = k + 2 := ⟨scp - 2, by omega⟩
      go_region
      all_goals
        try go_wp2_with fail
        go_meet
        refine ⟨(beg_at O1.out hrl H1.out hsz b1 (fun w' o => ⟨some ⟨b, off + 2, none⟩, scp + 1, by rw [← HM.out], ?_, (fun e => by cases e), by have := HM.out; omega⟩) (fun ad m cp e => by cases e; rfl)).drew hrl, ?_⟩
        · exact (HT.out _ (fun _ => rfl)).keep ((O1.out.mono (by simp)).trans o (fun t ht => .inl ht)) (fun q hq => by cases hq; simp; omega)
        · exact (((((Only.refl [rb] w1).setCell (.inl (by simp)) _).setCell (.inl (by simp)) _).setCell (.inl (by simp)) _).setCell (.inl (by simp)) _).drew
  case rest =>
    obtain ⟨⟨av', ⟨c0, c1, c2, c3, c4⟩, chg, hV', hvb'⟩, o2⟩ := hcut
    have CH := Lib.hid chg
    have VV := Lib.hid hV'
    have VB := Lib.hid hvb'
    have CO : Hid (Only [rb] w wc) := Lib.hid ((O1.out.mono (by simp)).trans o2 (fun t ht => .inl ht))
    have hq := o2.keep QB.out (by simp; omega)
    have hz := o2.keep ZB.out (by simp; omega)
    have q0' := cell_blk hq 0
    have q1' := cell_blk hq 1
    have q2' := cell_blk hq 2
    have q3' := cell_blk hq 3
    simp at q0' q1' q2' q3'
    obtain ⟨arrc, hbc⟩ := chg.h _ HB.out
    have HBc := Lib.hid hbc
    have ffc := fun q => free_blk hbc q
    have hws := W1S.out
    have hrlc := lt_of_blk hbc
    obtain ⟨zb, hzbd⟩ : ∃ zb, zb = w.heap.size + 1 := ⟨_, rfl⟩
    rw [← hzbd] at hz ⊢
    have ZBc := Lib.hid hz
    have hzl := lt_of_blk hz
    have hzw : w.heap.size + 1 ≤ zb ∧ zb ≤ w.heap.size + 1 := by omega
    clear hzbd hws chg hV' hvb' o2 hq hz b0 b1 b2 b3 b4 e0 e1 ff hbc QB ZB
    rcases hxk with hk | hk | hk
    · subst hk
      have NK : Hid (newK (q0 c) (0, xv) = newPush (q0 c) xv) := Lib.hid rfl
      have MK : ∀ w', Hid (Calls Tryz.prog 34 #[.agg #[.int .i64 0, .int .i64 0, .int .i64 0, .int .i64 1, .int .i64 2, .int .i64 c, .int .i64 xv, .int .i64 0, .int .i64 0, .int .i64 0, .int .i64 0, .int .i64 0, .int .i64 0, .int .u64 0, .int .u64 0, .int .u64 0, .int .u64 0, .slice none 0 0]] w' (MakePost ⟨0, q0 c, xv, 0, 0, 0, 0, 0, false, 0, 0⟩ w')) := fun w' => Lib.hid (make_any w' ⟨0, q0 c, xv, 0, 0, 0, 0, 0, false, 0, 0⟩ (show (0 : Nat) ≤ 4 by omega) rfl rfl)
      have STEP : ∀ (y fb : Nat) (w' w4 : World), Only [] wc w4 → RMach w4 y fb (newPush (q0 c) xv) → wc.heap.size ≤ y → wc.heap.size ≤ fb → y ≠ fb → Only [rb] w4 w' → Hid (Calls Tryz.prog 35 #[.pointer (some ⟨y, 0, none⟩), .pointer (some ⟨r, 0, none⟩)] w' (fun e w'' => e = .returned (.bool false) ∧ Only [y, fb, r, rc] w' w'' ∧ RMach w'' y fb (stepK (newPush (q0 c) xv) g.mem).1 ∧ REnvAt w'' r rc (stepK (newPush (q0 c) xv) g.mem).2 0)) := fun y fb w' w4 o4 hM hy1 hy2 hy3 o5 => Lib.hid (by
        have hs4 := o4.size
        have hs5 := o5.size
        have hsc := CO.out.size
        have hok := newK_ok (x := (0, xv)) hc
        rw [NK.out] at hok
        have hh := rstep_any w' y fb r rc 0 (newPush (q0 c) xv) g.mem (show (0 : Nat) ≤ 4 by omega) (fun _ => hok) (fun _ => ⟨rfl, rfl⟩) ⟨⟨by omega, by omega⟩, by omega, by omega, hy3⟩ (by omega) (hM.keep o5 (by simp; omega) (by simp; omega)) (((HH.out.E.keep CO.out (by simp; omega) (by simp; omega)).keep o4 (by simp) (by simp)).keep o5 (by simp; omega) (by simp; omega)) (by omega)
        unfold RStep at hh
        rw [show (stepK (newPush (q0 c) xv) g.mem).1.over = false from rfl] at hh
        exact hh)
      have FIN : ∀ (y fb : Nat) (w4 w5 w6 w7 : World), Only [] wc w4 → wc.heap.size ≤ y → wc.heap.size ≤ fb → y ≠ fb → y < w4.heap.size → fb < w4.heap.size → w5 = w4.setCell ⟨rb, p + 1, none⟩ (.pointer (some ⟨y, 0, none⟩)) → Only [y, fb, r, rc] w5 w6 → RMach w6 y fb (stepK (newPush (q0 c) xv) g.mem).1 → REnvAt w6 r rc (stepK (newPush (q0 c) xv) g.mem).2 0 → Only [zb] w6 w7 →
          Hid (ActPost w0 B n c rb r rc g ((g.set a ⟨rr, some (newK (q0 c) (0, xv), op0 a g.pick (0, xv))⟩).stepped a (newK (q0 c) (0, xv)) (op0 a g.pick (0, xv))) w (.returned (.tuple #[HOp.zero.v, .bool false])) w7) := fun y fb w4 w5 w6 w7 o4 hy1 hy2 hy3 hy4 hy5 e5 o6 hM hE o7 => Lib.hid (by
        have hs4 := o4.size
        have hs6 := o6.size
        have hs7 := o7.size
        have hsc := CO.out.size
        have h45 : Only [rb] w4 w5 := by rw [e5]; exact (Only.refl _ _).setCell (.inl (by simp)) _
        have hs5 := h45.size
        have hS : rb ∉ [y, fb, r, rc] := by simp; omega
        have u5 : Chg [y, fb, r, rc] rb p (p + 5) w w5 := by rw [e5]; exact ((((CH.out.then0 hrl o4)).mono (T := [y, fb, r, rc]) (by simp)).set (by omega) _)
        have u7 := (u5.then hrl hS o6).thenN hrl (T := [zb]) (fun t ht => by simp at ht; omega) o7
        have hzr : zb ≠ rb ∧ zb ≠ b ∧ b ≠ y ∧ b ≠ fb ∧ zb ≠ y ∧ zb ≠ fb ∧ zb ≠ r ∧ zb ≠ rc := by omega
        have o57 : Only [y, fb, r, rc, zb] w5 w7 := (o6.mono (by simp)).trans (o7.mono (by simp)) (fun t ht => .inl ht)
        have cl : ∀ j v, j ≠ p + 1 → wc.cell? ⟨rb, j, none⟩ = some v → w7.cell? ⟨rb, j, none⟩ = some v := fun j v hj hv => o57.keepCell (by rw [e5, cell_set_ne (.inr hj)]; exact o4.keepCell hv (by simp)) (by simp; omega)
        have c1' : w7.cell? ⟨rb, p + 1, none⟩ = some (.pointer (some ⟨y, 0, none⟩)) := o57.keepCell (by
          rw [e5]
          obtain ⟨arr4, h4⟩ := (CH.out.then0 hrl o4).h _ HB.out
          have hz : p + 1 < arr4.size := by
            have hc4 := o4.keepCell c1 (by simp)
            rw [cell_blk h4] at hc4
            exact (Array.getElem?_eq_some_iff.1 hc4).1
          exact set_cell_at h4 hz _) (by simp; omega)
        refine HH.out.beginMore ha HN.out HX.out ⟨by omega, by omega, hy3, by omega, by omega⟩ (by rw [← HP.out]; exact u7) (by rw [NK.out]; exact hM.keep o7 (by simp; omega) (by simp; omega)) (by rw [NK.out]; exact hE.keep o7 (by simp; omega) (by simp; omega)) (av' := av') ?_ ?_ (fun ad m cp e => ⟨⟨b, off, none⟩, _, _, HAV.out, (VB.out ad m cp e).symm⟩)
        · rw [← HP.out, ← HPK.out]
          exact ⟨cl _ _ (by omega) c0, c1', cl _ _ (by omega) c2, cl _ _ (by omega) c3, cl _ _ (by omega) c4⟩
        · exact ((VV.out.keep0 o4).keep h45 (fun b2 off2 m2 cp2 e _ => by have := VB.out _ _ _ e; simp only at this; simp; omega)).keep o57 (fun b2 off2 m2 cp2 e _ => by have := VB.out _ _ _ e; simp only at this; simp; omega))
      go_upto_region 8 with fail
      have SS : ∀ w', Only [] wc w' → (w'.cell? ⟨w.heap.size, 0, none⟩ = some (.int .i64 0) ∧ w'.cell? ⟨w.heap.size, 1, none⟩ = some (.int .i64 1) ∧ w'.cell? ⟨w.heap.size, 2, none⟩ = some (.int .i64 2) ∧ w'.cell? ⟨w.heap.size, 3, none⟩ = some (.int .i64 c) ∧ w'.cell? ⟨rb, p + 3, none⟩ = some (.int .i64 xv)) := fun w' o => ⟨o.keepCell q0' (by simp), o.keepCell q1' (by simp), o.keepCell q2' (by simp), o.keepCell q3' (by simp), o.keepCell c3 (by simp)⟩
      go_region_held3 (fun w' => w'.cell? ⟨w.heap.size, 0, none⟩ = some (.int .i64 0) ∧ w'.cell? ⟨w.heap.size, 1, none⟩ = some (.int .i64 1) ∧ w'.cell? ⟨w.heap.size, 2, none⟩ = some (.int .i64 2) ∧ w'.cell? ⟨w.heap.size, 3, none⟩ = some (.int .i64 c) ∧ w'.cell? ⟨rb, p + 3, none⟩ = some (.int .i64 xv))
        (first | exact SS _ (Only.refl _ _).drew | exact SS _ O4.out | exact SR _)
        ((first
          | (go_at_call 34
             refine (MK _).out.mono ?_; rintro e w4 ⟨y, fb, rfl, o4, hM4, hy1, hy2, hy3, hy4, hy5⟩
             have O4 : Hid (Only [] wc w4) := Lib.hid (((Only.refl [] wc).drew).then0 o4)
             replace hy1 : wc.heap.size ≤ y := hy1
             replace hy2 : wc.heap.size ≤ fb := hy2
             have M4 := Lib.hid hM4
             have c14 := O4.out.keepCell c1 (by simp)
             have ff4 := free_blk (O4.out.keep HBc.out (by simp)) (p + 1)
             have SR : ∀ (v : Value), (w4.setCell ⟨rb, p + 1, none⟩ v).cell? ⟨w.heap.size, 0, none⟩ = some (.int .i64 0) ∧ (w4.setCell ⟨rb, p + 1, none⟩ v).cell? ⟨w.heap.size, 1, none⟩ = some (.int .i64 1) ∧ (w4.setCell ⟨rb, p + 1, none⟩ v).cell? ⟨w.heap.size, 2, none⟩ = some (.int .i64 2) ∧ (w4.setCell ⟨rb, p + 1, none⟩ v).cell? ⟨w.heap.size, 3, none⟩ = some (.int .i64 c) ∧ (w4.setCell ⟨rb, p + 1, none⟩ v).cell? ⟨rb, p + 3, none⟩ = some (.int .i64 xv) := fun v => ⟨by rw [cell_set_ne (.inl (by omega))]; exact (SS _ O4.out).1, by rw [cell_set_ne (.inl (by omega))]; exact (SS _ O4.out).2.1, by rw [cell_set_ne (.inl (by omega))]; exact (SS _ O4.out).2.2.1, by rw [cell_set_ne (.inl (by omega))]; exact (SS _ O4.out).2.2.2.1, by rw [cell_set_ne (.inr (by omega))]; exact (SS _ O4.out).2.2.2.2⟩
             clear o4 hM4)))
      all_goals
        obtain ⟨w5, hw5⟩ : ∃ w5, w5 = w4.setCell ⟨rb, p + 1, none⟩ (.pointer (some ⟨y, 0, none⟩)) := ⟨_, rfl⟩
        have h45 : Only [rb] w4 w5 := by rw [hw5]; exact (Only.refl _ _).setCell (.inl (by simp)) _
        have c15 : w5.cell? ⟨rb, p + 1, none⟩ = some (.pointer (some ⟨y, 0, none⟩)) := by
          rw [hw5]
          have h4 := O4.out.keep HBc.out (by simp)
          have hz : p + 1 < arrc.size := by
            have hc4 := c14
            rw [cell_blk h4] at hc4
            exact (Array.getElem?_eq_some_iff.1 hc4).1
          exact set_cell_at h4 hz _
        have R5 := STEP y fb w5 w4 O4.out M4.out hy1 hy2 hy3 h45
        have hzx := O4.out.size
        have hsc := CO.out.size
        have Z5 := Lib.hid (h45.keep (O4.out.keep ZBc.out (by simp)) (by simp; omega))
        have HW5 := Lib.hid hw5
        go_upto_region 11 with fail
        rw [← hw5]
        clear hw5 h45
        go_wp2_with fail
        refine R5.out.mono ?_; rintro e w6 ⟨rfl, o6, hM6, hE6⟩
        have O6 := Lib.hid o6
        have M6 := Lib.hid hM6
        have E6 := Lib.hid hE6
        have Z6 := Lib.hid (o6.keep Z5.out (by simp; omega))
        clear o6 hM6 hE6
        go_wp2_with (with_reducible refine wpList_store_agg rfl 36 (.tmp 10) (.tmp 85) rfl zb (opC HOp.zero) rfl rfl 6 rfl #[.int .i64 0, .int .i64 0, .int .i64 0, .int .i64 0, .int .i64 0, .int .i64 0] 36 Z6.out rfl infoOpS rfl ?_)
        intro w7 hst
        obtain ⟨o7, tb⟩ := hst
        have tb := tb _ _ Z6.out rfl
        have RA := Lib.hid (rangeAt_blk tb)
        have FF := FIN y fb w4 w5 w6 w7 O4.out hy1 hy2 hy3 hy4 hy5 HW5.out O6.out M6.out E6.out o7
        clear o7 tb
        go_wp2_with fail
        refine bodyPost_ret (v := .tuple #[HOp.zero.v, .bool false]) ?_ rfl FF.out
        exact run_results_cell_tmp 10 11 36 Tryz.results23 rfl (run_loadVar_mid _ zb 0 36 (opC HOp.zero) _ RA.out Tryz.underlying36 rfl infoOpS) rfl
    · subst hk
      have NK : Hid (newK (q0 c) (1, xv) = newPop (q0 c)) := Lib.hid rfl
      have MK : ∀ w', Hid (Calls Tryz.prog 34 #[.agg #[.int .i64 1, .int .i64 0, .int .i64 0, .int .i64 1, .int .i64 2, .int .i64 c, .int .i64 0, .int .i64 0, .int .i64 0, .int .i64 0, .int .i64 0, .int .i64 0, .int .i64 0, .int .u64 0, .int .u64 0, .int .u64 0, .int .u64 0, .slice none 0 0]] w' (MakePost ⟨1, q0 c, 0, 0, 0, 0, 0, 0, false, 0, 0⟩ w')) := fun w' => Lib.hid (make_any w' ⟨1, q0 c, 0, 0, 0, 0, 0, 0, false, 0, 0⟩ (show (1 : Nat) ≤ 4 by omega) rfl rfl)
      have STEP : ∀ (y fb : Nat) (w' w4 : World), Only [] wc w4 → RMach w4 y fb (newPop (q0 c)) → wc.heap.size ≤ y → wc.heap.size ≤ fb → y ≠ fb → Only [rb] w4 w' → Hid (Calls Tryz.prog 35 #[.pointer (some ⟨y, 0, none⟩), .pointer (some ⟨r, 0, none⟩)] w' (fun e w'' => e = .returned (.bool false) ∧ Only [y, fb, r, rc] w' w'' ∧ RMach w'' y fb (stepK (newPop (q0 c)) g.mem).1 ∧ REnvAt w'' r rc (stepK (newPop (q0 c)) g.mem).2 0)) := fun y fb w' w4 o4 hM hy1 hy2 hy3 o5 => Lib.hid (by
        have hs4 := o4.size
        have hs5 := o5.size
        have hsc := CO.out.size
        have hok := newK_ok (x := (1, xv)) hc
        rw [NK.out] at hok
        have hh := rstep_any w' y fb r rc 0 (newPop (q0 c)) g.mem (show (1 : Nat) ≤ 4 by omega) (fun _ => hok) (fun _ => ⟨rfl, rfl⟩) ⟨⟨by omega, by omega⟩, by omega, by omega, hy3⟩ (by omega) (hM.keep o5 (by simp; omega) (by simp; omega)) (((HH.out.E.keep CO.out (by simp; omega) (by simp; omega)).keep o4 (by simp) (by simp)).keep o5 (by simp; omega) (by simp; omega)) (by omega)
        unfold RStep at hh
        rw [show (stepK (newPop (q0 c)) g.mem).1.over = false from rfl] at hh
        exact hh)
      have FIN : ∀ (y fb : Nat) (w4 w5 w6 w7 : World), Only [] wc w4 → wc.heap.size ≤ y → wc.heap.size ≤ fb → y ≠ fb → y < w4.heap.size → fb < w4.heap.size → w5 = w4.setCell ⟨rb, p + 1, none⟩ (.pointer (some ⟨y, 0, none⟩)) → Only [y, fb, r, rc] w5 w6 → RMach w6 y fb (stepK (newPop (q0 c)) g.mem).1 → REnvAt w6 r rc (stepK (newPop (q0 c)) g.mem).2 0 → Only [zb] w6 w7 →
          Hid (ActPost w0 B n c rb r rc g ((g.set a ⟨rr, some (newK (q0 c) (1, xv), op0 a g.pick (1, xv))⟩).stepped a (newK (q0 c) (1, xv)) (op0 a g.pick (1, xv))) w (.returned (.tuple #[HOp.zero.v, .bool false])) w7) := fun y fb w4 w5 w6 w7 o4 hy1 hy2 hy3 hy4 hy5 e5 o6 hM hE o7 => Lib.hid (by
        have hs4 := o4.size
        have hs6 := o6.size
        have hs7 := o7.size
        have hsc := CO.out.size
        have h45 : Only [rb] w4 w5 := by rw [e5]; exact (Only.refl _ _).setCell (.inl (by simp)) _
        have hs5 := h45.size
        have hS : rb ∉ [y, fb, r, rc] := by simp; omega
        have u5 : Chg [y, fb, r, rc] rb p (p + 5) w w5 := by rw [e5]; exact ((((CH.out.then0 hrl o4)).mono (T := [y, fb, r, rc]) (by simp)).set (by omega) _)
        have u7 := (u5.then hrl hS o6).thenN hrl (T := [zb]) (fun t ht => by simp at ht; omega) o7
        have hzr : zb ≠ rb ∧ zb ≠ b ∧ b ≠ y ∧ b ≠ fb ∧ zb ≠ y ∧ zb ≠ fb ∧ zb ≠ r ∧ zb ≠ rc := by omega
        have o57 : Only [y, fb, r, rc, zb] w5 w7 := (o6.mono (by simp)).trans (o7.mono (by simp)) (fun t ht => .inl ht)
        have cl : ∀ j v, j ≠ p + 1 → wc.cell? ⟨rb, j, none⟩ = some v → w7.cell? ⟨rb, j, none⟩ = some v := fun j v hj hv => o57.keepCell (by rw [e5, cell_set_ne (.inr hj)]; exact o4.keepCell hv (by simp)) (by simp; omega)
        have c1' : w7.cell? ⟨rb, p + 1, none⟩ = some (.pointer (some ⟨y, 0, none⟩)) := o57.keepCell (by
          rw [e5]
          obtain ⟨arr4, h4⟩ := (CH.out.then0 hrl o4).h _ HB.out
          have hz : p + 1 < arr4.size := by
            have hc4 := o4.keepCell c1 (by simp)
            rw [cell_blk h4] at hc4
            exact (Array.getElem?_eq_some_iff.1 hc4).1
          exact set_cell_at h4 hz _) (by simp; omega)
        refine HH.out.beginMore ha HN.out HX.out ⟨by omega, by omega, hy3, by omega, by omega⟩ (by rw [← HP.out]; exact u7) (by rw [NK.out]; exact hM.keep o7 (by simp; omega) (by simp; omega)) (by rw [NK.out]; exact hE.keep o7 (by simp; omega) (by simp; omega)) (av' := av') ?_ ?_ (fun ad m cp e => ⟨⟨b, off, none⟩, _, _, HAV.out, (VB.out ad m cp e).symm⟩)
        · rw [← HP.out, ← HPK.out]
          exact ⟨cl _ _ (by omega) c0, c1', cl _ _ (by omega) c2, cl _ _ (by omega) c3, cl _ _ (by omega) c4⟩
        · exact ((VV.out.keep0 o4).keep h45 (fun b2 off2 m2 cp2 e _ => by have := VB.out _ _ _ e; simp only at this; simp; omega)).keep o57 (fun b2 off2 m2 cp2 e _ => by have := VB.out _ _ _ e; simp only at this; simp; omega))
      go_wp2_with fail
      refine (MK _).out.mono ?_; rintro e w4 ⟨y, fb, rfl, o4, hM4, hy1, hy2, hy3, hy4, hy5⟩
      have O4 : Hid (Only [] wc w4) := Lib.hid o4
      have M4 := Lib.hid hM4
      have c14 := O4.out.keepCell c1 (by simp)
      have ff4 := free_blk (O4.out.keep HBc.out (by simp)) (p + 1)
      clear o4 hM4
      obtain ⟨w5, hw5⟩ : ∃ w5, w5 = w4.setCell ⟨rb, p + 1, none⟩ (.pointer (some ⟨y, 0, none⟩)) := ⟨_, rfl⟩
      have h45 : Only [rb] w4 w5 := by rw [hw5]; exact (Only.refl _ _).setCell (.inl (by simp)) _
      have c15 : w5.cell? ⟨rb, p + 1, none⟩ = some (.pointer (some ⟨y, 0, none⟩)) := by
        rw [hw5]
        have h4 := O4.out.keep HBc.out (by simp)
        have hz : p + 1 < arrc.size := by
          have hc4 := c14
          rw [cell_blk h4] at hc4
          exact (Array.getElem?_eq_some_iff.1 hc4).1
        exact set_cell_at h4 hz _
      have R5 := STEP y fb w5 w4 O4.out M4.out hy1 hy2 hy3 h45
      have hzx := O4.out.size
      have hsc := CO.out.size
      have Z5 := Lib.hid (h45.keep (O4.out.keep ZBc.out (by simp)) (by simp; omega))
      have HW5 := Lib.hid hw5
      go_upto_region 11 with fail
      rw [← hw5]
      clear hw5 h45
      go_wp2_with fail
      refine R5.out.mono ?_; rintro e w6 ⟨rfl, o6, hM6, hE6⟩
      have O6 := Lib.hid o6
      have M6 := Lib.hid hM6
      have E6 := Lib.hid hE6
      have Z6 := Lib.hid (o6.keep Z5.out (by simp; omega))
      clear o6 hM6 hE6
      go_wp2_with (with_reducible refine wpList_store_agg rfl 36 (.tmp 10) (.tmp 85) rfl zb (opC HOp.zero) rfl rfl 6 rfl #[.int .i64 0, .int .i64 0, .int .i64 0, .int .i64 0, .int .i64 0, .int .i64 0] 36 Z6.out rfl infoOpS rfl ?_)
      intro w7 hst
      obtain ⟨o7, tb⟩ := hst
      have tb := tb _ _ Z6.out rfl
      have RA := Lib.hid (rangeAt_blk tb)
      have FF := FIN y fb w4 w5 w6 w7 O4.out hy1 hy2 hy3 hy4 hy5 HW5.out O6.out M6.out E6.out o7
      clear o7 tb
      go_wp2_with fail
      refine bodyPost_ret (v := .tuple #[HOp.zero.v, .bool false]) ?_ rfl FF.out
      exact run_results_cell_tmp 10 11 36 Tryz.results23 rfl (run_loadVar_mid _ zb 0 36 (opC HOp.zero) _ RA.out Tryz.underlying36 rfl infoOpS) rfl
    · subst hk
      have NK : Hid (newK (q0 c) (2, xv) = newSteal (q0 c)) := Lib.hid rfl
      have MK : ∀ w', Hid (Calls Tryz.prog 34 #[.agg #[.int .i64 2, .int .i64 0, .int .i64 0, .int .i64 1, .int .i64 2, .int .i64 c, .int .i64 0, .int .i64 0, .int .i64 0, .int .i64 0, .int .i64 0, .int .i64 0, .int .i64 0, .int .u64 0, .int .u64 0, .int .u64 0, .int .u64 0, .slice none 0 0]] w' (MakePost ⟨2, q0 c, 0, 0, 0, 0, 0, 0, false, 0, 0⟩ w')) := fun w' => Lib.hid (make_any w' ⟨2, q0 c, 0, 0, 0, 0, 0, 0, false, 0, 0⟩ (show (2 : Nat) ≤ 4 by omega) rfl rfl)
      have STEP : ∀ (y fb : Nat) (w' w4 : World), Only [] wc w4 → RMach w4 y fb (newSteal (q0 c)) → wc.heap.size ≤ y → wc.heap.size ≤ fb → y ≠ fb → Only [rb] w4 w' → Hid (Calls Tryz.prog 35 #[.pointer (some ⟨y, 0, none⟩), .pointer (some ⟨r, 0, none⟩)] w' (fun e w'' => e = .returned (.bool false) ∧ Only [y, fb, r, rc] w' w'' ∧ RMach w'' y fb (stepK (newSteal (q0 c)) g.mem).1 ∧ REnvAt w'' r rc (stepK (newSteal (q0 c)) g.mem).2 0)) := fun y fb w' w4 o4 hM hy1 hy2 hy3 o5 => Lib.hid (by
        have hs4 := o4.size
        have hs5 := o5.size
        have hsc := CO.out.size
        have hok := newK_ok (x := (2, xv)) hc
        rw [NK.out] at hok
        have hh := rstep_any w' y fb r rc 0 (newSteal (q0 c)) g.mem (show (2 : Nat) ≤ 4 by omega) (fun _ => hok) (fun _ => ⟨rfl, rfl⟩) ⟨⟨by omega, by omega⟩, by omega, by omega, hy3⟩ (by omega) (hM.keep o5 (by simp; omega) (by simp; omega)) (((HH.out.E.keep CO.out (by simp; omega) (by simp; omega)).keep o4 (by simp) (by simp)).keep o5 (by simp; omega) (by simp; omega)) (by omega)
        unfold RStep at hh
        rw [show (stepK (newSteal (q0 c)) g.mem).1.over = false from rfl] at hh
        exact hh)
      have FIN : ∀ (y fb : Nat) (w4 w5 w6 w7 : World), Only [] wc w4 → wc.heap.size ≤ y → wc.heap.size ≤ fb → y ≠ fb → y < w4.heap.size → fb < w4.heap.size → w5 = w4.setCell ⟨rb, p + 1, none⟩ (.pointer (some ⟨y, 0, none⟩)) → Only [y, fb, r, rc] w5 w6 → RMach w6 y fb (stepK (newSteal (q0 c)) g.mem).1 → REnvAt w6 r rc (stepK (newSteal (q0 c)) g.mem).2 0 → Only [zb] w6 w7 →
          Hid (ActPost w0 B n c rb r rc g ((g.set a ⟨rr, some (newK (q0 c) (2, xv), op0 a g.pick (2, xv))⟩).stepped a (newK (q0 c) (2, xv)) (op0 a g.pick (2, xv))) w (.returned (.tuple #[HOp.zero.v, .bool false])) w7) := fun y fb w4 w5 w6 w7 o4 hy1 hy2 hy3 hy4 hy5 e5 o6 hM hE o7 => Lib.hid (by
        have hs4 := o4.size
        have hs6 := o6.size
        have hs7 := o7.size
        have hsc := CO.out.size
        have h45 : Only [rb] w4 w5 := by rw [e5]; exact (Only.refl _ _).setCell (.inl (by simp)) _
        have hs5 := h45.size
        have hS : rb ∉ [y, fb, r, rc] := by simp; omega
        have u5 : Chg [y, fb, r, rc] rb p (p + 5) w w5 := by rw [e5]; exact ((((CH.out.then0 hrl o4)).mono (T := [y, fb, r, rc]) (by simp)).set (by omega) _)
        have u7 := (u5.then hrl hS o6).thenN hrl (T := [zb]) (fun t ht => by simp at ht; omega) o7
        have hzr : zb ≠ rb ∧ zb ≠ b ∧ b ≠ y ∧ b ≠ fb ∧ zb ≠ y ∧ zb ≠ fb ∧ zb ≠ r ∧ zb ≠ rc := by omega
        have o57 : Only [y, fb, r, rc, zb] w5 w7 := (o6.mono (by simp)).trans (o7.mono (by simp)) (fun t ht => .inl ht)
        have cl : ∀ j v, j ≠ p + 1 → wc.cell? ⟨rb, j, none⟩ = some v → w7.cell? ⟨rb, j, none⟩ = some v := fun j v hj hv => o57.keepCell (by rw [e5, cell_set_ne (.inr hj)]; exact o4.keepCell hv (by simp)) (by simp; omega)
        have c1' : w7.cell? ⟨rb, p + 1, none⟩ = some (.pointer (some ⟨y, 0, none⟩)) := o57.keepCell (by
          rw [e5]
          obtain ⟨arr4, h4⟩ := (CH.out.then0 hrl o4).h _ HB.out
          have hz : p + 1 < arr4.size := by
            have hc4 := o4.keepCell c1 (by simp)
            rw [cell_blk h4] at hc4
            exact (Array.getElem?_eq_some_iff.1 hc4).1
          exact set_cell_at h4 hz _) (by simp; omega)
        refine HH.out.beginMore ha HN.out HX.out ⟨by omega, by omega, hy3, by omega, by omega⟩ (by rw [← HP.out]; exact u7) (by rw [NK.out]; exact hM.keep o7 (by simp; omega) (by simp; omega)) (by rw [NK.out]; exact hE.keep o7 (by simp; omega) (by simp; omega)) (av' := av') ?_ ?_ (fun ad m cp e => ⟨⟨b, off, none⟩, _, _, HAV.out, (VB.out ad m cp e).symm⟩)
        · rw [← HP.out, ← HPK.out]
          exact ⟨cl _ _ (by omega) c0, c1', cl _ _ (by omega) c2, cl _ _ (by omega) c3, cl _ _ (by omega) c4⟩
        · exact ((VV.out.keep0 o4).keep h45 (fun b2 off2 m2 cp2 e _ => by have := VB.out _ _ _ e; simp only at this; simp; omega)).keep o57 (fun b2 off2 m2 cp2 e _ => by have := VB.out _ _ _ e; simp only at this; simp; omega))
      go_wp2_with fail
      refine (MK _).out.mono ?_; rintro e w4 ⟨y, fb, rfl, o4, hM4, hy1, hy2, hy3, hy4, hy5⟩
      have O4 : Hid (Only [] wc w4) := Lib.hid o4
      have M4 := Lib.hid hM4
      have c14 := O4.out.keepCell c1 (by simp)
      have ff4 := free_blk (O4.out.keep HBc.out (by simp)) (p + 1)
      clear o4 hM4
      obtain ⟨w5, hw5⟩ : ∃ w5, w5 = w4.setCell ⟨rb, p + 1, none⟩ (.pointer (some ⟨y, 0, none⟩)) := ⟨_, rfl⟩
      have h45 : Only [rb] w4 w5 := by rw [hw5]; exact (Only.refl _ _).setCell (.inl (by simp)) _
      have c15 : w5.cell? ⟨rb, p + 1, none⟩ = some (.pointer (some ⟨y, 0, none⟩)) := by
        rw [hw5]
        have h4 := O4.out.keep HBc.out (by simp)
        have hz : p + 1 < arrc.size := by
          have hc4 := c14
          rw [cell_blk h4] at hc4
          exact (Array.getElem?_eq_some_iff.1 hc4).1
        exact set_cell_at h4 hz _
      have R5 := STEP y fb w5 w4 O4.out M4.out hy1 hy2 hy3 h45
      have hzx := O4.out.size
      have hsc := CO.out.size
      have Z5 := Lib.hid (h45.keep (O4.out.keep ZBc.out (by simp)) (by simp; omega))
      have HW5 := Lib.hid hw5
      go_upto_region 11 with fail
      rw [← hw5]
      clear hw5 h45
      go_wp2_with fail
      refine R5.out.mono ?_; rintro e w6 ⟨rfl, o6, hM6, hE6⟩
      have O6 := Lib.hid o6
      have M6 := Lib.hid hM6
      have E6 := Lib.hid hE6
      have Z6 := Lib.hid (o6.keep Z5.out (by simp; omega))
      clear o6 hM6 hE6
      go_wp2_with (with_reducible refine wpList_store_agg rfl 36 (.tmp 10) (.tmp 85) rfl zb (opC HOp.zero) rfl rfl 6 rfl #[.int .i64 0, .int .i64 0, .int .i64 0, .int .i64 0, .int .i64 0, .int .i64 0] 36 Z6.out rfl infoOpS rfl ?_)
      intro w7 hst
      obtain ⟨o7, tb⟩ := hst
      have tb := tb _ _ Z6.out rfl
      have RA := Lib.hid (rangeAt_blk tb)
      have FF := FIN y fb w4 w5 w6 w7 O4.out hy1 hy2 hy3 hy4 hy5 HW5.out O6.out M6.out E6.out o7
      clear o7 tb
      go_wp2_with fail
      refine bodyPost_ret (v := .tuple #[HOp.zero.v, .bool false]) ?_ rfl FF.out
      exact run_results_cell_tmp 10 11 36 Tryz.results23 rfl (run_loadVar_mid _ zb 0 36 (opC HOp.zero) _ RA.out Tryz.underlying36 rfl infoOpS) rfl
end Go.Proofs.YtfhkhknnoepfeaaGreat

/- A pick of an actor of the reference's game; the acts that a machine can perform. -/
namespace Go.Proofs.YtfhkhknnoepfeaaGreat
open Go.RowKit
set_option linter.unusedVariables false

set_option maxRecDepth 100000 in
theorem can_any (w : World) (num xk xv : Int) (hn : 0 ≤ num) :
    Calls Tryz.prog 22 #[.int .i64 num, .agg #[.int .i64 xk, .int .i64 xv]] w fun e w' => e = .returned (.bool (ableB num (xk, xv))) ∧ Only [] w w' := by
  have hb : ableB num (xk, xv) = (if num = 0 then decide (xk = 0) || decide (xk = 1) else decide (xk = 2)) := by
    unfold ableB
    by_cases h0 : num = 0
    · subst h0; simp
    · simp [h0]; intro _; omega
  rw [hb]
  by_cases h0 : num = 0
  · subst h0
    rw [if_pos rfl]
    by_cases h1 : xk = 0
    · subst h1
      go_enter Tryz.func22, Tryz.ntmps22
      go_wp2_with fail
      go_ret
      exact ⟨by simp, (Only.refl _ _).alloc _⟩
    · have e1 : (xk == 0) = false := by simp [h1]
      go_enter Tryz.func22, Tryz.ntmps22
      go_wp2_with fail
      go_ret
      exact ⟨by simp; rw [Bool.eq_iff_iff]; simp, (Only.refl _ _).alloc _⟩
  · rw [if_neg h0]
    have e1 : (num == 0) = false := by simp [h0]
    go_enter Tryz.func22, Tryz.ntmps22
    go_wp2_with fail
    go_ret
    exact ⟨by simp; rw [Bool.eq_iff_iff]; simp, (Only.refl _ _).alloc _⟩

theorem RG.same {w0 w : World} {B n c rb r rc : Nat} {ys fs : Nat → Nat} {avs mvs : Nat → Value} {kks vvs : Nat → Int} {g g' : Gm} (h : RG w0 w B n c rb r rc ys fs avs mvs kks vvs g) (h1 : g'.mem = g.mem) (h2 : g'.acs = g.acs) : RG w0 w B n c rb r rc ys fs avs mvs kks vvs g' := by
  refine ⟨by rw [h1]; exact h.E, by rw [h2]; exact h.A, h.H, by rw [h2]; exact h.V, h.VB, by rw [h2]; exact h.N, by rw [h2]; exact h.M, by rw [h2]; exact h.D, h.F, h.lt⟩
theorem RG.keep0 {w0 w w' : World} {B n c rb r rc : Nat} {ys fs : Nat → Nat} {avs mvs : Nat → Value} {kks vvs : Nat → Int} {g : Gm} (h : RG w0 w B n c rb r rc ys fs avs mvs kks vvs g) (o : Only [] w w') : RG w0 w' B n c rb r rc ys fs avs mvs kks vvs g := by
  obtain ⟨l1, l2, l3, l4, l5, l6, l7, l8, l9, l10⟩ := h.lt
  have hs := o.size
  refine ⟨h.E.keep o (by simp) (by simp), fun a ha => ?_, ?_, fun a ha => (h.V a ha).keep0 o, h.VB, h.N, fun a k op ha hn => ?_, h.D, h.F.then0 o, ⟨l1, l2, l3, l4, l5, l6, l7, l8, l9, by omega⟩⟩
  · obtain ⟨c0, c1, c2, c3, c4⟩ := h.A a ha
    exact ⟨o.keepCell c0 (by simp), o.keepCell c1 (by simp), o.keepCell c2 (by simp), o.keepCell c3 (by simp), o.keepCell c4 (by simp)⟩
  · obtain ⟨arr, hh⟩ := h.H; exact ⟨arr, o.keep hh (by simp)⟩
  · obtain ⟨m1, m2, m3, m4, m5, m6, m7⟩ := h.M a k op ha hn
    exact ⟨m1.keep o (by simp) (by simp), m2, m3, m4, m5, by omega, by omega⟩

theorem RG.keepOp {w0 w w' : World} {B n c rb r rc : Nat} {ys fs : Nat → Nat} {avs mvs : Nat → Value} {kks vvs : Nat → Int} {g : Gm} (hk : RG w0 w B n c rb r rc ys fs avs mvs kks vvs g) {S : List Nat} (o2 : Only S w w') (hS : ∀ t ∈ S, B ≤ t ∧ ∃ arr z, w.heap[t]? = some (.cells arr 36 z)) : RG w0 w' B n c rb r rc ys fs avs mvs kks vvs g := by
  have low : ∀ b, b < B → b ∉ S := fun b hb hm => by have := (hS b hm).1; omega
  have ty : ∀ {b : Nat} {arr : Array Value} {T : TypeId} {z : Nat × Nat}, w.heap[b]? = some (.cells arr T z) → T ≠ 36 → b ∉ S := fun hb hT hm => by
    obtain ⟨_, arr2, z2, hh⟩ := hS _ hm
    exact typ_ne hb hh hT rfl
  obtain ⟨l1, l2, l3, l4, l5, l6, l7, l8, l9, l10⟩ := hk.lt
  have hs := o2.size
  refine ⟨hk.E.keep o2 (low _ l1) (low _ l2), fun a ha => ?_, ?_, fun a ha => ?_, hk.VB, hk.N, fun a k op ha hn => ?_, hk.D, (hk.F.mono (by simp)).trans o2 (fun t ht => .inr (by have := (hS t ht).1; omega)), ⟨l1, l2, l3, l4, l5, l6, l7, l8, l9, by omega⟩⟩
  · obtain ⟨c0, c1, c2, c3, c4⟩ := hk.A a ha
    have := low _ l3
    exact ⟨o2.keepCell c0 this, o2.keepCell c1 this, o2.keepCell c2 this, o2.keepCell c3 this, o2.keepCell c4 this⟩
  · obtain ⟨arr, hh⟩ := hk.H; exact ⟨arr, o2.keep hh (low _ l3)⟩
  · exact (hk.V a ha).keep o2 (fun b off m cp e _ => low _ (by have := (hk.VB a ha _ _ _ e).1; simpa using this))
  · obtain ⟨m1, m2, m3, m4, m5, m6, m7⟩ := hk.M a k op ha hn
    cases hov : k.over with
    | false =>
      obtain ⟨z1, z2⟩ := m1.run hov
      exact ⟨m1.keep o2 (ty z1 (by decide)) (ty z2 (by decide)), m2, m3, m4, m5, by omega, by omega⟩
    | true =>
      have z1 := m1.fin hov
      exact ⟨⟨(fun e => by rw [hov] at e; cases e), fun e => o2.keep (m1.fin e) (ty z1 (by decide))⟩, m2, m3, m4, m5, by omega, by omega⟩

theorem refAct_any {w0 : World} (w : World) {B n c rb r rc : Nat} {ys fs : Nat → Nat} {avs mvs : Nat → Value} {kks vvs : Nat → Int} {g : Gm} (h : RG w0 w B n c rb r rc ys fs avs mvs kks vvs g) (hg : GX c g) (hc : c ≤ 1000000) (hcb : g.mem.count ≤ g.pick) (hp : g.pick < 900000) {a : Nat} (ha : a < n) :
    Calls Tryz.prog 23 #[.pointer (some ⟨r, 0, none⟩), .agg #[.int .i64 0, .int .i64 1, .int .i64 2, .int .i64 c], .pointer (some ⟨rb, a * 5, none⟩), .int .i64 a, .int .i64 g.pick] w (ActPost w0 B n c rb r rc g (gstep (q0 c) g a) w) := by
  have hs := gstep_is (q0 c) g a
  generalize Go.Proofs.YtfhkhknnoepfeaaGreat.gstep (q0 c) g a = g' at hs
  cases hs with
  | idle h1 h2 =>
    have hA := h.A a ha
    rw [show sinceOf (g.acs a) = -1 by unfold sinceOf; rw [h1]] at hA
    obtain ⟨ao, cp, hav, _, _, _⟩ := h.V a ha
    rw [hav, h2] at hA
    refine (refAct_idle w r rb (a * 5) cp ao c a g.pick _ _ _ hA).mono ?_
    rintro e w' ⟨rfl, o⟩
    exact ⟨HOp.zero, false, ys, fs, avs, mvs, kks, vvs, rfl, (h.keep0 o).same rfl rfl, fun v m xs hv => owns_keep hv o, .inl ⟨rfl, rfl⟩, (fun b obj _ _ _ _ hb => o.keep hb (by simp)), (fun b arr z _ hb => o.keep hb (by simp)), o.size⟩
  | more k o h1 => exact refAct_go w h hg hcb hp ha h1
  | begin x rr h1 h2 =>
    refine refAct_begin w h hc hcb hp ha h1 h2 ?_
    obtain ⟨t, L, res, H, S, hh⟩ := hg
    rcases Nat.eq_zero_or_pos a with e | e
    · subst e
      have := (hh.C.acts0 x (by rw [h2]; simp)).1
      omega
    · have := hh.C.actsN a e x (by rw [h2]; simp)
      omega
end Go.Proofs.YtfhkhknnoepfeaaGreat
